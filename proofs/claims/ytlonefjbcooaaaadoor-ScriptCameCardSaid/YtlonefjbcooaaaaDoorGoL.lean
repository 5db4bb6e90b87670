/-
  Rows made and grown inside a region that draws its order, at any type.
-/
import Derived.Test.YtlonefjbcooaaaaDoorScA
import Derived.Test.YtlonefjbcooaaaaDoorMixU
import Derived.Test.YtlonefjbcooaaaaDoorMixO
import Derived.Great.BuildSlice
import Derived.Deep.AppendSrc
import Derived.Deep.Upon
namespace Go.Proofs.YtlonefjbcooaaaaDoor
open Go.RowKit
set_option maxRecDepth 100000
section
variable {P : Program} {a : Act} {o : Oper}
theorem goL_mono {W : World} {T T' : Value → World → Prop} (h : Oper.goes P o a W T) (ht : ∀ v w', T v w' → T' v w') : Oper.goes P o a W T' := by
  unfold Oper.goes at *
  generalize (execOp a.eval o).run P W = r at *
  cases r with
  | ok n w' =>
    cases n <;> simp only [Oper.goesUpon] at h ⊢
    case value u => exact ht _ _ h
    case skip => exact ht _ _ h
    case enter f args => exact h.mono fun e w'' ⟨v, he, hh⟩ => ⟨v, he, ht _ _ hh⟩
  | halt x w' => simp only [Oper.goesUpon] at h
theorem goL_bs {W : World} (t e : TypeId) (len : Nat) (parts : Array (Nat × Operand)) (ho : o.op = .buildSlice t len parts) (cells : Array Value) (ie : TypeInfo) (z : Value)
    (hu : P.underlying t = some (.slice e)) (hie : P.info? e = some ie) (hz : ie.zero = some z) (hsmall : ¬ len * ie.size > 2 ^ 24) (hpos : ¬ len * ie.size = 0)
    (hf : Instr.fill (fun i => some (i * ie.size, ie.size)) ((Array.range (len * ie.size)).map (z.cells[· % z.cells.size]!)) (parts.map fun (i, x) => (i, a.eval x)).toList = some cells) :
    Oper.goes P o a W (fun v W' => v = .slice (some ⟨W.heap.size, 0, none⟩) len len ∧ W' = W.alloc (.cells cells e)) := by
  unfold Oper.goes execOp
  simp only [ho, Sem.run_bind, run_buildSlice W t e len _ cells ie z hu hie hz hsmall hpos hf, Result.andThen_ok]
  exact ⟨rfl, rfl⟩
end
theorem goL_one {P : Program} {o : Oper} {a : Act} {W : World} (ty : TypeId) (x y : Operand) (ho : o.op = .store ty x y) (b i : Nat) (u : Value) (hx : a.eval x = .pointer (some ⟨b, i, none⟩)) (hy : a.eval y = u) (ht : W.there b i 1) (hi : (P.info? ty).map (·.size) = some 1) (hc : u.cells = #[u]) (h1 : u.oneCell' = true) {T : Value → World → Prop} (hT : T undef (W.setCell ⟨b, i, none⟩ u)) :
    Oper.goes P o a W T := by
  have hr : (execOp a.eval o).run P W = .ok .skip (W.setCell ⟨b, i, none⟩ u) := by
    unfold execOp
    simp only [ho, hx, hy, Instr.storeAt, Instr.sureAddr, Sem.run_bind, Sem.run_pure, Result.andThen_ok, run_storeVar_cell W b i ty u ht hi hc h1]
  unfold Oper.goes
  rw [hr]
  exact hT
theorem grown_below {W W1 W2 : World} {row : Option Nat} (h : W.grownBy W1 row) (hb : Below W1.heap.size W1 W2) : W.grownBy W2 row :=
  ⟨hb.os.trans h.os, hb.tape.trans h.tape, hb.output.trans h.output, Nat.le_trans h.size hb.size, fun k hk hr => (hb.block k (Nat.lt_of_lt_of_le hk h.size)).trans (h.block k hk hr)⟩
/-- A row of one element of one cell. -/
theorem goL_bs1 {α : Type} {T E : TypeId} {f : α → List Value} (hT : AppT T E 1 f) {W : World} {o : Oper} {a : Act} (y : Operand) (ho : o.op = .buildSlice T 1 #[(0, y)]) (x : Value) (hx : x.cells = #[x]) (hy : a.eval y = x) :
    Oper.goes Tryd.prog o a W (fun v W' => v = .slice (some ⟨W.heap.size, 0, none⟩) 1 1 ∧ W' = W.alloc (.cells #[x] E)) := by
  obtain ⟨ht, ⟨i, z, hi, hz, hk, hb, hzs, hk0⟩, -, -⟩ := hT
  refine goL_bs T E 1 _ ho _ i z ht hi hz (by rw [hk]; decide) (by rw [hk]; decide) ?_
  rw [hk]
  simp only [List.map_toArray, List.map_cons, List.map_nil, hy]
  simp [Instr.fill, hx]
  apply Array.ext
  · simp
  · intro j h1 h2
    obtain rfl : j = 0 := by simp at h2; omega
    simp
theorem goL_app {α : Type} {T E : TypeId} {k : Nat} {f : α → List Value} (hT : AppT T E k f) {W : World} {o : Oper} {a : Act} (s x : Operand) (ho : o.op = .call { callee := .builtin .append, args := #[s, x], argTypes := #[T, T] })
    (base : Nat) (u : Value) (L M : List α) (hown : OwnL W base E k u f L) (hs : a.eval s = u)
    (B : Nat) (A : Option Addr) (m c : Nat) (hm : m = M.length) (hx : a.eval x = .slice A m c) (hr : Rd W B A (M.flatMap f)) (hn : L.length + M.length ≤ 1000000000) (hbase : base ≤ W.heap.size) :
    Oper.goes Tryd.prog o a W (fun v' W' => OwnL W' base E k v' f (L ++ M) ∧ W.grownBy W' u.ownBlock) := by
  subst hm
  obtain ⟨ht, ⟨i, z, hi, hz, hk, hb, hzs, hk0⟩, hf, h1⟩ := hT
  have hby : (L.length + M.length) * i.bytes ≤ 1000000000 * 140 := Nat.mul_le_mul hn hb
  obtain ⟨v', w', hrun, h2, h3, -⟩ := append_rd_run (P := Tryd.prog) W base T o.type E i z k i.bytes ht hi hz hk rfl hzs hk0 u L.length (L.flatMap f) hown B A M.length c (M.flatMap f) (length_flatMap_const _ _ hf _) hr (rd_none hf hk0 hr) (fun u hu => by
    obtain ⟨e, -, he⟩ := List.mem_flatMap.1 hu
    exact h1 e u he) (by unfold maxLen; omega) (by omega) hbase
  have hr : (execOp a.eval o).run Tryd.prog W = .ok (.value v') w' := by
    unfold execOp
    simp only [ho, resolve, invoke, builtin, Sem.run_bind, Sem.run_pure, Result.andThen_ok, List.map_toArray, List.map_cons, List.map_nil, hs, hx, hrun]
  unfold Oper.goes
  rw [hr]
  exact ⟨OwnL.app rfl h2, h3⟩
section
variable {α β : Type} {w w' : World} {base base' : Nat} {E E' : TypeId} {m m' : Nat} {v v' : Value} {f : α → List Value} {f' : β → List Value} {l : List α} {l' : List β}
/-- Another row grew: of another type of elements. -/
theorem OwnL.keptApart (h : OwnL w base E m v f l) (h' : OwnL w base' E' m' v' f' l') (hne : E ≠ E') (hg : w.grownBy w' v'.ownBlock) : OwnL w' base E m v f l := by
  refine h.kept hg ?_
  cases hv : v.ownBlock with
  | none => exact .inl rfl
  | some g =>
    right
    intro e
    exact h.apart h' hne e.symm hv
theorem Blk.keptApart {g : Nat} {cs : Array Value} (h : Blk w g E cs) (h' : OwnL w base' E' m' v' f' l') (hne : E ≠ E') (hg : w.grownBy w' v'.ownBlock) : Blk w' g E cs := h.grown hg (fun e => (h.apart h' hne) e)
end
end Go.Proofs.YtlonefjbcooaaaaDoor
