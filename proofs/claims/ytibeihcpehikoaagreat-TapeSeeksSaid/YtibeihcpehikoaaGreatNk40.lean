/-
  The walks beneath: Played, MixS, Match.
-/
import Derived.Shelf.Abstract
import Derived.Shelf.RegionOpen
import Derived.TacticsInMore
import Derived.LoopNIn
import Derived.LoopIn
import Derived.Great.BuildSlice
import Derived.Test.YtibeihcpehikoaaGreatNk39
namespace Go.Proofs.YtibeihcpehikoaaGreat
set_option maxRecDepth 100000
set_option linter.unusedSimpArgs false
section
open Go.RowKit Go.Shelf
attribute [local go_sem] Oper.semAt_some
theorem grown_of {A B : World} (h : Below A.heap.size A B) : A.grownBy B none := ⟨h.os, h.tape, h.output, h.size, fun k hk _ => h.block k hk⟩
theorem grownBy_setCells (w : World) (g o : Nat) (vs : List Value) : w.grownBy (w.setCells g o vs) (some g) :=
 ⟨(setCells_rest w g vs o).1, (setCells_rest w g vs o).2.1, (setCells_rest w g vs o).2.2, by rw [setCells_size]; exact zL _, fun k _ hne => setCells_block w g vs o k (fun e => hne (by rw [e]))⟩
theorem wpListIn_runs {F : Fence} {n : Nat} {P : Program} {ops : Array Oper} {rest : List Oper} {o : Oper} {a : Act} {w : World} {Q : Exit → Act → World → Prop} (v : Value) (hw : Region.wanted o (yielded ops a.tmps) = true) (hd : ∀ c, o.op ≠ .defer c) (ha : o.about P w a.eval = none) (hr : RunsTo P o a w v) (h : wpListIn F n P ops Q rest (a.put o.dst v) w) : wpListIn F n P ops Q (o :: rest) a w := by
 unfold wpListIn
 rw [if_pos hw]
 refine ⟨fun f hf => (by rw [ha] at hf; cases hf), ?_⟩
 rw [Oper.semAt_plain _ _ _ hd]
 unfold RunsTo at hr
 rw [hr]
 exact h
theorem runs_load {P : Program} {o : Oper} {a : Act} {w : World} (ty : TypeId) (x : Operand) (ho : o.op = .load ty x) (b i : Nat) (hx : a.eval x = .pointer (some ⟨b, i, none⟩)) (cs : List Value) (d : TypeDesc) (hc : w.rangeAt b i cs) (hu : P.underlying ty = some d) (hd : d.isRow = true) (hi : (P.info? ty).map (·.size) = some cs.length) : RunsTo P o a w (.agg cs.toArray) := by
 unfold RunsTo execOp
 simp only [ho, hx, Instr.loadAt, Instr.sureAddr, Sem.run_bind, Sem.run_pure, Result.andThen_ok, run_loadVar_mid w b i ty cs d hc hu hd hi]
theorem wpListIn_yield {F : Fence} {n : Nat} {P : Program} {ops : Array Oper} {rest : List Oper} {o : Oper} {a : Act} {w w' : World} {Q : Exit → Act → World → Prop} {l : Nat} {fn : FuncId} {tms : Array Value} {assign body : Code} {v : Value} {R : World → Prop}
  (hw : Region.wanted o (yielded ops a.tmps) = true) (hd : ∀ c, o.op ≠ .defer c) (ha : o.about P w a.eval = none) (hr : (execOp a.eval o).run P w = .ok (.round l fn tms assign body) w') (hn : F.depth.isSome = true → 1 ≤ n)
  (hR : RoundIn F (n - 1) P l fn tms assign body w' fun e A => e = .returned v ∧ R A) (h : ∀ A, R A → wpListIn F n P ops Q rest (a.put o.dst v) A) : wpListIn F n P ops Q (o :: rest) a w := by
 unfold wpListIn
 rw [if_pos hw]
 refine ⟨fun f hf => (by rw [ha] at hf; cases hf), ?_⟩
 rw [Oper.semAt_plain _ _ _ hd, hr]
 refine ⟨hn, hR.mono ?_⟩
 rintro e A ⟨rfl, hA⟩
 exact h A hA
theorem runs_yield {P : Program} {o : Oper} {a : Act} {w w' : World} {c : Call} {l : Nat} {r : Next} (g : Operand) (args : List Operand) (ho : o.op = .call c) (hc : c.callee = .value g) (hg : a.eval g = .func (.yield l) #[] #[]) (ha : c.args = args.toArray) {vs : Array Value} (hy : (Instr.yield l vs).run P w = .ok r w') (hv : (args.map a.eval).toArray = vs := by rfl) : (execOp a.eval o).run P w = .ok r w' := by
 subst hv
 unfold execOp
 simp only [ho, resolve, hc, hg, ha]
 simp [Deferred.ofValue, invoke, go_sem]
 simpa using hy
end
section
open Go.RowKit Go.Shelf
attribute [local go_sem] Oper.semAt_some
section
variable {P : Program} {a : Act} {o : Oper}
theorem goes_mono {W : World} {T T' : Value → World → Prop} (h : Oper.goes P o a W T) (ht : ∀ v w', T v w' → T' v w') : Oper.goes P o a W T' := by
 unfold Oper.goes at *
 generalize (execOp a.eval o).run P W = r at *
 cases r with
 | ok n w' =>
  cases n <;> simp only [Oper.goesUpon] at h ⊢
  case value u => exact ht _ _ h
  case skip => exact ht _ _ h
  case enter f args => exact h.mono fun e w'' ⟨v, he, hh⟩ => ⟨v, he, ht _ _ hh⟩
 | halt x w' => simp only [Oper.goesUpon] at h
theorem goes_bs {W : World} (t e : TypeId) (len : Nat) (parts : Array (Nat × Operand)) (ho : o.op = .buildSlice t len parts) (cells : Array Value) (ie : TypeInfo) (z : Value)
  (hu : P.underlying t = some (.slice e)) (hie : P.info? e = some ie) (hz : ie.zero = some z) (hsmall : ¬ len * ie.size > 2 ^ 24) (hpos : ¬ len * ie.size = 0)
  (hf : Instr.fill (fun i => some (i * ie.size, ie.size)) ((Array.range (len * ie.size)).map (z.cells[· % z.cells.size]!)) (parts.map fun (i, x) => (i, a.eval x)).toList = some cells) :
  Oper.goes P o a W (fun v W' => v = .slice (some ⟨W.heap.size, 0, none⟩) len len ∧ W' = W.alloc (.cells cells e)) := by
 unfold Oper.goes execOp
 simp only [ho, Sem.run_bind, run_buildSlice W t e len _ cells ie z hu hie hz hsmall hpos hf, Result.andThen_ok]
 exact ⟨rfl, rfl⟩
theorem goes_app {W : World} (s x : Operand) (t : TypeId) (ho : o.op = .call { callee := .builtin .append, args := #[s, x], argTypes := #[t, t] })
  (base : Nat) (e : TypeId) (i : TypeInfo) (z : Value) (size bytes : Nat) (ht : P.underlying t = some (.slice e)) (hi : P.info? e = some i) (hz : i.zero = some z)
  (hsize : i.size = size) (hby : i.bytes = bytes) (hzs : z.cells.size = size) (hsz : 0 < size)
  (v : Value) (n : Nat) (xs : List Value) (hs : a.eval s = v) (hown : W.ownsRow base e size v n xs)
  (B : Nat) (A : Option Addr) (m c : Nat) (news : List Value) (hx : a.eval x = .slice A m c) (hl : news.length = m * size) (hr : Rd W B A news) (hA : A = none → m = 0) (h1 : ∀ u ∈ news, u.oneCell' = true)
  (h63 : n + m ≤ maxLen) (hbytes : (n + m) * bytes ≤ 140737488355328) (hbase : base ≤ W.heap.size) :
  Oper.goes P o a W (fun v' W' => W'.ownsRow base e size v' (n + m) (xs ++ news) ∧ W.grownBy W' v.ownBlock) := by
 obtain ⟨v', w', hrun, h2, h3, -⟩ := append_rd_run (P := P) W base t o.type e i z size bytes ht hi hz hsize hby hzs hsz v n xs hown B A m c news hl hr hA h1 h63 hbytes hbase
 have hr : (execOp a.eval o).run P W = .ok (.value v') w' := by
  unfold execOp
  simp only [ho, resolve, invoke, builtin, Sem.run_bind, Sem.run_pure, Result.andThen_ok, List.map_toArray, List.map_cons, List.map_nil, hs, hx, hrun]
 unfold Oper.goes
 rw [hr]
 exact ⟨h2, h3⟩
end
section
variable {α : Type} {A A' W : World} {m : Nat} {E : TypeId} {k : Nat} {v : Value} {f : α → List Value} {l : List α}
theorem OwnL.isRow (h : OwnL A m E k v f l) {g : Nat} (hg : v.ownBlock = some g) : m ≤ g ∧ ∃ cur fz, A.heap[g]? = some (.cells cur E fz) := by
 rcases h.2 with ⟨rfl, _⟩ | ⟨g1, cap, cur, rfl, hb, h1, _⟩
 ·simp [Value.ownBlock] at hg
 ·simp only [Value.ownBlock, Option.some.injEq] at hg
  subst hg
  exact ⟨hb, _, _, h1⟩
theorem OwnL.away {B : Nat} {row : Option Nat} (h : OwnL A m E k v f l) (hg : A.grownBy A' row) (hr : ∀ r, row = some r → B ≤ r ∧ ((∃ o : Obj, A.heap[r]? = some o ∧ o.isCells = false) ∨ (r < m ∧ ∃ o : Obj, A.heap[r]? = some o ∧ o.isCells = true))) : OwnL A' m E k v f l := by
 refine h.kept hg ?_
 cases hv : v.ownBlock with
 | none => exact .inl rfl
 | some g =>
  refine .inr fun e => ?_
  obtain ⟨h1, cur, fz, h2⟩ := h.isRow hv
  rcases (hr g e.symm).2 with ⟨o, ho, hc⟩ | ⟨hlt, -⟩
  ·rw [h2] at ho; cases ho; cases hc
  ·omega
theorem OwnL.putObj (h : OwnL A m E k v f l) {i : Nat} {o o' : Obj} (ho : A.heap[i]? = some o) (hc : o.isCells = false) : OwnL (A.putObj i o') m E k v f l := by
 refine h.kept (grownBy_putObj' A i o') ?_
 cases hv : v.ownBlock with
 | none => exact .inl rfl
 | some g =>
  refine .inr fun e => ?_
  obtain ⟨h1, cur, fz, h2⟩ := h.isRow hv
  cases e
  rw [h2] at ho; cases ho; cases hc
theorem OwnL.farC (h : OwnL A m E k v f l) {b : Nat} (hb : v.ownBlock ≠ some b) (i : Nat) (vs : List Value) : OwnL (A.setCells b i vs) m E k v f l := h.kept (grownBy_setCells A b i vs) (.inr hb)
theorem OwnL.ne_low (h : OwnL A m E k v f l) {b : Nat} (hb : b < m) : v.ownBlock ≠ some b := fun e => by have := (h.isRow e).1; omega
theorem Blk.putObj {g : Nat} {t : TypeId} {cs : Array Value} (h : Blk A g t cs) {i : Nat} {o o' : Obj} (ho : A.heap[i]? = some o) (hc : o.isCells = false) : Blk (A.putObj i o') g t cs := by
 have hne : g ≠ i := fun e => by
  rw [← e] at ho
  have h' : A.heap[g]? = some (.cells cs t (0, 0)) := h
  rw [h'] at ho; cases ho; cases hc
 exact (World.putObj_heap_other hne).trans h
end
end
end Go.Proofs.YtibeihcpehikoaaGreat
