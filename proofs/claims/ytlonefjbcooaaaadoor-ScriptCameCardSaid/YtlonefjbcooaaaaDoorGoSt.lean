/-
  Stores, as operations of a region that draws its order.
-/
import Derived.Test.YtlonefjbcooaaaaDoorMixT
import Derived.Test.YtlonefjbcooaaaaDoorRow
import Derived.Great.BuildSlice
import Derived.Deep.Upon
namespace Go.Proofs.YtlonefjbcooaaaaDoor
open Go.RowKit
section
variable {P : Program} {o : Oper} {a : Act}
theorem goes_mono {W : World} {T T' : Value → World → Prop} (h : Oper.goes P o a W T) (ht : ∀ v w', T v w' → T' v w') : Oper.goes P o a W T' := by
  unfold Oper.goes at *
  generalize (execOp a.eval o).run P W = r at *
  cases r with
  | ok n w' =>
    cases n <;> simp only [Oper.goesUpon] at h ⊢
    case value u => exact ht _ _ h
    case skip => exact ht _ _ h
    case enter f args => exact h.mono fun e w'' ⟨v, he, hh⟩ => ⟨v, he, ht _ _ hh⟩
  | halt x w' => simp only [Oper.goesUpon] at h
/-- A new row, written out. -/
theorem goes_bs {W : World} (t e : TypeId) (len : Nat) (parts : Array (Nat × Operand)) (ho : o.op = .buildSlice t len parts) (cells : Array Value) (ie : TypeInfo) (z : Value)
    (hu : P.underlying t = some (.slice e)) (hie : P.info? e = some ie) (hz : ie.zero = some z) (hsmall : ¬ len * ie.size > 2 ^ 24) (hpos : ¬ len * ie.size = 0)
    (hf : Instr.fill (fun i => some (i * ie.size, ie.size)) ((Array.range (len * ie.size)).map (z.cells[· % z.cells.size]!)) (parts.map fun (i, x) => (i, a.eval x)).toList = some cells) :
    Oper.goes P o a W (fun v W' => v = .slice (some ⟨W.heap.size, 0, none⟩) len len ∧ W' = W.alloc (.cells cells e)) := by
  unfold Oper.goes execOp
  simp only [ho, Sem.run_bind, run_buildSlice W t e len _ cells ie z hu hie hz hsmall hpos hf, Result.andThen_ok]
  exact ⟨rfl, rfl⟩
theorem run_storeVar_cell (w : World) (b i : Nat) (ty : TypeId) (u : Value) (ht : w.there b i 1) (hi : (P.info? ty).map (·.size) = some 1) (hc : u.cells = #[u]) (h1 : u.oneCell' = true) : (storeVar ty ⟨b, i, none⟩ u).run P w = .ok () (w.setCell ⟨b, i, none⟩ u) := by
  have hst := run_storeCells_cells (P := P) b i [u] 0 w (fun j hj => by simpa using (ht j (by simpa using hj)).1) (fun j hj => by simpa using (ht j (by simpa using hj)).2) (by simpa using h1)
  cases hq : P.info? ty with
  | none => simp [hq] at hi
  | some inf =>
    have hs : inf.size = 1 := by simpa [hq] using hi
    unfold storeVar
    rw [hc]
    simp [sizeOf, typeInfo, hq, hs]
    simpa [World.setCells] using hst
theorem goes_store1 {W : World} (ty : TypeId) (x y : Operand) (ho : o.op = .store ty x y) (b i : Nat) (u : Value) (hx : a.eval x = .pointer (some ⟨b, i, none⟩)) (hy : a.eval y = u) (ht : W.there b i 1) (hi : (P.info? ty).map (·.size) = some 1) (hc : u.cells = #[u]) (h1 : u.oneCell' = true) :
    Oper.goes P o a W (fun v W' => v = undef ∧ W' = W.setCell ⟨b, i, none⟩ u) := by
  have hr : (execOp a.eval o).run P W = .ok .skip (W.setCell ⟨b, i, none⟩ u) := by
    unfold execOp
    simp only [ho, hx, hy, Instr.storeAt, Instr.sureAddr, Sem.run_bind, Sem.run_pure, Result.andThen_ok, run_storeVar_cell W b i ty u ht hi hc h1]
  unfold Oper.goes
  rw [hr]
  exact ⟨rfl, rfl⟩
theorem goes_storeN {W : World} (ty : TypeId) (x y : Operand) (ho : o.op = .store ty x y) (b i : Nat) (cs : Array Value) (hx : a.eval x = .pointer (some ⟨b, i, none⟩)) (hy : a.eval y = .agg cs) (ht : W.there b i cs.size) (hi : (P.info? ty).map (·.size) = some cs.size) (h1 : cs.all (·.oneCell') = true) :
    Oper.goes P o a W (fun v W' => v = undef ∧ W' = W.setCells b i cs.toList) := by
  have hr : (execOp a.eval o).run P W = .ok .skip (W.setCells b i cs.toList) := by
    unfold execOp
    simp only [ho, hx, hy, Instr.storeAt, Instr.sureAddr, Sem.run_bind, Sem.run_pure, Result.andThen_ok, run_storeVar_mid W b i ty cs ht hi h1]
  unfold Oper.goes
  rw [hr]
  exact ⟨rfl, rfl⟩
end
end Go.Proofs.YtlonefjbcooaaaaDoor
