/-
  A struct loaded in a region that draws its order and whose calls make memory of their own.
-/
import Derived.Test.YtlonefjbcooaaaaDoorMild
import Derived.Test.YtlonefjbcooaaaaDoorMix
import Derived.Deep.MidRow
namespace Go.Proofs.YtlonefjbcooaaaaDoor
open Go.RowKit
set_option maxRecDepth 100000
section
variable {P : Program} {ops : Array Oper} {w : World} {Q : Act → Prop} {a : Act} {o : Oper} {rest : List Oper}
theorem wpQuiet_load_mild (hw : Region.wanted o (yielded ops a.tmps) = true) (ty : TypeId) (x : Operand) (ho : o.op = .load ty x)
    (b i : Nat) (hx : a.eval x = .pointer (some ⟨b, i, none⟩)) (cs : List Value) (d : TypeDesc) (hb : b < w.heap.size) (hc : w.rangeAt b i cs)
    (hu : P.underlying ty = some d) (hd : d.isRow = true) (hi : (P.info? ty).map (·.size) = some cs.length)
    (h : wpQuiet P ops (fun w' => ∃ x : Ext w, w' = x.world) Q rest (a.put o.dst (.agg cs.toArray))) : wpQuiet P ops (fun w' => ∃ x : Ext w, w' = x.world) Q (o :: rest) a := by
  refine wpQuiet_step fun K hK => ?_
  rw [if_pos hw]
  refine ⟨.agg cs.toArray, ?_, hK _ h⟩
  rintro W ⟨X, rfl⟩
  have hc' : X.world.rangeAt b i cs := fun j v hv => (Below.cell (p := ⟨b, i + j, none⟩) X.below hb).trans (hc j v hv)
  unfold Oper.quietAt execOp
  simp only [ho, hx, Instr.loadAt, Instr.sureAddr, Sem.run_bind, Sem.run_pure, Result.andThen_ok, run_loadVar_mid X.world b i ty cs d hc' hu hd hi]
  exact ⟨rfl, rfl⟩
/-- A value known in whatever world. -/
theorem wpQuiet_runs_mild (v : Value) (hw : Region.wanted o (yielded ops a.tmps) = true) (hr : ∀ W, RunsTo P o a W v)
    (h : wpQuiet P ops (fun w' => ∃ x : Ext w, w' = x.world) Q rest (a.put o.dst v)) : wpQuiet P ops (fun w' => ∃ x : Ext w, w' = x.world) Q (o :: rest) a := by
  refine wpQuiet_step fun K hK => ?_
  rw [if_pos hw]
  refine ⟨v, ?_, hK _ h⟩
  rintro W -
  unfold Oper.quietAt
  have := hr W
  unfold RunsTo at this
  rw [this]
  exact ⟨rfl, rfl⟩
end
end Go.Proofs.YtlonefjbcooaaaaDoor
