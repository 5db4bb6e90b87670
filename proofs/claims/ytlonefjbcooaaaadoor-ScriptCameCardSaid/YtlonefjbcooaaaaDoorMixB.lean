/-
  A value built, in a region that draws its order: its parts and its cells told.
-/
import Derived.Test.YtlonefjbcooaaaaDoorMixT
namespace Go.Proofs.YtlonefjbcooaaaaDoor
open Go.RowKit
set_option maxRecDepth 100000
section
variable {P : Program} {a : Act} {o : Oper}
theorem runs_built (t : TypeId) (parts : List (Nat × Operand)) (ho : o.op = .build t parts.toArray) (cells : Array Value)
    (vs : List (Nat × Value)) (hv : parts.map (fun (i, x) => (i, a.eval x)) = vs) (hc : P.built t vs = some cells) (W : World) : RunsTo P o a W (.agg cells) := by
  have e : ((parts.toArray.map fun (i, x) => (i, a.eval x)).toList) = vs := by rw [← hv]; simp
  unfold RunsTo execOp
  simp only [ho, Sem.run_bind, run_build W t _ cells (by rw [e]; exact hc), Result.andThen_ok, Sem.run_pure]
theorem mix_built {ops : Array Oper} {w : World} {kd : Nat → Kd} {sp : Nat → Told} {E : Act → (World → Prop) → Prop} {rest : List Oper} {k : Nat} {D : World → Prop} (hw : Region.wanted o (yielded ops a.tmps) = true) (hk : kd k = .pure) (t : TypeId) (parts : List (Nat × Operand)) (ho : o.op = .build t parts.toArray) (cells : Array Value)
    (vs : List (Nat × Value)) (hv : parts.map (fun (i, x) => (i, a.eval x)) = vs) (hc : P.built t vs = some cells)
    (h : wpMix P ops w kd sp E rest (k + 1) (a.put o.dst (.agg cells)) D) : wpMix P ops w kd sp E (o :: rest) k a D := by
  unfold wpMix mStep
  rw [if_pos hw, hk]
  exact ⟨_, runs_built t parts ho cells vs hv hc, h⟩
end
end Go.Proofs.YtlonefjbcooaaaaDoor
