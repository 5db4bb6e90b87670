/-
  A region that draws its order, step by step by hand: laws for its moves.
-/
import Derived.Test.YtnaclkaapicelaaGreatGuard
import Derived.Deep.RegionHeld3
import Derived.Laws.Tables
namespace Go.Proofs.YtnaclkaapicelaaGreat
open Go.RowKit
section
variable {P : Program} {ops : Array Oper} {S : World → Prop} {Q : Exit → Act → World → Prop} {a : Act} {w : World}
theorem yieldsIf_run {op : Oper} {v : Value} (hw : Region.wanted op (yielded ops a.tmps) = true) (h : ∀ w, (execOp a.eval op).run P w = .ok (.value v) w) : YieldsIf P ops S op v a := .inl ⟨hw, fun w _ => h w⟩
theorem yieldsIf_build {op : Oper} (hw : Region.wanted op (yielded ops a.tmps) = true) (t : TypeId) (parts : Array (Nat × Operand)) (ho : op.op = .build t parts) (cells : Array Value)
    (hc : P.built t (parts.map fun (i, x) => (i, a.eval x)).toList = some cells) : YieldsIf P ops S op (.agg cells) a := .inl ⟨hw, fun w _ => by
  unfold execOp
  simp only [ho, Sem.run_bind, run_build w t _ cells hc, Result.andThen_ok]
  rfl⟩
theorem wpOp_wp {i : Nat} {o : Oper} {K : Act → World → Prop} (hi : ops[i]? = some o) (hw : Region.wanted o (yielded ops a.tmps) = true) (h : o.wp P a w K Q) : wpOp P ops Q i K a w := by
  unfold wpOp
  simp only [hi, hw, if_true]
  exact .inl h
theorem wp_run {o : Oper} {v : Value} {w' : World} {K : Act → World → Prop} (hr : (execOp a.eval o).run P w = .ok (.value v) w') (h : K (a.put o.dst v) w') : o.wp P a w K Q := by
  unfold Oper.wp
  rw [hr]
  exact h
end
end Go.Proofs.YtnaclkaapicelaaGreat
