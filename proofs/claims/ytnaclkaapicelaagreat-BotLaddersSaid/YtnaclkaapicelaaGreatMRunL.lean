/-
  The mixed regions' law with one row that may be written; events held against each other; the walk of game.Run.
-/
import Derived.Maps.RangeWalk
import Derived.Maps.AppendAt
import Derived.Deep.DeepCutAuto
import Derived.Test.YtnaclkaapicelaaGreatMa3
import Derived.Test.YtnaclkaapicelaaGreatMa5
import Derived.Test.YtnaclkaapicelaaGreatEventIns
namespace Go.Proofs.YtnaclkaapicelaaGreat
open Go.RowKit
section
variable {P : Program} {a : Act} {o : Oper}
/-- A value known, at the list of a plain region's operations; guarded or not. -/
theorem wpList_runs {ops : Array Oper} {rest : List Oper} {w : World} {Q : Exit → Act → World → Prop} (v : Value) (hw : Region.wanted o (yielded ops a.tmps) = true) (hr : RunsTo P o a w v) (h : wpList P ops Q rest (a.put o.dst v) w) : wpList P ops Q (o :: rest) a w :=
  wpList_step fun K hK => by
    simp only [hw, if_true]
    unfold Oper.wp
    unfold RunsTo at hr
    rw [hr]
    exact hK _ _ h
end
end Go.Proofs.YtnaclkaapicelaaGreat
