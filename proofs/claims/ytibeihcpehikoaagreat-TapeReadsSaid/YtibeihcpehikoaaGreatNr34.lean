/-
  The walk of a step that can not be.
-/
import Derived.Test.YtibeihcpehikoaaGreatNr33
namespace Go.Proofs.YtibeihcpehikoaaGreat
section
open Go.RowKit
set_option maxRecDepth 100000
def zeroT : Nat → Int := fun _ => 0
theorem built_zero : Tryz.prog.built 41 [] = some (stCells zeroT).toArray := by kernel_rfl
end
end Go.Proofs.YtibeihcpehikoaaGreat
