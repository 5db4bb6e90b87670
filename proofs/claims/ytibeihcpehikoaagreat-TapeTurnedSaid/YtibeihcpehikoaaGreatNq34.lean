/-
  The walk of a step that can not be.
-/
import Derived.Test.YtibeihcpehikoaaGreatNq33
namespace Go.Proofs.YtibeihcpehikoaaGreat
open Go.RowKit
set_option maxRecDepth 100000
def zeroT : Nat → Int := fun _ => 0
theorem built_zero : Tryz.prog.built 41 [] = some (stCells zeroT).toArray := by kernel_rfl
section
variable {S : Nat → Int} {n0 n1 : Nat} {w : World}
end
end Go.Proofs.YtibeihcpehikoaaGreat
