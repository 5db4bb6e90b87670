/-
  The walk of the document's move.
-/
import Derived.Test.YtibeihcpehikoaaGreatNr14
namespace Go.Proofs.YtibeihcpehikoaaGreat
section
open Go.RowKit
set_option maxRecDepth 100000
section
variable {px py vx vy lx ly hx hy : Int} (h1 : F32 px) (h2 : F32 py) (h3 : F32 vx) (h4 : F32 vy) (w : World)
include h1 h2 h3 h4
end
end
end Go.Proofs.YtibeihcpehikoaaGreat
