/-
  THE ENGINE, PART U: the end of a row of a law without arguments: what reads nothing stays, if the world has turned above its old blocks alone.
-/
import Derived.WalkKit
import Derived.ProofKit
import Derived.OpenShut
import Derived.Below
set_option maxHeartbeats 64000000
set_option maxRecDepth 1000000
set_option linter.unusedVariables false
set_option linter.unusedSimpArgs false
set_option maxHeartbeats 64000000
set_option maxHeartbeats 64000000
set_option maxHeartbeats 64000000
set_option maxHeartbeats 64000000
namespace Go.Proofs.Ytkejnhmhbmbhcaa.Eng
open Go Go.ChangeShapes Go.WideShapes Go.ChangeAt Go.RowKit
section
variable {H : Type} {enc : TypeId × Value → H} {P : Program}
end
end Go.Proofs.Ytkejnhmhbmbhcaa.Eng
