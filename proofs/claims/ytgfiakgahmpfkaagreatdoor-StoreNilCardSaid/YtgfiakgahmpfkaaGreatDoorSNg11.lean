/-
  Texts of the proofs, one behind the other: Bld.
-/
import Derived.Test.YtgfiakgahmpfkaaGreatDoorSNg10
import Derived.Test.YtgfiakgahmpfkaaGreatDoorSNg09
import Derived.Test.YtgfiakgahmpfkaaGreatDoorSNg05
namespace Go.Proofs.YtgfiakgahmpfkaaGreatDoor
open Go.RowKit
open Sy
set_option linter.unusedVariables false
set_option linter.unusedSimpArgs false
set_option maxRecDepth 100000
set_option maxHeartbeats 4000000

end Go.Proofs.YtgfiakgahmpfkaaGreatDoor
