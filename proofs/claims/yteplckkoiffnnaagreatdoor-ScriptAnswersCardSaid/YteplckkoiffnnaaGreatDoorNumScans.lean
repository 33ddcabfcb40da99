/-
  NumScans.
-/
import Derived.Test.YteplckkoiffnnaaGreatDoorNumRefP
namespace Go.Proofs.YteplckkoiffnnaaGreatDoor
open Go.RowKit
open Sy
set_option linter.unusedVariables false
set_option linter.unusedSimpArgs false
set_option maxRecDepth 100000
set_option maxHeartbeats 4000000

end Go.Proofs.YteplckkoiffnnaaGreatDoor
