/-
  Texts of the proofs, one behind the other: ScRa, ScRe.
-/
import Derived.Test.YtcoefgkjlgngkaaGreatDoorSPg07
import Derived.Test.YtcoefgkjlgngkaaGreatDoorSPg11
namespace Go.Proofs.YtcoefgkjlgngkaaGreatDoor
open Go.RowKit
open Sy
set_option linter.unusedVariables false
set_option linter.unusedSimpArgs false
set_option maxRecDepth 100000
set_option maxHeartbeats 4000000
end Go.Proofs.YtcoefgkjlgngkaaGreatDoor
