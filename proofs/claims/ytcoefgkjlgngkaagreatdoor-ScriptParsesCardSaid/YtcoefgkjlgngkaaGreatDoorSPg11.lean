/-
  Texts of the proofs, one behind the other: ScAn.
-/
import Derived.Test.YtcoefgkjlgngkaaGreatDoorSPg10
namespace Go.Proofs.YtcoefgkjlgngkaaGreatDoor
open Go.RowKit
open Sy
set_option linter.unusedVariables false
set_option linter.unusedSimpArgs false
set_option maxRecDepth 100000
set_option maxHeartbeats 4000000
structure Rep.few (x:Rep):Prop where
 cells:x.cells.length≤500
 vals:x.vals.length≤500
 parts:x.parts.length≤500
 byts:x.byts.length≤2000
 lines:x.lines.length≤100
end Go.Proofs.YtcoefgkjlgngkaaGreatDoor
