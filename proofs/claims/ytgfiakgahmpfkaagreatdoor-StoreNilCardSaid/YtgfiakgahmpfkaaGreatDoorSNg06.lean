/-
  Texts of the proofs, one behind the other: StAwake.
-/
import Derived.Test.YtgfiakgahmpfkaaGreatDoorSNg05
namespace Go.Proofs.YtgfiakgahmpfkaaGreatDoor
open Go.RowKit
open Sy
set_option linter.unusedVariables false
set_option linter.unusedSimpArgs false
set_option maxRecDepth 100000
set_option maxHeartbeats 4000000

theorem sAwake36 {R : HP} : PureR Tryz.prog R 4 [] (.bool true) := PureR.of_below fun w _ => Cx.closed_says hmix (fuel := 100000) (n := 80) rfl rfl (by kernel_rfl) w
end Go.Proofs.YtgfiakgahmpfkaaGreatDoor
