/-
  Texts of the proofs, one behind the other: SlabPartT, SlabPartF, SlabFillAll.
-/
import Derived.Test.YtgfiakgahmpfkaaGreatDoorSNg17
namespace Go.Proofs.YtgfiakgahmpfkaaGreatDoor
open Go.RowKit
set_option linter.unusedVariables false
set_option linter.unusedSimpArgs false



end Go.Proofs.YtgfiakgahmpfkaaGreatDoor
