/-
  Texts of the proofs, one behind the other: SlabFill.
-/
import Derived.Test.YtgfiakgahmpfkaaGreatDoorSNg16
namespace Go.Proofs.YtgfiakgahmpfkaaGreatDoor
open Go.RowKit
set_option linter.unusedVariables false
set_option linter.unusedSimpArgs false

/-- a slab's cells behind a fill -/
def fillK (sw x0 y0 x1 y1 : Nat) (v : Int) (f : Nat → Int) (k : Nat) : Int := if x0 ≤ k % sw ∧ k % sw ≤ x1 ∧ y0 ≤ k / sw ∧ k / sw ≤ y1 then v else f k
section
variable {sw x0 y0 x1 y1 : Nat} {v : Int} {f : Nat → Int}
end
end Go.Proofs.YtgfiakgahmpfkaaGreatDoor
