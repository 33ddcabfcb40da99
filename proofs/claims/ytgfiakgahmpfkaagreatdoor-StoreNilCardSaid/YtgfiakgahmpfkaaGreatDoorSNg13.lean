/-
  Texts of the proofs, one behind the other: StNil, StEnd.
-/
import Derived.Test.YtgfiakgahmpfkaaGreatDoorSNg05
import Derived.Test.YtgfiakgahmpfkaaGreatDoorSNg12
namespace Go.Proofs.YtgfiakgahmpfkaaGreatDoor
open Go.RowKit
open Sy
set_option linter.unusedVariables false
set_option linter.unusedSimpArgs false
set_option maxRecDepth 100000
set_option maxHeartbeats 4000000

def replyNil : Value := .agg #[.int .i64 1, .int .i64 0, .bool false, .int .i64 0, .int .i64 0, .slice none 0 0, .slice none 0 0, .slice none 0 0, .slice none 0 0, .slice none 0 0]
theorem sPastNil {R : HP} : PureR Tryz.prog R 6 [.pointer none] (.tuple #[.int .i64 0, .int .i64 0]) := PureR.of_below fun w _ => Cx.closed_says hmix (fuel := 1000) (n := 20) rfl rfl (by kernel_rfl) w
theorem sGridNil {R : HP} : PureR Tryz.prog R 9 [.pointer none] (.pointer none) := PureR.of_below fun w _ => Cx.closed_says hmix (fuel := 1000) (n := 20) rfl rfl (by kernel_rfl) w
theorem sSameNil {R : HP} : PureR Tryz.prog R 7 [replyNil, replyNil] (.bool true) := PureR.of_below fun w _ => Cx.closed_says hmix (fuel := 1000) (n := 20) rfl rfl (by kernel_rfl) w
theorem sDoNil36 {R : HP} {q : OpA} {x : OpF} : PureR Tryz.prog R 8 [.pointer none, opV q x] replyNil := by
  obtain ⟨⟨kind, x0, y0, x1, y1, ax, ay, bx, b_y, n, m⟩, vals, byts, bands⟩ := x
  unfold opV opCs opC
  simp only
  refine fn_of_run0 false Tryz.func8 rfl hmix rfl fun w0 => ?_
  conv => whnf
  exact ⟨trivial, fin_drop rfl⟩

theorem stEnd : endSays Tryz.prog 100000 Cx.orNone [] 80 Tryz.f3 (tailOf 6 Tryz.f3) (.bool true) = true := by kernel_rfl
end Go.Proofs.YtgfiakgahmpfkaaGreatDoor
