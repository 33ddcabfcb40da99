/-
  hachurelaw15.awake returns true.
-/
import Derived.Test.YtgelgkgmgjhmnaaSpan
namespace Go.Proofs.Ytgelgkgmgjhmnaa
open Go.RowKit
set_option linter.unusedVariables false
set_option linter.unusedSimpArgs false

theorem Levels53 (w : World) : Calls Try.prog 21 #[.int .i64 5, .int .i64 3] w fun e w' => e = .returned (.tuple #[.int .i64 4, .int .i64 0]) ∧ Below w.heap.size w w' := by
  have h := Levels_ok 5 3 w (by unfold SizeOk; omega)
  rw [show levN 5 3 = 4 from by decide] at h
  exact h

theorem Span53 (w : World) : Calls Try.prog 25 #[.int .i64 5, .int .i64 3, .int .i64 1, .agg #[.int .i64 2, .int .i64 1]] w fun e w' => e = .returned (.tuple #[.agg #[.int .i64 4, .int .i64 2, .int .i64 4, .int .i64 2], .int .i64 0]) ∧ Below w.heap.size w w' :=
  Span_ok 5 3 2 1 1 w (by omega) (by omega) (by omega) (by omega) (by decide) (by omega) (by decide) (by decide) (by decide) (by decide) (by decide) (by decide) (by decide) (by decide) (by omega) (by omega) (by omega) (by omega) (by omega) (by omega)

theorem tierAwake (w : World) : Calls Try.prog 20 #[] w fun e w' => e = .returned (.bool true) ∧ Below w.heap.size w w' := by
  go_enter Try.func20, Try.ntmps20
  go_wp2_with fail
  refine (Levels53 _).mono ?_
  rintro e w1 ⟨rfl, hb1⟩
  go_wp2_with fail
  refine (Span53 _).mono ?_
  rintro e w2 ⟨rfl, hb2⟩
  go_wp2_with fail
  go_ret
  have HB : Below w.heap.size w w2 := hb1.trans (hb2.mono hb1.size)
  refine ⟨rfl, ?_⟩
  exact HB.alloc HB.size _
end Go.Proofs.Ytgelgkgmgjhmnaa
