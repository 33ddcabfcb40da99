/-
  The document's Within and Has of rectangles (hachureref07), and SameCells of equal lists.
-/
import Derived.Test.YtgelgkgmgjhmnaaMeet
import Derived.Test.YtgelgkgmgjhmnaaSizes
import Derived.Deep.QuietTactic
import Derived.BigQuiet
namespace Go.Proofs.Ytgelgkgmgjhmnaa
open Go.RowKit
set_option linter.unusedVariables false
set_option linter.unusedSimpArgs false

theorem rWithin_fine (x0 y0 x1 y1 a b : Int) (w : World) (hs : SizeOk a b) (h1 : 0 ≤ x0) (h2 : x0 ≤ x1) (h3 : x1 < a) (h4 : 0 ≤ y0) (h5 : y0 ≤ y1) (h6 : y1 < b) :
    Calls Try.prog 33 #[.agg #[.int .i64 x0, .int .i64 y0, .int .i64 x1, .int .i64 y1], .int .i64 a, .int .i64 b] w fun e w' => e = .returned (.int .i64 0) ∧ Below w.heap.size w w' := by
  obtain ⟨s1, s2, s3, s4⟩ := hs
  go_enter Try.func33, Try.ntmps33
  go_wp2_with fail
  go_ret
  exact ⟨rfl, (Below.refl _ _).alloc (Nat.le_refl _) _⟩

/-- a cell of a rectangle -/
def hasB (x0 y0 x1 y1 x y : Int) : Bool := decide (x0 ≤ x ∧ x ≤ x1 ∧ y0 ≤ y ∧ y ≤ y1)

set_option maxHeartbeats 1000000 in
theorem rHas_any (x0 y0 x1 y1 x y : Int) (w : World) (h : RightP x0 y0 x1 y1) :
    Calls Try.prog 34 #[.agg #[.int .i64 x0, .int .i64 y0, .int .i64 x1, .int .i64 y1], .agg #[.int .i64 x, .int .i64 y]] w fun e w' => e = .returned (.bool (hasB x0 y0 x1 y1 x y)) ∧ Below w.heap.size w w' := by
  rcases (show x < x0 ∨ (x0 ≤ x ∧ x1 < x) ∨ (x0 ≤ x ∧ x ≤ x1 ∧ y < y0) ∨ (x0 ≤ x ∧ x ≤ x1 ∧ y0 ≤ y ∧ y1 < y) ∨ (x0 ≤ x ∧ x ≤ x1 ∧ y0 ≤ y ∧ y ≤ y1) from by omega) with c | c | c | c | c
  all_goals
    first
    | (have e : hasB x0 y0 x1 y1 x y = false := by unfold hasB; rw [decide_eq_false_iff_not]; omega); rw [e]
    | (have e : hasB x0 y0 x1 y1 x y = true := by unfold hasB; rw [decide_eq_true_iff]; omega); rw [e]
    clear e
    try have d1 : decide (x0 ≤ x) = false := by simp; omega
    try have d2 : decide (x ≤ x1) = false := by simp; omega
    try have d3 : decide (y0 ≤ y) = false := by simp; omega
    try have d4 : decide (y ≤ y1) = false := by simp; omega
    go_enter Try.func34, Try.ntmps34
    go_wp2_with fail
    refine (rRight_yes x0 y0 x1 y1 _ h).mono ?_
    rintro e w1 ⟨rfl, hb1⟩
    obtain ⟨hc, hf⟩ := bcell hb1
    have HB : Below w.heap.size w w1 := (((Below.refl _ _).alloc (Nat.le_refl _) _).alloc (by simp) _).trans (hb1.mono (by simp; omega))
    go_wp2_with fail
    go_ret
    exact ⟨rfl, HB⟩
end Go.Proofs.Ytgelgkgmgjhmnaa
