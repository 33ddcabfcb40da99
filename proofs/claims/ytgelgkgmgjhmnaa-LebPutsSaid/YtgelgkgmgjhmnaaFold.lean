/-
  The folding and unfolding of signs (leb.Fold, leb.Unfold and the document's own two) compute the plain functions foldZ and unfoldZ.
-/
import Derived.Test.YtgelgkgmgjhmnaaRows
import Derived.Test.YtgelgkgmgjhmnaaPlain
import Derived.WalkKit
namespace Go.Proofs.Ytgelgkgmgjhmnaa
open Go.RowKit

theorem ret_int {k : IntKind} {a b : Int} (h : a = b) : Ending.returned (.int k a) = .returned (.int k b) := by rw [h]

theorem Fold_any (n : Int) (w : World) (h1 : -9223372036854775808 ≤ n) (h2 : n ≤ 9223372036854775807) :
    Calls Try.prog 12 #[.int .i64 n] w fun e w' => e = .returned (.int .u64 (foldZ n)) ∧ w = w' := by
  go_enter Try.func12, Try.ntmps12
  go_wp2
  go_ret
  exact ⟨ret_int (fold_text n h1 h2), rfl⟩

theorem Unfold_any (n : Int) (w : World) (h1 : 0 ≤ n) (h2 : n ≤ 18446744073709551615) :
    Calls Try.prog 14 #[.int .u64 n] w fun e w' => e = .returned (.int .i64 (unfoldZ n)) ∧ w = w' := by
  go_enter Try.func14, Try.ntmps14
  go_wp2
  go_ret
  exact ⟨ret_int (unfold_text n h1 h2), rfl⟩

theorem rFold_any (n : Int) (w : World) (h1 : -9223372036854775808 ≤ n) (h2 : n ≤ 9223372036854775807) :
    Calls Try.prog 13 #[.int .i64 n] w fun e w' => e = .returned (.int .u64 (foldZ n)) ∧ w = w' := by
  by_cases h : 0 ≤ n
  all_goals
    go_enter Try.func13, Try.ntmps13
    go_wp2
    go_ret
    refine ⟨ret_int ?_, rfl⟩
    simp only [foldZ]
    split <;> omega
theorem rUnfold_any (n : Int) (w : World) (h1 : 0 ≤ n) (h2 : n ≤ 18446744073709551615) :
    Calls Try.prog 15 #[.int .u64 n] w fun e w' => e = .returned (.int .i64 (unfoldZ n)) ∧ w = w' := by
  by_cases h : n % 2 = 0
  · go_enter Try.func15, Try.ntmps15
    go_wp2
    go_ret
    refine ⟨ret_int ?_, rfl⟩
    simp only [unfoldZ]
    split <;> omega
  · have hb : (n % 2 == 0) = false := by simpa using h
    go_enter Try.func15, Try.ntmps15
    go_wp2
    go_ret
    refine ⟨ret_int ?_, rfl⟩
    simp only [unfoldZ]
    split <;> omega
end Go.Proofs.Ytgelgkgmgjhmnaa
