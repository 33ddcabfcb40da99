/-
  hachurelaw02.LebFolds returns true whatever the numbers.
-/
import Derived.Test.YtgelgkgmgjhmnaaLebAwake
namespace Go.Proofs.Ytgelgkgmgjhmnaa
open Go.RowKit
theorem LebFolds_walk (n u : Int) (w : World) (h1 : -9223372036854775808 ≤ n) (h2 : n ≤ 9223372036854775807) (h3 : 0 ≤ u) (h4 : u ≤ 18446744073709551615) :
    Calls Try.prog 4 #[.int .i64 n, .int .u64 u] w fun e w' => e = .returned (.bool true) ∧ Below w.heap.size w w' := by
  obtain ⟨f1, f2⟩ := foldZ_range n h1 h2
  obtain ⟨f3, f4⟩ := unfoldZ_range u h3 h4
  have e1 : (unfoldZ (foldZ n) == n) = true := by rw [unfold_fold]; simp
  have e2 : (foldZ (unfoldZ u) == u) = true := by rw [fold_unfold u h3]; simp
  go_enter Try.func4, Try.ntmps4
  go_wp2_with fail
  refine (lebAwake _).mono ?_
  rintro e w1 ⟨rfl, hb1⟩
  go_wp2_with fail
  iterate 8
    (first
      | refine (Fold_any _ _ (by omega) (by omega)).mono ?_
      | refine (rFold_any _ _ (by omega) (by omega)).mono ?_
      | refine (Unfold_any _ _ (by omega) (by omega)).mono ?_
      | refine (rUnfold_any _ _ (by omega) (by omega)).mono ?_)
    rintro e w2 ⟨rfl, rfl⟩
    go_wp2_with fail
  go_ret
  exact ⟨rfl, hb1⟩
end Go.Proofs.Ytgelgkgmgjhmnaa
