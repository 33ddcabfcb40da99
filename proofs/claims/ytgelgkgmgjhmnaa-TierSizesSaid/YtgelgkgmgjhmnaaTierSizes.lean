/-
  hachurelaw15.TierSizes returns true whatever the size and the level.
-/
import Derived.Test.YtgelgkgmgjhmnaaTierAwake
import Derived.Test.YtgelgkgmgjhmnaaSizes
namespace Go.Proofs.Ytgelgkgmgjhmnaa
open Go.RowKit
set_option linter.unusedVariables false
set_option linter.unusedSimpArgs false

set_option maxHeartbeats 1000000 in
set_option maxRecDepth 100000 in
theorem TierSizes_walk (a b k : Int) (w : World) (ha : -9223372036854775808 ≤ a) (ha' : a ≤ 9223372036854775807) (hb : -9223372036854775808 ≤ b) (hb' : b ≤ 9223372036854775807) (hk : -9223372036854775808 ≤ k) (hk' : k ≤ 9223372036854775807) :
    Calls Try.prog 7 #[.int .i64 a, .int .i64 b, .int .i64 k] w fun e w' => e = .returned (.bool true) ∧ Below w.heap.size w w' := by
  go_enter Try.func7, Try.ntmps7
  go_wp2_with fail
  refine (tierAwake _).mono ?_
  rintro e w1 ⟨rfl, hb1⟩
  go_wp2_with fail
  by_cases h : SizeOk a b
  · refine (Levels_ok a b _ h).mono ?_
    rintro e w2 ⟨rfl, hb2⟩
    have hB2 : Below w.heap.size w w2 := hb1.trans (hb2.mono hb1.size)
    clear hb1 hb2
    have hlev : 0 < levN a b := by unfold levN; omega
    have hl := levN_le h
    have hne : ((levN a b : Int) == 0) = false := by rw [beq_eq_false_iff_ne]; omega
    have hlb : ((levN a b : Int) == (levN a b : Int)) = true := by simp
    by_cases hkk : k < 0 ∨ (levN a b : Int) ≤ k
    · go_wp2_with fail
      refine (Size_arg a b k _ h hkk).mono ?_
      rintro e w3 ⟨rfl, hb3⟩
      have hB3 : Below w.heap.size w w3 := hB2.trans (hb3.mono hB2.size)
      clear hB2 hb3
      go_wp2_with fail
      refine (rSizes_ok a b _ h).mono ?_
      rintro e w4 ⟨A, c, rfl, hown, hb4⟩
      have hB4 : Below w.heap.size w w4 := hB3.trans (hb4.mono hB3.size)
      clear hB3 hb4 hown
      rcases (show k < 0 ∨ (0 ≤ k ∧ (levN a b : Int) ≤ k) from by omega) with g | g
      all_goals
        clear hkk
        go_wp2_with fail
        go_ret
        exact ⟨rfl, hB4⟩
    · obtain ⟨n, rfl⟩ := Int.eq_ofNat_of_zero_le (show 0 ≤ k by omega)
      have hn : n < levN a b := by omega
      clear hkk
      go_wp2_with fail
      refine (Size_ok a b n _ h hn).mono ?_
      rintro e w3 ⟨rfl, hb3⟩
      have hB3 : Below w.heap.size w w3 := hB2.trans (hb3.mono hB2.size)
      clear hB2 hb3
      go_wp2_with fail
      refine (rSizes_ok a b _ h).mono ?_
      rintro e w4 ⟨A, c, rfl, hown, hb4⟩
      have hB4 : Below w.heap.size w w4 := hB3.trans (hb4.mono hB3.size)
      clear hB3 hb4
      obtain ⟨g, cap, hv, hbg, hltg⟩ := hown.form (by omega)
      have hA2 : A = some ⟨g, 0, none⟩ := by injection hv
      subst hA2
      clear hv
      have hat := cel_at (szs a b (levN a b)) n (by simpa using hn)
      rw [szs_at] at hat
      have hx : w4.cell? ⟨g, n * 2, none⟩ = some (.int .i64 (halfZ a n)) := by
        have := hown.cells (g := g) rfl _ _ hat.1
        rwa [add_plain, Nat.zero_add] at this
      have hy : w4.cell? ⟨g, n * 2 + 1, none⟩ = some (.int .i64 (halfZ b n)) := by
        have := hown.cells (g := g) rfl _ _ hat.2
        rwa [add_plain, Nat.zero_add] at this
      clear hat hown
      go_wp2_with fail
      go_ret
      exact ⟨rfl, hB4⟩
  · refine (Levels_bad a b _ ha ha' hb hb' h).mono ?_
    rintro e w2 ⟨rfl, hb2⟩
    have hB2 : Below w.heap.size w w2 := hb1.trans (hb2.mono hb1.size)
    clear hb1 hb2
    go_wp2_with fail
    refine (Size_bad a b k _ ha ha' hb hb' h).mono ?_
    rintro e w3 ⟨rfl, hb3⟩
    have hB3 : Below w.heap.size w w3 := hB2.trans (hb3.mono hB2.size)
    clear hB2 hb3
    go_wp2_with fail
    refine (rSizes_bad a b _ h).mono ?_
    rintro e w4 ⟨rfl, rfl⟩
    go_wp2_with fail
    go_ret
    exact ⟨rfl, hB3⟩
end Go.Proofs.Ytgelgkgmgjhmnaa
