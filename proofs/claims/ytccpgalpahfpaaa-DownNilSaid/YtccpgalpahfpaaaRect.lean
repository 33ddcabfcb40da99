/-
  rect.inside, rect.Within at the zero rectangle, tier.half, tier.Levels, tier.Size.
-/
import Derived.Test.YtccpgalpahfpaaaRows
import Derived.Test.YtccpgalpahfpaaaShelfLen
import Derived.Test.YtccpgalpahfpaaaMem
import Derived.WalkKit
import Derived.Deep.Light
namespace Go.Proofs.Ytccpgalpahfpaaa
open Go.RowKit
set_option linter.unusedVariables false
set_option linter.unusedSimpArgs false

theorem inside_yes (n m : Int) (w : World) (h1 : 0 ≤ n) (h2 : n < m) :
    Calls Try.prog 83 #[.int .i64 n, .int .i64 m] w fun e w' => e = .returned (.bool true) ∧ w = w' := by
  go_enter Try.func83, Try.ntmps83
  go_wp2
  go_ret
  exact ⟨rfl, rfl⟩

theorem inside_no (n m : Int) (w : World) (h : n < 0 ∨ m ≤ n) :
    Calls Try.prog 83 #[.int .i64 n, .int .i64 m] w fun e w' => e = .returned (.bool false) ∧ w = w' := by
  by_cases h0 : n < 0
  · clear h
    go_enter Try.func83, Try.ntmps83
    go_wp2
    go_ret
    exact ⟨rfl, rfl⟩
  · have h1 : m ≤ n := by omega
    have h2 : 0 ≤ n := by omega
    have h3 : decide (n < m) = false := by simp; omega
    clear h h0
    go_enter Try.func83, Try.ntmps83
    go_wp2
    go_ret
    exact ⟨rfl, rfl⟩

/-- the size of a grid that can be -/
def SizeOk (a b : Int) : Prop := 1 ≤ a ∧ a ≤ 1024 ∧ 1 ≤ b ∧ b ≤ 1024

theorem Within0_ok (a b : Int) (w : World) (h : SizeOk a b) :
    Calls Try.prog 71 #[.agg #[.int .i64 0, .int .i64 0, .int .i64 0, .int .i64 0], .int .i64 a, .int .i64 b] w fun e w' => e = .returned (.int .i64 0) ∧ Below w.heap.size w w' := by
  obtain ⟨h1, h2, h3, h4⟩ := h
  go_enter Try.func71, Try.ntmps71
  go_wp2_with fail
  refine (inside_yes _ _ _ (by omega) (by omega)).mono ?_
  rintro e w1 ⟨rfl, rfl⟩
  go_wp2_with fail
  refine (inside_yes _ _ _ (by omega) (by omega)).mono ?_
  rintro e w1 ⟨rfl, rfl⟩
  go_wp2_with fail
  refine (inside_yes _ _ _ (by omega) (by omega)).mono ?_
  rintro e w1 ⟨rfl, rfl⟩
  go_wp2_with fail
  refine (inside_yes _ _ _ (by omega) (by omega)).mono ?_
  rintro e w1 ⟨rfl, rfl⟩
  go_wp2_with fail
  refine (inside_yes _ _ _ (by omega) (by omega)).mono ?_
  rintro e w1 ⟨rfl, rfl⟩
  go_wp2_with fail
  refine (inside_yes _ _ _ (by omega) (by omega)).mono ?_
  rintro e w1 ⟨rfl, rfl⟩
  go_wp2_with fail
  go_ret
  exact ⟨rfl, (Below.refl _ _).alloc (Nat.le_refl _) _⟩

theorem Within0_bad (a b : Int) (w : World) (ha : -9223372036854775808 ≤ a) (ha' : a ≤ 9223372036854775807) (hb : -9223372036854775808 ≤ b) (hb' : b ≤ 9223372036854775807) (h : ¬ SizeOk a b) :
    Calls Try.prog 71 #[.agg #[.int .i64 0, .int .i64 0, .int .i64 0, .int .i64 0], .int .i64 a, .int .i64 b] w fun e w' => e = .returned (.int .i64 3) ∧ Below w.heap.size w w' := by
  unfold SizeOk at h
  rcases (show a = -9223372036854775808 ∨ (-9223372036854775808 < a ∧ (a < 1 ∨ 1024 < a)) ∨ (1 ≤ a ∧ a ≤ 1024 ∧ b = -9223372036854775808) ∨ (1 ≤ a ∧ a ≤ 1024 ∧ -9223372036854775808 < b ∧ (b < 1 ∨ 1024 < b)) from by omega) with rfl | ⟨c1, c2⟩ | ⟨c1, c2, rfl⟩ | ⟨c1, c2, c3, c4⟩
  · clear h
    go_enter Try.func71, Try.ntmps71
    go_wp2_with fail
    refine (inside_no _ _ _ (by simp only [wrap64]; omega)).mono ?_
    rintro e w1 ⟨rfl, rfl⟩
    go_wp2_with fail
    go_ret
    exact ⟨rfl, (Below.refl _ _).alloc (Nat.le_refl _) _⟩
  · clear h
    go_enter Try.func71, Try.ntmps71
    go_wp2_with fail
    refine (inside_no _ _ _ (by omega)).mono ?_
    rintro e w1 ⟨rfl, rfl⟩
    go_wp2_with fail
    go_ret
    exact ⟨rfl, (Below.refl _ _).alloc (Nat.le_refl _) _⟩
  · clear h
    go_enter Try.func71, Try.ntmps71
    go_wp2_with fail
    refine (inside_yes _ _ _ (by omega) (by omega)).mono ?_
    rintro e w1 ⟨rfl, rfl⟩
    go_wp2_with fail
    refine (inside_no _ _ _ (by simp only [wrap64]; omega)).mono ?_
    rintro e w1 ⟨rfl, rfl⟩
    go_wp2_with fail
    go_ret
    exact ⟨rfl, (Below.refl _ _).alloc (Nat.le_refl _) _⟩
  · clear h
    go_enter Try.func71, Try.ntmps71
    go_wp2_with fail
    refine (inside_yes _ _ _ (by omega) (by omega)).mono ?_
    rintro e w1 ⟨rfl, rfl⟩
    go_wp2_with fail
    refine (inside_no _ _ _ (by omega)).mono ?_
    rintro e w1 ⟨rfl, rfl⟩
    go_wp2_with fail
    go_ret
    exact ⟨rfl, (Below.refl _ _).alloc (Nat.le_refl _) _⟩

/-- how many levels a size has -/
def levN (a b : Int) : Nat := Lib.bitLen (max a b - 1).toNat + 1

/-- a side, so many times halved and rounded up -/
def halfZ (n : Int) (k : Nat) : Int := (n - 1) / 2 ^ k + 1

theorem levN_le {a b : Int} (h : SizeOk a b) : levN a b ≤ 11 := by
  have := Lib.bitLen_le (max a b - 1).toNat 10 (by omega) (by unfold SizeOk at h; simp; omega)
  unfold levN; omega

theorem Levels_bad (a b : Int) (w : World) (ha : -9223372036854775808 ≤ a) (ha' : a ≤ 9223372036854775807) (hb : -9223372036854775808 ≤ b) (hb' : b ≤ 9223372036854775807) (h : ¬ SizeOk a b) :
    Calls Try.prog 40 #[.int .i64 a, .int .i64 b] w fun e w' => e = .returned (.tuple #[.int .i64 0, .int .i64 3]) ∧ Below w.heap.size w w' := by
  go_enter Try.func40, Try.ntmps40
  go_wp2_with fail
  refine (Within0_bad a b _ ha ha' hb hb' h).mono ?_
  rintro e w1 ⟨rfl, hb1⟩
  go_wp2_with fail
  go_ret2
  exact ⟨rfl, hb1⟩

theorem Levels_ok (a b : Int) (w : World) (h : SizeOk a b) :
    Calls Try.prog 40 #[.int .i64 a, .int .i64 b] w fun e w' => e = .returned (.tuple #[.int .i64 (levN a b : Nat), .int .i64 0]) ∧ Below w.heap.size w w' := by
  have hl := levN_le h
  have HL : Hid (levN a b = Lib.bitLen (max a b - 1).toNat + 1) := Lib.hid rfl
  obtain ⟨h1, h2, h3, h4⟩ := id h
  obtain ⟨m, hm⟩ : ∃ m, max a b = m := ⟨_, rfl⟩
  have hm1 : 1 ≤ m := by omega
  have hm2 : m ≤ 1024 := by omega
  rw [hm] at HL
  obtain ⟨q, hq⟩ : ∃ q, Lib.bitLen (m - 1).toNat = q := ⟨_, rfl⟩
  rw [hq] at HL
  have HM := Lib.hid hm
  clear hm
  go_enter Try.func40, Try.ntmps40
  go_wp2_with fail
  refine (Within0_ok a b _ h).mono ?_
  rintro e w1 ⟨rfl, hb1⟩
  clear h
  go_wp2_with fail
  rw [HM.out]
  refine (Len64_any _ _ (by omega) (by omega)).mono ?_
  rintro e w2 ⟨rfl, rfl⟩
  rw [hq]
  have hq2 : q ≤ 10 := by have := HL.out; omega
  clear hq
  go_wp2_with fail
  go_ret2
  exact ⟨by rw [HL.out]; simp, hb1⟩

theorem half_any (n : Int) (k : Nat) (w : World) (h1 : 1 ≤ n) (h2 : n ≤ 1024) (hk : k ≤ 11) :
    Calls Try.prog 75 #[.int .i64 n, .int .i64 k] w fun e w' => e = .returned (.int .i64 (halfZ n k)) ∧ w = w' := by
  have hp : (0 : Int) < 2 ^ k := Int.pow_pos (by omega)
  have e1 : 0 ≤ (n - 1) / 2 ^ k := Int.ediv_nonneg (by omega) (by omega)
  have e2 : (n - 1) / 2 ^ k ≤ n - 1 := Int.ediv_le_self _ (by omega)
  go_enter Try.func75, Try.ntmps75
  go_wp2_with fail
  go_ret
  exact ⟨rfl, rfl⟩

theorem halfZ_pos (n : Int) (k : Nat) (h1 : 1 ≤ n) (h2 : n ≤ 1024) : 1 ≤ halfZ n k ∧ halfZ n k ≤ n := by
  have hp : (0 : Int) < 2 ^ k := Int.pow_pos (by omega)
  have e1 : 0 ≤ (n - 1) / 2 ^ k := Int.ediv_nonneg (by omega) (by omega)
  have e2 : (n - 1) / 2 ^ k ≤ n - 1 := Int.ediv_le_self _ (by omega)
  unfold halfZ
  omega

theorem Size_bad (a b k : Int) (w : World) (ha : -9223372036854775808 ≤ a) (ha' : a ≤ 9223372036854775807) (hb : -9223372036854775808 ≤ b) (hb' : b ≤ 9223372036854775807) (h : ¬ SizeOk a b) :
    Calls Try.prog 41 #[.int .i64 a, .int .i64 b, .int .i64 k] w fun e w' => e = .returned (.tuple #[.int .i64 0, .int .i64 0, .int .i64 3]) ∧ Below w.heap.size w w' := by
  go_enter Try.func41, Try.ntmps41
  go_wp2_with fail
  refine (Levels_bad a b _ ha ha' hb hb' h).mono ?_
  rintro e w1 ⟨rfl, hb1⟩
  go_wp2_with fail
  go_ret3
  exact ⟨rfl, hb1⟩

theorem Size_arg (a b k : Int) (w : World) (h : SizeOk a b) (hk : k < 0 ∨ (levN a b : Int) ≤ k) :
    Calls Try.prog 41 #[.int .i64 a, .int .i64 b, .int .i64 k] w fun e w' => e = .returned (.tuple #[.int .i64 0, .int .i64 0, .int .i64 11]) ∧ Below w.heap.size w w' := by
  by_cases h0 : k < 0
  · clear hk
    go_enter Try.func41, Try.ntmps41
    go_wp2_with fail
    refine (Levels_ok a b _ h).mono ?_
    rintro e w1 ⟨rfl, hb1⟩
    go_wp2_with fail
    go_ret3
    exact ⟨rfl, hb1⟩
  · have hk1 : (levN a b : Int) ≤ k := by omega
    have hk2 : 0 ≤ k := by omega
    clear hk h0
    go_enter Try.func41, Try.ntmps41
    go_wp2_with fail
    refine (Levels_ok a b _ h).mono ?_
    rintro e w1 ⟨rfl, hb1⟩
    go_wp2_with fail
    go_ret3
    exact ⟨rfl, hb1⟩

theorem Size_ok (a b : Int) (k : Nat) (w : World) (h : SizeOk a b) (hk : k < levN a b) :
    Calls Try.prog 41 #[.int .i64 a, .int .i64 b, .int .i64 k] w fun e w' => e = .returned (.tuple #[.int .i64 (halfZ a k), .int .i64 (halfZ b k), .int .i64 0]) ∧ Below w.heap.size w w' := by
  have hl := levN_le h
  obtain ⟨h1, h2, h3, h4⟩ := id h
  go_enter Try.func41, Try.ntmps41
  go_wp2_with fail
  refine (Levels_ok a b _ h).mono ?_
  rintro e w1 ⟨rfl, hb1⟩
  go_wp2_with fail
  refine (half_any a k _ h1 h2 (by omega)).mono ?_
  rintro e w2 ⟨rfl, rfl⟩
  go_wp2_with fail
  refine (half_any b k _ h3 h4 (by omega)).mono ?_
  rintro e w2 ⟨rfl, rfl⟩
  go_wp2_with fail
  go_ret3
  exact ⟨rfl, hb1⟩
end Go.Proofs.Ytccpgalpahfpaaa
