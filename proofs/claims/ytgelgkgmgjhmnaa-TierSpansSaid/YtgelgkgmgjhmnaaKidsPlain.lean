/-
  Plain: a cell's span, the spans of its kids: parts of it, apart, of as many cells.
-/
import Derived.Test.YtgelgkgmgjhmnaaKids
import Derived.Test.YtgelgkgmgjhmnaaMeet
namespace Go.Proofs.Ytgelgkgmgjhmnaa
open Go.RowKit
set_option linter.unusedVariables false
set_option linter.unusedSimpArgs false

theorem check_zero {a b k x y : Int} (h : checkZ a b k x y = 0) : SizeOk a b ∧ 0 ≤ k ∧ k < levN a b ∧ 0 ≤ x ∧ x < halfZ a k.toNat ∧ 0 ≤ y ∧ y < halfZ b k.toNat := by
  unfold checkZ at h
  split at h
  · omega
  · split at h
    · omega
    · split at h
      · omega
      · rename_i h1 h2 h3
        refine ⟨by simpa using h1, ?_⟩
        omega

theorem check_of {a b x y : Int} {n : Nat} (hs : SizeOk a b) (hn : n < levN a b) (h1 : 0 ≤ x) (h2 : x < halfZ a n) (h3 : 0 ≤ y) (h4 : y < halfZ b n) : checkZ a b n x y = 0 := by
  unfold checkZ
  rw [if_neg (fun f => f hs), if_neg (by omega), if_neg (by simp only [Int.toNat_natCast]; omega)]

theorem pow_le_1024 {n : Nat} (hn : n ≤ 10) : (0 : Int) < 2 ^ n ∧ (2 : Int) ^ n ≤ 1024 := by
  have h1 : (0 : Int) < 2 ^ n := Int.pow_pos (by omega)
  have h2 : 2 ^ n ≤ 2 ^ 10 := Nat.pow_le_pow_right (by omega) hn
  have h3 : ((2 ^ n : Nat) : Int) = 2 ^ n := by simp
  omega

/-- a column below the half: its first cell is in the grid -/
theorem half_mul (a x : Int) (n : Nat) (h : x < halfZ a n) : x * 2 ^ n ≤ a - 1 := by
  have hp : (0 : Int) < 2 ^ n := Int.pow_pos (by omega)
  unfold halfZ at h
  exact (Int.le_ediv_iff_mul_le hp).1 (by omega)

theorem half_of_mul (a x : Int) (n : Nat) (h : x * 2 ^ n ≤ a - 1) : x < halfZ a n := by
  have hp : (0 : Int) < 2 ^ n := Int.pow_pos (by omega)
  unfold halfZ
  have := (Int.le_ediv_iff_mul_le hp).2 h
  omega

/-- the first and the last column of a span -/
def loZ (n : Nat) (x : Int) : Int := x * 2 ^ n
def hiZ (n : Nat) (x a : Int) : Int := min ((x + 1) * 2 ^ n) a - 1

theorem span_1 {a x : Int} {n : Nat} (hn : n ≤ 10) (ha : 1 ≤ a) (ha' : a ≤ 1024) (h0 : 0 ≤ x) (h : x < halfZ a n) : 0 ≤ x * 2 ^ n ∧ x * 2 ^ n ≤ 1023 ∧ 0 ≤ (x + 1) * 2 ^ n ∧ (x + 1) * 2 ^ n ≤ 2047 ∧ x ≤ 1023 ∧ 0 ≤ loZ n x ∧ loZ n x ≤ hiZ n x a ∧ hiZ n x a < 1024 := by
  obtain ⟨p1, p2⟩ := pow_le_1024 hn
  have h1 := half_mul a x n h
  have h2 : 0 ≤ x * 2 ^ n := Int.mul_nonneg h0 (by omega)
  have h3 : (x + 1) * 2 ^ n = x * 2 ^ n + 2 ^ n := by rw [Int.add_mul, Int.one_mul]
  have h4 : x * 1 ≤ x * 2 ^ n := Int.mul_le_mul_of_nonneg_left (by omega) h0
  unfold loZ hiZ
  rw [h3]
  omega

theorem Span_any (a b x y : Int) (n : Nat) (w : World) (h : checkZ a b n x y = 0) :
    Calls Try.prog 25 #[.int .i64 a, .int .i64 b, .int .i64 n, .agg #[.int .i64 x, .int .i64 y]] w fun e w' => e = .returned (.tuple #[.agg #[.int .i64 (loZ n x), .int .i64 (loZ n y), .int .i64 (hiZ n x a), .int .i64 (hiZ n y b)], .int .i64 0]) ∧ Below w.heap.size w w' := by
  obtain ⟨hs, _, hl, x0, x1, y0, y1⟩ := check_zero h
  have hl11 := levN_le hs
  simp only [Int.toNat_natCast] at x1 y1
  obtain ⟨s1, s2, s3, s4⟩ := id hs
  obtain ⟨c1, c2, c3, c4, c5, _⟩ := span_1 (n := n) (by omega) s1 s2 x0 x1
  obtain ⟨d1, d2, d3, d4, d5, _⟩ := span_1 (n := n) (by omega) s3 s4 y0 y1
  exact Span_ok a b x y n w (by omega) (by omega) (by omega) (by omega) h (by omega) c1 (by omega) d1 (by omega) c3 c4 d3 d4 x0 c5 y0 d5 s1 s3

theorem span_right {a b x y : Int} {n : Nat} (h : checkZ a b n x y = 0) : RightP (loZ n x) (loZ n y) (hiZ n x a) (hiZ n y b) := by
  obtain ⟨hs, _, hl, x0, x1, y0, y1⟩ := check_zero h
  have hl11 := levN_le hs
  simp only [Int.toNat_natCast] at x1 y1
  obtain ⟨s1, s2, s3, s4⟩ := id hs
  obtain ⟨_, _, _, _, _, c1, c2, c3⟩ := span_1 (n := n) (by omega) s1 s2 x0 x1
  obtain ⟨_, _, _, _, _, d1, d2, d3⟩ := span_1 (n := n) (by omega) s3 s4 y0 y1
  exact ⟨c1, c2, c3, d1, d2, d3⟩

/-- one way: the kids' columns -/
theorem kid_1 {a x : Int} {m : Nat} (ha : 1 ≤ a) (ha' : a ≤ 1024) (h0 : 0 ≤ x) (h : x < halfZ a (m + 1)) :
    2 * x < halfZ a m ∧ (∀ d : Nat, d < kidN (halfZ a m) x → 2 * x + (d : Int) < halfZ a m ∧ loZ (m + 1) x ≤ loZ m (2 * x + d) ∧ hiZ m (2 * x + d) a ≤ hiZ (m + 1) x a) ∧
    (∀ d d' : Nat, d < d' → hiZ m (2 * x + d) a < loZ m (2 * x + d')) ∧
    (kidN (halfZ a m) x = 1 → hiZ m (2 * x + (0 : Nat)) a + 1 - loZ m (2 * x + (0 : Nat)) = hiZ (m + 1) x a + 1 - loZ (m + 1) x) ∧
    (kidN (halfZ a m) x = 2 → hiZ m (2 * x + (0 : Nat)) a + 1 - loZ m (2 * x + (0 : Nat)) + (hiZ m (2 * x + (1 : Nat)) a + 1 - loZ m (2 * x + (1 : Nat))) = hiZ (m + 1) x a + 1 - loZ (m + 1) x) := by
  have hp : (0 : Int) < 2 ^ m := Int.pow_pos (by omega)
  have h1 := half_mul a x (m + 1) h
  have e1 : (2 : Int) ^ (m + 1) = 2 * 2 ^ m := by rw [Int.pow_succ]; omega
  rw [e1] at h1
  obtain ⟨P, hP⟩ : ∃ P : Int, 2 ^ m = P := ⟨_, rfl⟩
  have e2 : x * (2 * P) = 2 * (x * P) := by rw [← Int.mul_assoc, Int.mul_comm x 2, Int.mul_assoc]
  obtain ⟨u, hu⟩ : ∃ u, x * P = u := ⟨_, rfl⟩
  have f1 : ∀ d : Int, (2 * x + d) * 2 ^ m = 2 * u + d * P := fun d => by rw [Int.add_mul, hP, Int.mul_assoc, hu]
  have f2 : 2 * x * 2 ^ m = 2 * u := by rw [hP, Int.mul_assoc, hu]
  have f3 : ∀ d : Int, (2 * x + d + 1) * 2 ^ m = 2 * u + d * P + P := fun d => by rw [Int.add_mul, Int.add_mul, hP, Int.mul_assoc, hu, Int.one_mul]
  have f4 : x * 2 ^ (m + 1) = 2 * u := by rw [e1, hP, e2, hu]
  have f5 : (x + 1) * 2 ^ (m + 1) = 2 * u + 2 * P := by rw [Int.add_mul, Int.one_mul, f4, e1, hP]
  rw [hP, e2, hu] at h1
  rw [hP] at hp
  have g0 : 2 * x < halfZ a m := half_of_mul _ _ _ (by rw [f2]; omega)
  have g1 : 2 * x + 1 < halfZ a m ↔ 2 * u + P ≤ a - 1 := by
    constructor
    · intro hh
      have := half_mul _ _ _ hh
      rw [f1] at this
      omega
    · intro hh
      exact half_of_mul _ _ _ (by rw [f1]; omega)
  refine ⟨g0, ?_, ?_, ?_, ?_⟩
  · intro d hd
    unfold kidN at hd
    split at hd
    · rename_i hh
      have := g1.1 hh
      match d, hd with
      | 0, _ => 
        refine ⟨by simpa using g0, ?_, ?_⟩
        · unfold loZ; rw [f1, f4]; simp
        · unfold hiZ; rw [f3, f5]; simp; omega
      | 1, _ =>
        refine ⟨by simpa using hh, ?_, ?_⟩
        · unfold loZ; rw [f1, f4]; simp; omega
        · unfold hiZ; rw [f3, f5]; simp; omega
    · match d, hd with
      | 0, _ => 
        refine ⟨by simpa using g0, ?_, ?_⟩
        · unfold loZ; rw [f1, f4]; simp
        · unfold hiZ; rw [f3, f5]; simp; omega
  · intro d d' hdd
    unfold loZ hiZ
    rw [f1, f3]
    have : ((d : Int) + 1) * P ≤ (d' : Int) * P := Int.mul_le_mul_of_nonneg_right (by omega) (by omega)
    rw [Int.add_mul, Int.one_mul] at this
    omega
  · intro hk
    have : ¬ (2 * x + 1 < halfZ a m) := by intro hh; unfold kidN at hk; rw [if_pos hh] at hk; omega
    rw [g1] at this
    unfold loZ hiZ
    rw [f1, f3, f4, f5]
    simp
    omega
  · intro hk
    have : 2 * x + 1 < halfZ a m := by
      unfold kidN at hk
      split at hk
      · assumption
      · omega
    rw [g1] at this
    unfold loZ hiZ
    rw [f1, f3, f4, f5, f1, f3]
    simp
    omega
end Go.Proofs.Ytgelgkgmgjhmnaa
