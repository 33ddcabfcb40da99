/-
  Plain: the areas of the kids' spans sum up; the i-th kid.
-/
import Derived.Test.YtgelgkgmgjhmnaaKidsPlain
namespace Go.Proofs.Ytgelgkgmgjhmnaa
open Go.RowKit
set_option linter.unusedVariables false
set_option linter.unusedSimpArgs false

theorem kid_at (nx ny : Nat) (x y : Int) (h1 : 1 ≤ nx) (h2 : nx ≤ 2) (h3 : 1 ≤ ny) (h4 : ny ≤ 2) (i : Nat) (hi : i < (kidRows nx ny x y).length) :
    (kidRows nx ny x y)[i] = (2 * x + ((i % nx : Nat) : Int), 2 * y + ((i / nx : Nat) : Int)) := by
  have hl := kidRows_len nx ny x y
  rcases (show nx = 1 ∨ nx = 2 from by omega) with rfl | rfl <;> rcases (show ny = 1 ∨ ny = 2 from by omega) with rfl | rfl
  · obtain rfl : i = 0 := by omega
    simp [kidRows, List.range_succ]
  · rcases (show i = 0 ∨ i = 1 from by omega) with rfl | rfl <;> simp [kidRows, List.range_succ]
  · rcases (show i = 0 ∨ i = 1 from by omega) with rfl | rfl <;> simp [kidRows, List.range_succ]
  · rcases (show i = 0 ∨ i = 1 ∨ i = 2 ∨ i = 3 from by omega) with rfl | rfl | rfl | rfl <;> simp [kidRows, List.range_succ]

/-- the width of a kid's span -/
def wdZ (m : Nat) (x a : Int) (d : Nat) : Int := hiZ m (2 * x + (d : Int)) a + 1 - loZ m (2 * x + (d : Int))
/-- the first kids' cells -/
def accZ (m : Nat) (a b x y : Int) (nx : Nat) : Nat → Int
  | 0 => 0
  | i + 1 => accZ m a b x y nx i + wdZ m x a (i % nx) * wdZ m y b (i / nx)

theorem acc_all {a b x y : Int} {m : Nat} (hs : SizeOk a b) (h0 : 0 ≤ x) (h : x < halfZ a (m + 1)) (h0' : 0 ≤ y) (h' : y < halfZ b (m + 1)) :
    accZ m a b x y (kidN (halfZ a m) x) (kidN (halfZ b m) y * kidN (halfZ a m) x) = (hiZ (m + 1) x a + 1 - loZ (m + 1) x) * (hiZ (m + 1) y b + 1 - loZ (m + 1) y) := by
  obtain ⟨_, _, _, c1, c2⟩ := kid_1 hs.1 hs.2.1 h0 h
  obtain ⟨_, _, _, d1, d2⟩ := kid_1 hs.2.2.1 hs.2.2.2 h0' h'
  obtain ⟨lx, hlx⟩ := kidN_le (halfZ a m) x
  obtain ⟨ly, hly⟩ := kidN_le (halfZ b m) y
  rcases (show kidN (halfZ a m) x = 1 ∨ kidN (halfZ a m) x = 2 from by omega) with e | e <;> rcases (show kidN (halfZ b m) y = 1 ∨ kidN (halfZ b m) y = 2 from by omega) with e' | e'
  · rw [e, e', ← c1 e, ← d1 e']; simp [accZ, wdZ]
  · rw [e, e', ← c1 e, ← d2 e']; simp [accZ, wdZ, Int.mul_add]
  · rw [e, e', ← c2 e, ← d1 e']; simp [accZ, wdZ, Int.add_mul]
  · rw [e, e', ← c2 e, ← d2 e']; simp [accZ, wdZ, Int.add_mul, Int.mul_add]; omega

theorem kid_apart {a b x y : Int} {m : Nat} (hs : SizeOk a b) (h0 : 0 ≤ x) (h : x < halfZ a (m + 1)) (h0' : 0 ≤ y) (h' : y < halfZ b (m + 1)) (i j nx : Nat) (hn : 0 < nx) (hij : j < i) :
    hiZ m (2 * x + ((j % nx : Nat) : Int)) a < loZ m (2 * x + ((i % nx : Nat) : Int)) ∨ hiZ m (2 * y + ((j / nx : Nat) : Int)) b < loZ m (2 * y + ((i / nx : Nat) : Int)) := by
  obtain ⟨_, _, c, _, _⟩ := kid_1 hs.1 hs.2.1 h0 h
  obtain ⟨_, _, d, _, _⟩ := kid_1 hs.2.2.1 hs.2.2.2 h0' h'
  have e1 : j / nx ≤ i / nx := Nat.div_le_div_right (by omega)
  by_cases e : j / nx = i / nx
  · have m1 := Nat.div_add_mod i nx
    have m2 := Nat.div_add_mod j nx
    rw [e] at m2
    exact .inl (c _ _ (by omega))
  · exact .inr (d _ _ (by omega))

theorem kid_fine {a b x y : Int} {m : Nat} (hs : SizeOk a b) (hl : m + 1 < levN a b) (h0 : 0 ≤ x) (h : x < halfZ a (m + 1)) (h0' : 0 ≤ y) (h' : y < halfZ b (m + 1)) (i : Nat)
    (hi : i < kidN (halfZ b m) y * kidN (halfZ a m) x) :
    checkZ a b m (2 * x + ((i % kidN (halfZ a m) x : Nat) : Int)) (2 * y + ((i / kidN (halfZ a m) x : Nat) : Int)) = 0 ∧
    (loZ (m + 1) x ≤ loZ m (2 * x + ((i % kidN (halfZ a m) x : Nat) : Int)) ∧ loZ (m + 1) y ≤ loZ m (2 * y + ((i / kidN (halfZ a m) x : Nat) : Int)) ∧
      hiZ m (2 * x + ((i % kidN (halfZ a m) x : Nat) : Int)) a ≤ hiZ (m + 1) x a ∧ hiZ m (2 * y + ((i / kidN (halfZ a m) x : Nat) : Int)) b ≤ hiZ (m + 1) y b) := by
  obtain ⟨_, c, _⟩ := kid_1 hs.1 hs.2.1 h0 h
  obtain ⟨_, d, _⟩ := kid_1 hs.2.2.1 hs.2.2.2 h0' h'
  obtain ⟨lx, hlx⟩ := kidN_le (halfZ a m) x
  have c1 := c (i % kidN (halfZ a m) x) (Nat.mod_lt _ (by omega))
  have d1 := d (i / kidN (halfZ a m) x) (Nat.div_lt_of_lt_mul (by rw [Nat.mul_comm]; exact hi))
  exact ⟨check_of hs (by omega) (Int.add_nonneg (by omega) (Int.natCast_nonneg _)) c1.1 (Int.add_nonneg (by omega) (Int.natCast_nonneg _)) d1.1, c1.2.1, d1.2.1, c1.2.2, d1.2.2⟩

theorem acc_bound {a b x y : Int} {m : Nat} (hs : SizeOk a b) (hl : m + 1 < levN a b) (h0 : 0 ≤ x) (h : x < halfZ a (m + 1)) (h0' : 0 ≤ y) (h' : y < halfZ b (m + 1)) (i : Nat)
    (hi : i ≤ kidN (halfZ b m) y * kidN (halfZ a m) x) : 0 ≤ accZ m a b x y (kidN (halfZ a m) x) i ∧ accZ m a b x y (kidN (halfZ a m) x) i ≤ 1048576 * i := by
  induction i with
  | zero => simp [accZ]
  | succ i ih =>
    obtain ⟨h1, h2⟩ := ih (by omega)
    obtain ⟨r1, r2, r3, r4, r5, r6⟩ := span_right (kid_fine hs hl h0 h h0' h' i (by omega)).1
    have q1 : 0 ≤ wdZ m x a (i % kidN (halfZ a m) x) := by unfold wdZ; omega
    have q2 : 0 ≤ wdZ m y b (i / kidN (halfZ a m) x) := by unfold wdZ; omega
    have p1 : 0 ≤ wdZ m x a (i % kidN (halfZ a m) x) * wdZ m y b (i / kidN (halfZ a m) x) := Int.mul_nonneg q1 q2
    have p2 : wdZ m x a (i % kidN (halfZ a m) x) * wdZ m y b (i / kidN (halfZ a m) x) ≤ 1024 * 1024 := Int.mul_le_mul (by unfold wdZ; omega) (by unfold wdZ; omega) q2 (by omega)
    simp only [accZ]
    omega
end Go.Proofs.Ytgelgkgmgjhmnaa
