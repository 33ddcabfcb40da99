/-
  Plain: some bits within 32 in a row that are turned change what the sum says.
-/
import Derived.Test.YtgelgkgmgjhmnaaDoorSealPlain
namespace Go.Proofs.YtgelgkgmgjhmnaaDoor

/-- bytes as one number, the first the least -/
def num : List UInt8 → Nat
  | [] => 0
  | c :: r => c.toNat + 256 * num r

theorem xor_add (a b : Nat) (h : a < 256) : a ^^^ (256 * b) = a + 256 * b := by
  have hj := Nat.two_pow_add_eq_or_of_lt (i := 8) (b := a) h b
  rw [Nat.eq_iff_testBit_eq]
  intro i
  have h256 : (256 : Nat) = 2 ^ 8 := rfl
  rw [Nat.testBit_xor, show a + 256 * b = 2 ^ 8 * b + a from by omega, hj, Nat.testBit_or, h256]
  by_cases hi : i < 8
  · have : (2 ^ 8 * b).testBit i = false := by rw [Nat.testBit_two_pow_mul]; simp; omega
    simp [this]
  · have : a.testBit i = false := Nat.testBit_lt_two_pow (Nat.lt_of_lt_of_le h (by rw [h256]; exact Nat.pow_le_pow_right (by omega) (by omega)))
    simp [this]
theorem mul256_xor (a b : Nat) : 256 * (a ^^^ b) = 256 * a ^^^ 256 * b := by
  rw [Nat.eq_iff_testBit_eq]
  intro i
  rw [show (256 : Nat) = 2 ^ 8 from rfl, Nat.testBit_xor, Nat.testBit_two_pow_mul, Nat.testBit_two_pow_mul, Nat.testBit_two_pow_mul, Nat.testBit_xor]
  by_cases h : 8 ≤ i <;> simp [h]
theorem crcBits_eight (q : Nat) : crcBits 8 (256 * q) = q := by
  have e : 256 * q = 16 * (16 * q) := by omega
  rw [show 8 = 4 + 4 from rfl, crcBits_add, e, crcBits_shift, crcBits_shift]
theorem crcBits_zero : ∀ k, crcBits k 0 = 0 := by
  intro k
  induction k with
  | zero => rfl
  | succ k ih => exact ih
theorem fold_num : ∀ (l : List UInt8) (s : Nat), l.foldl crcByte s = crcBits (8 * l.length) (s ^^^ num l) := by
  intro l
  induction l with
  | nil => intro s; simp [num, crcBits]
  | cons c r ih =>
    intro s
    have hc := UInt8.toNat_lt c
    rw [List.foldl_cons, ih, crcByte, num, ← xor_add _ _ (by omega), List.length_cons, show 8 * (r.length + 1) = 8 + 8 * r.length from by omega, crcBits_add, ← Nat.xor_assoc, crcBits_xor 8 (s ^^^ c.toNat), crcBits_eight]
theorem num_tail (t : Nat) (h : t < 4294967296) : num (tailB t) = t := by
  simp only [num, tailB, UInt8.toNat_ofNat']
  omega
/-- what sealed bytes come to -/
theorem seal_rest (l : List UInt8) : (sealB l).foldl crcByte 4294967295 = crcBits 32 4294967295 := by
  have h0 : crcMore 0 l = l.foldl crcByte 4294967295 ^^^ 4294967295 := by unfold crcMore; rw [Nat.zero_xor]
  have hlt := crcMore_lt 0 l (by omega)
  rw [sealB, List.foldl_append, fold_num (tailB (crcMore 0 l)), num_tail _ hlt, tailB_len, h0]
  generalize l.foldl crcByte 4294967295 = s
  rw [← Nat.xor_assoc, Nat.xor_self, Nat.zero_xor]

theorem xor_high {a : Nat} (ha : a < 2147483648) : 2147483648 ≤ a ^^^ 2197175160 := by
  have h : (a ^^^ 2197175160) / 2 ^ 31 = a / 2 ^ 31 ^^^ 2197175160 / 2 ^ 31 := Nat.xor_div_two_pow
  have e1 : a / 2 ^ 31 = 0 := Nat.div_eq_of_lt (by simpa using ha)
  have e2 : (2197175160 : Nat) / 2 ^ 31 = 1 := by decide
  rw [e1, e2] at h
  have h3 : (0 ^^^ 1 : Nat) = 1 := by decide
  rw [h3] at h
  simp at h
  omega
theorem crcBit_inj0 {s : Nat} (hs : s < 4294967296) (h : crcBit s = 0) : s = 0 := by
  rcases Nat.mod_two_eq_zero_or_one s with ho | ho
  · rw [crcBit_even' ho] at h; omega
  · rw [crcBit_odd ho] at h
    have := xor_high (a := s / 2) (by omega)
    omega
theorem crcBits_inj0 : ∀ (k s : Nat), s < 4294967296 → crcBits k s = 0 → s = 0 := by
  intro k
  induction k with
  | zero => intro s _ h; exact h
  | succ k ih => intro s hs h; exact crcBit_inj0 hs (ih _ (crcBit_lt s hs) h)
theorem crcBits_pow : ∀ (k t : Nat), crcBits k (t * 2 ^ k) = t := by
  intro k
  induction k with
  | zero => intro t; simp [crcBits]
  | succ k ih =>
    intro t
    rw [crcBits, show t * 2 ^ (k + 1) = 2 * (t * 2 ^ k) from by rw [Nat.pow_succ]; ac_rfl, crcBit_even]
    exact ih t
theorem fold_turn (a b : List UInt8) (hl : a.length = b.length) (h : a.foldl crcByte 4294967295 = b.foldl crcByte 4294967295) : crcBits (8 * a.length) (num a ^^^ num b) = 0 := by
  rw [fold_num, fold_num, hl, crcBits_xor, crcBits_xor] at h
  rw [hl, crcBits_xor]
  generalize crcBits (8 * b.length) 4294967295 = x at h
  generalize crcBits (8 * b.length) (num a) = y at h ⊢
  generalize crcBits (8 * b.length) (num b) = z at h ⊢
  have h2 := congrArg (x ^^^ ·) h
  simp only [← Nat.xor_assoc, Nat.xor_self, Nat.zero_xor] at h2
  rw [h2, Nat.xor_self]
/-- A FEW TURNED BITS ARE TOLD -/
theorem turned_told (l d : List UInt8) (first t : Nat) (hl : d.length = (sealB l).length) (hf : first + 32 ≤ 8 * d.length) (ht : t < 4294967296) (ht0 : t ≠ 0) (hn : num d = num (sealB l) ^^^ t * 2 ^ first) : openB d = ([], 10) := by
  have h4 := sealB_len l
  unfold openB
  rw [if_neg (by omega)]
  split
  · rename_i heq
    exfalso
    have hd : d = sealB (d.take (d.length - 4)) := by
      rw [sealB, ← heq, List.take_append_drop]
    have h1 := seal_rest (d.take (d.length - 4))
    rw [← hd] at h1
    have h2 := fold_turn d (sealB l) hl (h1.trans (seal_rest l).symm)
    rw [hn, Nat.xor_comm (num (sealB l)), xor_back] at h2
    have e : 8 * d.length = first + (8 * d.length - first) := by omega
    rw [e, crcBits_add, crcBits_pow] at h2
    exact ht0 (crcBits_inj0 _ _ ht h2)
  · rfl

theorem num_set : ∀ (l : List UInt8) (j : Nat) (y : Nat) (hj : j < l.length), y < 256 → num (l.set j (UInt8.ofNat (l[j].toNat ^^^ y))) = num l ^^^ y * 256 ^ j := by
  intro l
  induction l with
  | nil => intro j y hj; simp at hj
  | cons c r ih =>
    intro j y hj hy
    have hc := UInt8.toNat_lt c
    cases j with
    | zero =>
      have hx : c.toNat ^^^ y < 256 := Nat.xor_lt_two_pow (n := 8) (by omega) (by omega)
      simp only [List.set_cons_zero, List.getElem_cons_zero, num, UInt8.toNat_ofNat', Nat.pow_zero, Nat.mul_one]
      rw [Nat.mod_eq_of_lt (by omega), ← xor_add _ _ hx, ← xor_add _ _ (by omega), Nat.xor_assoc, Nat.xor_assoc, Nat.xor_comm y]
    | succ j =>
      have := ih j y (by simpa using hj) hy
      simp only [List.set_cons_succ, List.getElem_cons_succ, num]
      rw [this, ← xor_add _ _ (by omega), ← xor_add c.toNat (num r) (by omega)]
      have e : y * 256 ^ (j + 1) = 256 * (y * 256 ^ j) := by rw [Nat.pow_succ]; ac_rfl
      rw [e, Nat.xor_assoc]
      congr 1
      exact mul256_xor _ _

theorem xor_pow {a n : Nat} (h : a < 2 ^ n) : a ^^^ 2 ^ n = a + 2 ^ n := by
  have hj := Nat.two_pow_add_eq_or_of_lt (i := n) (b := a) h 1
  rw [Nat.mul_one] at hj
  rw [Nat.add_comm, hj, Nat.eq_iff_testBit_eq]
  intro i
  rw [Nat.testBit_xor, Nat.testBit_or]
  by_cases hi : i < n
  · have : (2 ^ n).testBit i = false := by rw [Nat.testBit_two_pow]; simp; omega
    simp [this]
  · have : a.testBit i = false := Nat.testBit_lt_two_pow (Nat.lt_of_lt_of_le h (Nat.pow_le_pow_right (by omega) (by omega)))
    simp [this]
theorem bits_none (m k f : Nat) (h : m / 2 ^ k % 2 = 0) : m % 2 ^ (k + 1) * 2 ^ f = m % 2 ^ k * 2 ^ f := by
  rw [Nat.mod_pow_succ, h]; simp
theorem bits_one (m k f : Nat) (h : m / 2 ^ k % 2 = 1) : m % 2 ^ k * 2 ^ f ^^^ 2 ^ (f + k) = m % 2 ^ (k + 1) * 2 ^ f := by
  have hl : m % 2 ^ k * 2 ^ f < 2 ^ (f + k) := by
    rw [Nat.add_comm, Nat.pow_add]
    exact Nat.mul_lt_mul_of_pos_right (Nat.mod_lt _ (Nat.pow_pos (by omega))) (Nat.pow_pos (by omega))
  rw [xor_pow hl, Nat.mod_pow_succ, h, Nat.mul_one, Nat.add_mul, Nat.add_comm f k, Nat.pow_add]
theorem pow_byte (j : Nat) : 2 ^ (j % 8) * 256 ^ (j / 8) = 2 ^ j := by
  rw [show (256 : Nat) = 2 ^ 8 from rfl, ← Nat.pow_mul, ← Nat.pow_add]
  congr 1; omega
theorem pow8_lt (j : Nat) : 2 ^ (j % 8) < 256 := by
  have : (2 : Nat) ^ (j % 8) ≤ 2 ^ 7 := Nat.pow_le_pow_right (by omega) (by omega)
  simp at this ⊢; omega
theorem turn_byte' (x : UInt8) (y : Nat) (hl : y < 256) : bits .xor .u8 (x.toNat : Int) ((y : Int) % 256) = ((UInt8.ofNat (x.toNat ^^^ y)).toNat : Int) := by
  have hx := UInt8.toNat_lt x
  have e : ((y : Int) % 256) = (y : Int) := by omega
  have hlt : x.toNat ^^^ y < 2 ^ 8 := Nat.xor_lt_two_pow (n := 8) (by omega) (by simpa using hl)
  rw [e, u8_xor_nat _ _ (by omega) hl, UInt8.toNat_ofNat', Nat.mod_eq_of_lt hlt]
theorem turn_byte (x : UInt8) (j : Nat) : bits .xor .u8 (x.toNat : Int) (2 ^ (j % 8) % 256) = ((UInt8.ofNat (x.toNat ^^^ 2 ^ (j % 8))).toNat : Int) := by
  have h2 : (2 ^ (j % 8) : Int) = ((2 ^ (j % 8) : Nat) : Int) := by simp
  rw [h2]
  exact turn_byte' x _ (pow8_lt j)
theorem num_turn (l : List UInt8) (j : Nat) (hj : j / 8 < l.length) : num (l.set (j / 8) (UInt8.ofNat (l[j / 8].toNat ^^^ 2 ^ (j % 8)))) = num l ^^^ 2 ^ j := by
  rw [num_set l (j / 8) _ hj (pow8_lt j), pow_byte]
end Go.Proofs.YtgelgkgmgjhmnaaDoor
