/-
  Plain: the sum of bytes, bit by bit; four bits at once by a table.
-/
import Derived.WalkKit
import Derived.Laws.BitsAllLaws
namespace Go.Proofs.YtgelgkgmgjhmnaaDoor

/-- one bit -/
def crcBit (s : Nat) : Nat := if s % 2 = 1 then s / 2 ^^^ 2197175160 else s / 2
/-- so many bits -/
def crcBits : Nat → Nat → Nat
  | 0, s => s
  | k + 1, s => crcBits k (crcBit s)
/-- one byte -/
def crcByte (s : Nat) (c : UInt8) : Nat := crcBits 8 (s ^^^ c.toNat)
/-- bytes behind a sum -/
def crcMore (s : Nat) (l : List UInt8) : Nat := l.foldl crcByte (s ^^^ 4294967295) ^^^ 4294967295
/-- what four bits come to -/
def halves : List Nat := [0, 274646895, 549293790, 820201905, 1098587580, 1361435347, 1640403810, 1905808397, 2197175160, 2460548119, 2722870694, 2987750089, 3280807620, 3553878443, 3811616794, 4084100981]

theorem crcBit_lt (s : Nat) (h : s < 4294967296) : crcBit s < 4294967296 := by
  unfold crcBit
  split
  · exact Nat.xor_lt_two_pow (n := 32) (by omega) (by omega)
  · omega
theorem crcBits_lt : ∀ (k s : Nat), s < 4294967296 → crcBits k s < 4294967296 := by
  intro k
  induction k with
  | zero => intro s h; exact h
  | succ k ih => intro s h; exact ih _ (crcBit_lt s h)
theorem xor_lt32 {a b : Nat} (ha : a < 4294967296) (hb : b < 4294967296) : a ^^^ b < 4294967296 := Nat.xor_lt_two_pow (n := 32) ha hb
theorem crcByte_lt (s : Nat) (c : UInt8) (h : s < 4294967296) : crcByte s c < 4294967296 :=
  crcBits_lt 8 _ (xor_lt32 h (by have := UInt8.toNat_lt c; omega))
theorem fold_lt : ∀ (l : List UInt8) (s : Nat), s < 4294967296 → l.foldl crcByte s < 4294967296 := by
  intro l
  induction l with
  | nil => intro s h; exact h
  | cons c l ih => intro s h; exact ih _ (crcByte_lt s c h)
theorem crcMore_lt (s : Nat) (l : List UInt8) (h : s < 4294967296) : crcMore s l < 4294967296 := by
  unfold crcMore
  exact xor_lt32 (fold_lt _ _ (xor_lt32 h (by omega))) (by omega)
theorem xor_back (a b : Nat) : a ^^^ b ^^^ b = a := by rw [Nat.xor_assoc, Nat.xor_self, Nat.xor_zero]
/-- it goes on from any sum, in any parts -/
theorem crcMore_append (s : Nat) (a b : List UInt8) : crcMore (crcMore s a) b = crcMore s (a ++ b) := by
  unfold crcMore
  rw [List.foldl_append, xor_back]

theorem xor_mod2 (a b : Nat) : (a ^^^ b) % 2 = (a % 2 + b % 2) % 2 := by
  have h := Nat.xor_mod_two_pow (a := a) (b := b) (n := 1)
  simp only [Nat.pow_one] at h
  rw [h]
  rcases Nat.mod_two_eq_zero_or_one a with ha | ha <;> rcases Nat.mod_two_eq_zero_or_one b with hb | hb <;> rw [ha, hb] <;> rfl
theorem xor_div2 (a b : Nat) : (a ^^^ b) / 2 = a / 2 ^^^ b / 2 := by
  have h := Nat.xor_div_two_pow (a := a) (b := b) (n := 1)
  simpa using h
theorem crcBit_even' {s : Nat} (h : s % 2 = 0) : crcBit s = s / 2 := by unfold crcBit; rw [if_neg (by omega)]
theorem crcBit_odd {s : Nat} (h : s % 2 = 1) : crcBit s = s / 2 ^^^ 2197175160 := by unfold crcBit; rw [if_pos h]
theorem crcBit_xor (a b : Nat) : crcBit (a ^^^ b) = crcBit a ^^^ crcBit b := by
  have hm := xor_mod2 a b
  rcases Nat.mod_two_eq_zero_or_one a with ha | ha <;> rcases Nat.mod_two_eq_zero_or_one b with hb | hb <;> rw [ha, hb] at hm
  · rw [crcBit_even' hm, crcBit_even' ha, crcBit_even' hb, xor_div2]
  · rw [crcBit_odd hm, crcBit_even' ha, crcBit_odd hb, xor_div2, Nat.xor_assoc]
  · rw [crcBit_odd hm, crcBit_odd ha, crcBit_even' hb, xor_div2, Nat.xor_assoc, Nat.xor_assoc, Nat.xor_comm (b / 2)]
  · rw [crcBit_even' hm, crcBit_odd ha, crcBit_odd hb, xor_div2, Nat.xor_assoc, ← Nat.xor_assoc 2197175160, Nat.xor_comm 2197175160 (b / 2), xor_back]
theorem crcBits_xor : ∀ (k a b : Nat), crcBits k (a ^^^ b) = crcBits k a ^^^ crcBits k b := by
  intro k
  induction k with
  | zero => intro a b; rfl
  | succ k ih => intro a b; rw [crcBits, crcBit_xor, ih]; rfl
theorem crcBits_add : ∀ (j k s : Nat), crcBits (j + k) s = crcBits k (crcBits j s) := by
  intro j
  induction j with
  | zero => intro k s; rw [Nat.zero_add]; rfl
  | succ j ih => intro k s; rw [Nat.succ_add]; exact ih k (crcBit s)
theorem crcBit_even (q : Nat) : crcBit (2 * q) = q := by unfold crcBit; rw [if_neg (by omega)]; omega
theorem crcBits_shift (q : Nat) : crcBits 4 (16 * q) = q := by
  have e : 16 * q = 2 * (2 * (2 * (2 * q))) := by omega
  simp only [crcBits, e, crcBit_even]
theorem crcBits_small : ∀ r : Fin 16, crcBits 4 r.val = halves.getD r.val 0 := by decide +kernel
theorem crcBits_four (s : Nat) : crcBits 4 s = s / 16 ^^^ halves.getD (s % 16) 0 := by
  have e : s = 16 * (s / 16) ^^^ s % 16 := by
    have hj := nat_join 4 (16 * (s / 16)) (s % 16) (by omega) (by simp; omega)
    have hx : 16 * (s / 16) ^^^ s % 16 = 16 * (s / 16) ||| s % 16 := by
      rw [Nat.eq_iff_testBit_eq]
      intro i
      simp only [Nat.testBit_xor, Nat.testBit_or]
      have h16 : (16 : Nat) = 2 ^ 4 := rfl
      by_cases hi : i < 4
      · have : (16 * (s / 16)).testBit i = false := by
          rw [h16, Nat.testBit_two_pow_mul]; simp; omega
        simp [this]
      · have : (s % 16).testBit i = false := by
          rw [h16, Nat.testBit_mod_two_pow]; simp; omega
        simp [this]
    rw [hx, hj]; omega
  conv => lhs; rw [e]
  rw [crcBits_xor, crcBits_shift]
  congr 1
  exact crcBits_small ⟨s % 16, by omega⟩
end Go.Proofs.YtgelgkgmgjhmnaaDoor
