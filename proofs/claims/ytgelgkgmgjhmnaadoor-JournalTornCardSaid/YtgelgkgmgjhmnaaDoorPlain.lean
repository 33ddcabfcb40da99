/-
  Plain numbers: what folding and unfolding of signs come to; two laws of the bit operations.
-/
import Derived.WalkKit
import Derived.Laws.BitsAllLaws
import Derived.Laws.Bits64
namespace Go.Proofs.YtgelgkgmgjhmnaaDoor
open Go.RowKit

/-- without a sign -/
def foldZ (n : Int) : Int := if 0 ≤ n then 2 * n else -2 * n - 1
/-- with it -/
def unfoldZ (u : Int) : Int := if u % 2 = 0 then u / 2 else - (u / 2) - 1

theorem foldZ_range (n : Int) (h1 : -9223372036854775808 ≤ n) (h2 : n ≤ 9223372036854775807) : 0 ≤ foldZ n ∧ foldZ n ≤ 18446744073709551615 := by
  unfold foldZ; split <;> omega
theorem unfoldZ_range (n : Int) (h1 : 0 ≤ n) (h2 : n ≤ 18446744073709551615) : -9223372036854775808 ≤ unfoldZ n ∧ unfoldZ n ≤ 9223372036854775807 := by
  unfold unfoldZ; split <;> omega
theorem unfold_fold (n : Int) : unfoldZ (foldZ n) = n := by
  unfold foldZ unfoldZ; split <;> split <;> omega
theorem fold_unfold (n : Int) (h : 0 ≤ n) : foldZ (unfoldZ n) = n := by
  unfold foldZ unfoldZ; split <;> split <;> omega

theorem u64_xor_ones (x : Int) (h1 : 0 ≤ x) (h2 : x ≤ 18446744073709551615) : bits .xor .u64 x 18446744073709551615 = 18446744073709551615 - x := by
  obtain ⟨k, rfl⟩ := Int.eq_ofNat_of_zero_le h1
  show IntKind.u64.wrap ((BitVec.ofInt 64 (k : Int) ^^^ BitVec.ofInt 64 18446744073709551615).toNat : Int) = _
  have e : BitVec.ofInt 64 18446744073709551615 = BitVec.allOnes 64 := by decide
  rw [e, BitVec.xor_allOnes, BitVec.toNat_not, ofInt_u64 k (by omega), IntKind.wrap_u64]
  omega
theorem u64_xor_zero (x : Int) (h1 : 0 ≤ x) (h2 : x ≤ 18446744073709551615) : bits .xor .u64 x 0 = x := by
  rw [u64_xor x 0 h1 (by omega) (by omega) (by omega)]; simp; omega
theorem i64_xor_ones (x : Int) (h1 : 0 ≤ x) (h2 : x ≤ 9223372036854775807) : bits .xor .i64 x (-1) = - x - 1 := by
  obtain ⟨k, rfl⟩ := Int.eq_ofNat_of_zero_le h1
  show IntKind.i64.wrap ((BitVec.ofInt 64 (k : Int) ^^^ BitVec.ofInt 64 (-1)).toNat : Int) = _
  have e : BitVec.ofInt 64 (-1) = BitVec.allOnes 64 := by decide
  rw [e, BitVec.xor_allOnes, BitVec.toNat_not, ofInt_u64 k (by omega), IntKind.wrap_i64]
  omega
theorem i64_xor_zero (x : Int) (h1 : 0 ≤ x) (h2 : x ≤ 9223372036854775807) : bits .xor .i64 x 0 = x := by
  obtain ⟨k, rfl⟩ := Int.eq_ofNat_of_zero_le h1
  show IntKind.i64.wrap ((BitVec.ofInt 64 (k : Int) ^^^ BitVec.ofInt 64 0).toNat : Int) = _
  have e : BitVec.ofInt 64 0 = 0#64 := by decide
  rw [e, BitVec.xor_zero, ofInt_u64 k (by omega), IntKind.wrap_i64]
  omega
theorem u64_and_one (x : Int) (h1 : 0 ≤ x) (h2 : x ≤ 18446744073709551615) : bits .and .u64 x 1 = x % 2 := by
  rw [u64_and x 1 h1 (by omega) (by omega) (by omega)]
  have : (1 : Int).toNat = 1 := rfl
  rw [this, nat_mask1]; omega

/-- leb.Fold's own text -/
theorem fold_text (n : Int) (h1 : -9223372036854775808 ≤ n) (h2 : n ≤ 9223372036854775807) :
    bits .xor .u64 (IntKind.u64.wrap (IntKind.u64.wrap n * 2)) (IntKind.u64.wrap (n / 9223372036854775808)) = foldZ n := by
  unfold foldZ
  by_cases h : 0 ≤ n
  · have e : n / 9223372036854775808 = 0 := by omega
    rw [if_pos h, e]
    have : IntKind.u64.wrap 0 = 0 := by rw [IntKind.wrap_u64]; omega
    rw [this, u64_xor_zero _ (by rw [IntKind.wrap_u64]; omega) (by rw [IntKind.wrap_u64]; omega)]
    simp only [IntKind.wrap_u64]; omega
  · have e : n / 9223372036854775808 = -1 := by omega
    rw [if_neg h, e]
    have : IntKind.u64.wrap (-1) = 18446744073709551615 := by rw [IntKind.wrap_u64]; omega
    rw [this, u64_xor_ones _ (by rw [IntKind.wrap_u64]; omega) (by rw [IntKind.wrap_u64]; omega)]
    simp only [IntKind.wrap_u64]; omega
/-- leb.Unfold's own text -/
theorem unfold_text (n : Int) (h1 : 0 ≤ n) (h2 : n ≤ 18446744073709551615) :
    bits .xor .i64 (n / 2) (wrap64 (-wrap64 (bits .and .u64 n 1))) = unfoldZ n := by
  unfold unfoldZ
  rw [u64_and_one n h1 h2]
  by_cases h : n % 2 = 0
  · rw [if_pos h, h]
    have : wrap64 (-wrap64 0) = 0 := by unfold wrap64; omega
    rw [this, i64_xor_zero _ (by omega) (by omega)]
  · have e : n % 2 = 1 := by omega
    rw [if_neg h, e]
    have : wrap64 (-wrap64 1) = -1 := by unfold wrap64; omega
    rw [this, i64_xor_ones _ (by omega) (by omega)]
end Go.Proofs.YtgelgkgmgjhmnaaDoor
