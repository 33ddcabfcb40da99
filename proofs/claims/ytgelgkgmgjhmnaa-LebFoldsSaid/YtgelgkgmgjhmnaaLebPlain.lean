/-
  Plain: the bytes of a number.
-/
import Derived.WalkKit
namespace Go.Proofs.Ytgelgkgmgjhmnaa

def lebAux : Nat → Nat → List UInt8
  | 0, _ => []
  | k + 1, u => if u < 128 then [UInt8.ofNat u] else UInt8.ofNat (u % 128 + 128) :: lebAux k (u / 128)
/-- the bytes of u -/
def lebB (u : Nat) : List UInt8 := lebAux 10 u

theorem lebAux_more : ∀ (k u : Nat), u < 128 ^ (k + 1) → lebAux (k + 2) u = lebAux (k + 1) u := by
  intro k
  induction k with
  | zero =>
    intro u hu
    have : u < 128 := by simpa using hu
    simp [lebAux, this]
  | succ k ih =>
    intro u hu
    have h : u / 128 < 128 ^ (k + 1) := by
      rw [Nat.div_lt_iff_lt_mul (by omega)]
      rw [Nat.pow_succ] at hu
      exact hu
    rw [lebAux, ih _ h]
    conv => rhs; rw [lebAux]
theorem lebB_small (u : Nat) (h : u < 128) : lebB u = [UInt8.ofNat u] := by
  unfold lebB; rw [lebAux, if_pos h]
theorem lebB_big (u : Nat) (h : ¬ u < 128) (hu : u < 18446744073709551616) : lebB u = UInt8.ofNat (u % 128 + 128) :: lebB (u / 128) := by
  unfold lebB
  rw [lebAux_more 8 (u / 128) (by simp; omega)]
  conv => lhs; rw [lebAux, if_neg h]
theorem lebB_ne (u : Nat) : lebB u ≠ [] := by
  unfold lebB lebAux; split <;> simp
theorem lebAux_len : ∀ (k u : Nat), (lebAux k u).length ≤ k := by
  intro k
  induction k with
  | zero => intro u; simp [lebAux]
  | succ k ih =>
    intro u
    rw [lebAux]
    split
    · simp
    · have := ih (u / 128)
      simp; omega
theorem lebB_len (u : Nat) : (lebB u).length ≤ 10 := lebAux_len 10 u
theorem lebB_pos (u : Nat) : 0 < (lebB u).length := List.length_pos_iff.2 (lebB_ne u)
end Go.Proofs.Ytgelgkgmgjhmnaa
