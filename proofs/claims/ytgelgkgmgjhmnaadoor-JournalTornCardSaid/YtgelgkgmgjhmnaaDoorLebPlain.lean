/-
  Plain: the bytes of a number.
-/
import Derived.WalkKit
import Derived.Lib.Strings
namespace Go.Proofs.YtgelgkgmgjhmnaaDoor

def lebAux : Nat → Nat → List UInt8
  | 0, _ => []
  | k + 1, u => if u < 128 then [UInt8.ofNat u] else UInt8.ofNat (u % 128 + 128) :: lebAux k (u / 128)
/-- the bytes of u -/
def lebB (u : Nat) : List UInt8 := lebAux 10 u

theorem lebAux_more : ∀ (k u : Nat), u < 128 ^ (k + 1) → lebAux (k + 2) u = lebAux (k + 1) u := by
  intro k
  induction k with
  | zero =>
    intro u hu
    have : u < 128 := by simpa using hu
    simp [lebAux, this]
  | succ k ih =>
    intro u hu
    have h : u / 128 < 128 ^ (k + 1) := by
      rw [Nat.div_lt_iff_lt_mul (by omega)]
      rw [Nat.pow_succ] at hu
      exact hu
    rw [lebAux, ih _ h]
    conv => rhs; rw [lebAux]
theorem lebB_small (u : Nat) (h : u < 128) : lebB u = [UInt8.ofNat u] := by
  unfold lebB; rw [lebAux, if_pos h]
theorem lebB_big (u : Nat) (h : ¬ u < 128) (hu : u < 18446744073709551616) : lebB u = UInt8.ofNat (u % 128 + 128) :: lebB (u / 128) := by
  unfold lebB
  rw [lebAux_more 8 (u / 128) (by simp; omega)]
  conv => lhs; rw [lebAux, if_neg h]
theorem lebB_ne (u : Nat) : lebB u ≠ [] := by
  unfold lebB lebAux; split <;> simp
theorem lebAux_len : ∀ (k u : Nat), (lebAux k u).length ≤ k := by
  intro k
  induction k with
  | zero => intro u; simp [lebAux]
  | succ k ih =>
    intro u
    rw [lebAux]
    split
    · simp
    · have := ih (u / 128)
      simp; omega
theorem lebB_len (u : Nat) : (lebB u).length ≤ 10 := lebAux_len 10 u
theorem lebB_pos (u : Nat) : 0 < (lebB u).length := List.length_pos_iff.2 (lebB_ne u)

theorem ofNat_inj8 {a b : Nat} (ha : a < 256) (hb : b < 256) (h : UInt8.ofNat a = UInt8.ofNat b) : a = b := by
  have := congrArg UInt8.toNat h
  rw [UInt8.toNat_ofNat', UInt8.toNat_ofNat'] at this
  omega
theorem lebAux_begins : ∀ (k u v : Nat), u < 128 ^ k → v < 128 ^ k → (∃ t, lebAux k u ++ t = lebAux k v) → u = v := by
  intro k
  induction k with
  | zero => intro u v hu hv _; simp at hu hv; omega
  | succ k ih =>
    intro u v hu hv ⟨t, ht⟩
    have hu' : u / 128 < 128 ^ k := by rw [Nat.div_lt_iff_lt_mul (by omega)]; rw [Nat.pow_succ] at hu; exact hu
    have hv' : v / 128 < 128 ^ k := by rw [Nat.div_lt_iff_lt_mul (by omega)]; rw [Nat.pow_succ] at hv; exact hv
    rw [lebAux, lebAux] at ht
    by_cases h1 : u < 128 <;> by_cases h2 : v < 128
    · rw [if_pos h1, if_pos h2] at ht
      injection ht with ht _
      exact ofNat_inj8 (by omega) (by omega) ht
    · rw [if_pos h1, if_neg h2] at ht
      injection ht with ht _
      have := ofNat_inj8 (by omega) (by omega) ht
      omega
    · rw [if_neg h1, if_pos h2] at ht
      injection ht with ht _
      have := ofNat_inj8 (by omega) (by omega) ht
      omega
    · rw [if_neg h1, if_neg h2] at ht
      injection ht with ht1 ht2
      have a1 := ofNat_inj8 (by omega) (by omega) ht1
      have a2 := ih _ _ hu' hv' ⟨t, ht2⟩
      omega
theorem lebB_begins {u v : Nat} (hu : u < 18446744073709551616) (hv : v < 18446744073709551616) (h : (lebB v).take (lebB u).length = lebB u) : u = v := by
  refine lebAux_begins 10 u v (by simp; omega) (by simp; omega) ⟨(lebB v).drop (lebB u).length, ?_⟩
  have := List.take_append_drop (lebB u).length (lebB v)
  rw [h] at this
  exact this
theorem lebAux_longer : ∀ (k u v : Nat), u ≤ v → (lebAux k u).length ≤ (lebAux k v).length := by
  intro k
  induction k with
  | zero => intro u v _; simp [lebAux]
  | succ k ih =>
    intro u v h
    rw [lebAux, lebAux]
    by_cases h1 : u < 128
    · rw [if_pos h1]
      split <;> simp
    · rw [if_neg h1, if_neg (by omega)]
      have := ih (u / 128) (v / 128) (by omega)
      simp; omega
theorem lebB_longer {u v : Nat} (h : u ≤ v) : (lebB u).length ≤ (lebB v).length := lebAux_longer 10 u v h
theorem lebB_apart {u v : Nat} (hu : u < 18446744073709551616) (hv : v < 18446744073709551616) (h : u ≠ v) :
    ((({ data := (lebB v).toArray } : ByteArray).extract 0 (lebB u).length).toList == lebB u) = false := by
  rw [beq_eq_false_iff_ne]
  intro he
  apply h
  apply lebB_begins hu hv
  rw [Lib.extract_toList] at he
  simpa using he
end Go.Proofs.YtgelgkgmgjhmnaaDoor
