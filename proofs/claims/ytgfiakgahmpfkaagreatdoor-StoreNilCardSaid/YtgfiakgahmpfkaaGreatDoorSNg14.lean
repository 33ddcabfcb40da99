/-
  Texts of the proofs, one behind the other: LebPlain, LebGetPlain, Plain, FiP, LebGet, Fold, FiA.
-/
import Derived.WalkKit
import Derived.Lib.Strings
import Derived.Laws.BitsAllLaws
import Derived.Laws.Bits64
import Derived.Test.YtgfiakgahmpfkaaGreatDoorRows
import Derived.Test.YtgfiakgahmpfkaaGreatDoorSNg01
import Derived.Deep.Light
import Derived.Test.YtgfiakgahmpfkaaGreatDoorSNg09
import Derived.Test.YtgfiakgahmpfkaaGreatDoorSNg05
import Derived.Test.YtgfiakgahmpfkaaGreatDoorSNg10
namespace Go.Proofs.YtgfiakgahmpfkaaGreatDoor

def lebAux : Nat → Nat → List UInt8
  | 0, _ => []
  | k + 1, u => if u < 128 then [UInt8.ofNat u] else UInt8.ofNat (u % 128 + 128) :: lebAux k (u / 128)
/-- the bytes of u -/
def lebB (u : Nat) : List UInt8 := lebAux 10 u

theorem lebAux_more : ∀ (k u : Nat), u < 128 ^ (k + 1) → lebAux (k + 2) u = lebAux (k + 1) u := by
  intro k
  induction k with
  | zero =>
    intro u hu
    have : u < 128 := by simpa using hu
    simp [lebAux, this]
  | succ k ih =>
    intro u hu
    have h : u / 128 < 128 ^ (k + 1) := by
      rw [Nat.div_lt_iff_lt_mul (by omega)]
      rw [Nat.pow_succ] at hu
      exact hu
    rw [lebAux, ih _ h]
    conv => rhs; rw [lebAux]
theorem lebB_small (u : Nat) (h : u < 128) : lebB u = [UInt8.ofNat u] := by
  unfold lebB; rw [lebAux, if_pos h]
theorem lebB_big (u : Nat) (h : ¬ u < 128) (hu : u < 18446744073709551616) : lebB u = UInt8.ofNat (u % 128 + 128) :: lebB (u / 128) := by
  unfold lebB
  rw [lebAux_more 8 (u / 128) (by simp; omega)]
  conv => lhs; rw [lebAux, if_neg h]
theorem lebB_ne (u : Nat) : lebB u ≠ [] := by
  unfold lebB lebAux; split <;> simp
theorem lebB_pos (u : Nat) : 0 < (lebB u).length := List.length_pos_iff.2 (lebB_ne u)


/-- the number, how many bytes it has, the error's number; k bytes have been read, they come to u -/
def lebGet : List UInt8 → Nat → Nat → Nat × Nat × Nat
  | [], _, _ => (0, 0, 14)
  | c :: r, k, u =>
    if k = 9 ∧ 1 < c.toNat then (0, 0, 13)
    else if c.toNat < 128 then (if c.toNat = 0 ∧ 0 < k then (0, 0, 13) else (u + c.toNat * 128 ^ k, k + 1, 0))
    else lebGet r (k + 1) (u + c.toNat % 128 * 128 ^ k)
/-- .. from a place on -/
def lebAt (l : List UInt8) (at_ : Int) : Nat × Nat × Nat :=
  if 0 ≤ at_ ∧ at_ ≤ l.length then
    (if (lebGet (l.drop at_.toNat) 0 0).2.2 = 0 then ((lebGet (l.drop at_.toNat) 0 0).1, at_.toNat + (lebGet (l.drop at_.toNat) 0 0).2.1, 0) else (0, 0, (lebGet (l.drop at_.toNat) 0 0).2.2))
  else (0, 0, 11)
/-- as the three results -/
def getVal (r : Nat × Nat × Nat) : Value := .tuple #[.int .u64 (r.1 : Int), .int .i64 (r.2.1 : Int), .int .i64 (r.2.2 : Int)]

theorem get_step (u c k : Nat) (hk : k ≤ 9) (hu : u < 128 ^ k) (hc : c < 128) (h9 : k = 9 → c ≤ 1) :
    u ||| (c * 128 ^ k) = u + c * 128 ^ k ∧ c * 128 ^ k < 18446744073709551616 ∧ u + c * 128 ^ k < 18446744073709551616 ∧ u + c * 128 ^ k < 128 ^ (k + 1) := by
  have e : (128 : Nat) ^ k = 2 ^ (7 * k) := by rw [Nat.pow_mul]
  refine ⟨?_, ?_⟩
  · rw [Nat.or_comm, Nat.add_comm, e]
    exact nat_join (7 * k) _ _ (by simp) (by rw [← e]; exact hu)
  · rw [Nat.pow_succ]
    have : k = 0 ∨ k = 1 ∨ k = 2 ∨ k = 3 ∨ k = 4 ∨ k = 5 ∨ k = 6 ∨ k = 7 ∨ k = 8 ∨ k = 9 := by omega
    rcases this with rfl | rfl | rfl | rfl | rfl | rfl | rfl | rfl | rfl | rfl <;> simp at * <;> omega

section
variable {l : List UInt8} {i k q x : Nat}
theorem get_cons (h : i < l.length) (hx : x = l[i].toNat) : lebGet (l.drop i) k q =
    if k = 9 ∧ 1 < x then (0, 0, 13) else if x < 128 then (if x = 0 ∧ 0 < k then (0, 0, 13) else (q + x * 128 ^ k, k + 1, 0)) else lebGet (l.drop (i + 1)) (k + 1) (q + x % 128 * 128 ^ k) := by
  rw [List.drop_eq_getElem_cons h, lebGet, hx]
theorem get_nil (h : ¬ i < l.length) : lebGet (l.drop i) k q = (0, 0, 14) := by
  rw [List.drop_eq_nil_of_le (by omega), lebGet]
theorem lebAt_of {a : Nat} {r : Nat × Nat × Nat} (ha : a ≤ l.length) (h : lebGet (l.drop a) 0 0 = r) : lebAt l (a : Int) = if r.2.2 = 0 then (r.1, a + r.2.1, 0) else (0, 0, r.2.2) := by
  unfold lebAt
  rw [if_pos (by omega), Int.toNat_natCast, h]
end

theorem ret_get {a b c : Int} {r : Nat × Nat × Nat} (h1 : a = r.1) (h2 : b = r.2.1) (h3 : c = r.2.2) : Ending.returned (.tuple #[.int .u64 a, .int .i64 b, .int .i64 c]) = .returned (getVal r) := by
  rw [h1, h2, h3]; rfl

theorem get_text (q x k : Nat) (hk : k ≤ 9) (hq : q < 128 ^ k) (hx : x < 256) (h9 : k = 9 → x % 128 ≤ 1) :
    bits .or .u64 (q : Int) (IntKind.u64.wrap (IntKind.u64.wrap (bits .and .u8 (x : Int) 127) * 2 ^ (7 * k))) = ((q + x % 128 * 128 ^ k : Nat) : Int) := by
  have e1 : bits .and .u8 (x : Int) ((127 : Nat) : Int) = ((x % 128 : Nat) : Int) := by rw [u8_and_nat x 127 hx (by omega), nat_mask7]
  have e2 : ((127 : Nat) : Int) = 127 := rfl
  rw [e2] at e1
  have e3 : (128 : Nat) ^ k = 2 ^ (7 * k) := by rw [Nat.pow_mul]
  obtain ⟨g1, g2, g3, g4⟩ := get_step q (x % 128) k hk hq (by omega) h9
  have e4 : IntKind.u64.wrap ((x % 128 : Nat) : Int) = ((x % 128 : Nat) : Int) := by rw [IntKind.wrap_u64]; omega
  have e5 : ((x % 128 : Nat) : Int) * 2 ^ (7 * k) = ((x % 128 * 128 ^ k : Nat) : Int) := by rw [e3]; simp
  rw [e1, e4, e5]
  have e6 : IntKind.u64.wrap ((x % 128 * 128 ^ k : Nat) : Int) = ((x % 128 * 128 ^ k : Nat) : Int) := by rw [IntKind.wrap_u64]; omega
  rw [e6, u64_or_nat _ _ (by omega) g2, g1]

theorem rget_text (q x k W : Nat) (hk : k ≤ 9) (hq : q < 128 ^ k) (hW : W = 128 ^ k) (h9 : k = 9 → x % 128 ≤ 1) :
    IntKind.u64.wrap ((q : Int) + IntKind.u64.wrap ((x : Int) % 128 * (W : Int))) = ((q + x % 128 * 128 ^ k : Nat) : Int) := by
  obtain ⟨_, g2, g3, _⟩ := get_step q (x % 128) k hk hq (by omega) h9
  have e5 : (x : Int) % 128 * (W : Int) = ((x % 128 * 128 ^ k : Nat) : Int) := by rw [hW]; simp
  have e6 : IntKind.u64.wrap ((x % 128 * 128 ^ k : Nat) : Int) = ((x % 128 * 128 ^ k : Nat) : Int) := by rw [IntKind.wrap_u64]; omega
  rw [e5, e6, IntKind.wrap_u64]
  omega
theorem worth_text (k W : Nat) (hk : k < 9) (hW : W = 128 ^ k) : IntKind.u64.wrap ((W : Int) * 128) = ((128 ^ (k + 1) : Nat) : Int) := by
  rw [Nat.pow_succ, ← hW]
  have : W ≤ 128 ^ 8 := by rw [hW]; exact Nat.pow_le_pow_right (by omega) (by omega)
  simp at this
  rw [IntKind.wrap_u64]; omega

/-- what is got is put as it was -/
theorem got_put : ∀ (r : List UInt8) (k q n used : Nat), k ≤ 9 → lebGet r k q = (n, used, 0) →
    ∃ m, n = q + m * 128 ^ k ∧ used = k + (lebB m).length ∧ r.take (lebB m).length = lebB m ∧ (0 < k → 0 < m) ∧ m < 2 ^ (64 - 7 * k) := by
  intro r
  induction r with
  | nil => intro k q n used _ h; simp [lebGet] at h
  | cons c r ih =>
    intro k q n used hk h
    have hc8 : c.toNat < 256 := UInt8.toNat_lt _
    rw [lebGet] at h
    by_cases c9 : k = 9 ∧ 1 < c.toNat
    · rw [if_pos c9] at h; simp at h
    · rw [if_neg c9] at h
      by_cases c128 : c.toNat < 128
      · rw [if_pos c128] at h
        by_cases c0 : c.toNat = 0 ∧ 0 < k
        · rw [if_pos c0] at h; simp at h
        · rw [if_neg c0] at h
          simp only [Prod.mk.injEq] at h
          have hs : lebB c.toNat = [c] := by rw [lebB_small _ c128]; simp
          refine ⟨c.toNat, h.1.symm, by rw [hs]; simp; omega, by rw [hs]; simp, by omega, ?_⟩
          have : k = 0 ∨ k = 1 ∨ k = 2 ∨ k = 3 ∨ k = 4 ∨ k = 5 ∨ k = 6 ∨ k = 7 ∨ k = 8 ∨ k = 9 := by omega
          rcases this with rfl | rfl | rfl | rfl | rfl | rfl | rfl | rfl | rfl | rfl <;> simp <;> omega
      · rw [if_neg c128] at h
        have hk8 : k ≤ 8 := by omega
        obtain ⟨m, h1, h2, h3, h4, h5⟩ := ih (k + 1) _ n used (by omega) h
        have hm := h4 (by omega)
        have hp : (2 : Nat) ^ (64 - 7 * k) = 128 * 2 ^ (64 - 7 * (k + 1)) := by
          have : 64 - 7 * k = 7 + (64 - 7 * (k + 1)) := by omega
          rw [this, Nat.pow_add]
        have hq : (2 : Nat) ^ (64 - 7 * k) ≤ 2 ^ 64 := Nat.pow_le_pow_right (by omega) (by omega)
        have hb : c.toNat % 128 + 128 * m < 2 ^ (64 - 7 * k) := by rw [hp]; omega
        have hl : lebB (c.toNat % 128 + 128 * m) = c :: lebB m := by
          rw [lebB_big _ (by omega) (by simp at hq; omega)]
          have e1 : (c.toNat % 128 + 128 * m) % 128 + 128 = c.toNat := by omega
          have e2 : (c.toNat % 128 + 128 * m) / 128 = m := by omega
          rw [e1, e2]
          simp
        refine ⟨c.toNat % 128 + 128 * m, ?_, by rw [hl]; simp; omega, by rw [hl]; simpa using h3, by omega, hb⟩
        rw [h1, Nat.pow_succ, Nat.add_mul, Nat.add_assoc, Nat.mul_comm 128 m, Nat.mul_assoc, Nat.mul_comm 128 (128 ^ k)]
theorem lebAt_put {l : List UInt8} {a : Int} {n e : Nat} (h : lebAt l a = (n, e, 0)) :
    ∃ k : Nat, a = k ∧ k < e ∧ e ≤ l.length ∧ (l.drop k).take (e - k) = lebB n ∧ n < 18446744073709551616 := by
  unfold lebAt at h
  by_cases h0 : 0 ≤ a ∧ a ≤ l.length
  · rw [if_pos h0] at h
    obtain ⟨k, rfl⟩ := Int.eq_ofNat_of_zero_le h0.1
    rw [Int.toNat_natCast] at h
    generalize hg : lebGet (l.drop k) 0 0 = g at h
    obtain ⟨g1, g2, g3⟩ := g
    simp only at h
    by_cases hc : g3 = 0
    · rw [if_pos hc] at h
      simp only [Prod.mk.injEq] at h
      subst hc
      obtain ⟨rfl, h7, _⟩ := h
      obtain ⟨m, h1, h2, h3, _, h5⟩ := got_put (l.drop k) 0 0 g1 g2 (by omega) hg
      have hm : g1 = m := by simpa using h1
      subst hm
      have hp := lebB_pos g1
      have hl := congrArg List.length h3
      simp only [List.length_take, List.length_drop] at hl
      refine ⟨k, rfl, by omega, by omega, ?_, by simpa using h5⟩
      have : e - k = (lebB g1).length := by omega
      rw [this]
      exact h3
    · rw [if_neg hc] at h
      simp only [Prod.mk.injEq] at h
      exact absurd h.2.2 hc
  · rw [if_neg h0] at h
    simp at h

open Go.RowKit

/-- without a sign -/
def foldZ (n : Int) : Int := if 0 ≤ n then 2 * n else -2 * n - 1
/-- with it -/
def unfoldZ (u : Int) : Int := if u % 2 = 0 then u / 2 else - (u / 2) - 1

theorem unfoldZ_range (n : Int) (h1 : 0 ≤ n) (h2 : n ≤ 18446744073709551615) : -9223372036854775808 ≤ unfoldZ n ∧ unfoldZ n ≤ 9223372036854775807 := by
  unfold unfoldZ; split <;> omega
theorem u64_xor_zero (x : Int) (h1 : 0 ≤ x) (h2 : x ≤ 18446744073709551615) : bits .xor .u64 x 0 = x := by
  rw [u64_xor x 0 h1 (by omega) (by omega) (by omega)]; simp; omega
theorem i64_xor_ones (x : Int) (h1 : 0 ≤ x) (h2 : x ≤ 9223372036854775807) : bits .xor .i64 x (-1) = - x - 1 := by
  obtain ⟨k, rfl⟩ := Int.eq_ofNat_of_zero_le h1
  show IntKind.i64.wrap ((BitVec.ofInt 64 (k : Int) ^^^ BitVec.ofInt 64 (-1)).toNat : Int) = _
  have e : BitVec.ofInt 64 (-1) = BitVec.allOnes 64 := by decide
  rw [e, BitVec.xor_allOnes, BitVec.toNat_not, ofInt_u64 k (by omega), IntKind.wrap_i64]
  omega
theorem i64_xor_zero (x : Int) (h1 : 0 ≤ x) (h2 : x ≤ 9223372036854775807) : bits .xor .i64 x 0 = x := by
  obtain ⟨k, rfl⟩ := Int.eq_ofNat_of_zero_le h1
  show IntKind.i64.wrap ((BitVec.ofInt 64 (k : Int) ^^^ BitVec.ofInt 64 0).toNat : Int) = _
  have e : BitVec.ofInt 64 0 = 0#64 := by decide
  rw [e, BitVec.xor_zero, ofInt_u64 k (by omega), IntKind.wrap_i64]
  omega
theorem u64_and_one (x : Int) (h1 : 0 ≤ x) (h2 : x ≤ 18446744073709551615) : bits .and .u64 x 1 = x % 2 := by
  rw [u64_and x 1 h1 (by omega) (by omega) (by omega)]
  have : (1 : Int).toNat = 1 := rfl
  rw [this, nat_mask1]; omega

/-- leb.Unfold's own text -/
theorem unfold_text (n : Int) (h1 : 0 ≤ n) (h2 : n ≤ 18446744073709551615) :
    bits .xor .i64 (n / 2) (wrap64 (-wrap64 (bits .and .u64 n 1))) = unfoldZ n := by
  unfold unfoldZ
  rw [u64_and_one n h1 h2]
  by_cases h : n % 2 = 0
  · rw [if_pos h, h]
    have : wrap64 (-wrap64 0) = 0 := by unfold wrap64; omega
    rw [this, i64_xor_zero _ (by omega) (by omega)]
  · have e : n % 2 = 1 := by omega
    rw [if_neg h, e]
    have : wrap64 (-wrap64 1) = -1 := by unfold wrap64; omega
    rw [this, i64_xor_ones _ (by omega) (by omega)]
set_option linter.unusedVariables false
set_option linter.unusedSimpArgs false

/-- rests behind others -/
def prep (out : List Int) (r : List Int × Nat × Nat) : List Int × Nat × Nat := if r.2.2 = 0 then (out ++ r.1, r.2.1, 0) else ([], 0, r.2.2)
/-- m rests from a place on: the rests, the place behind, the code -/
def runsR (b : List UInt8) : Nat → Nat → Nat → Bool → List Int × Nat × Nat
  | 0, _, at_, _ => ([], at_, 0)
  | f + 1, m, at_, last =>
    if m = 0 then ([], at_, 0)
    else if (lebAt b at_).2.2 ≠ 0 then ([], 0, (lebAt b at_).2.2)
    else if 0 < (lebAt b at_).1 then prep [unfoldZ ((lebAt b at_).1 : Nat)] (runsR b f (m - 1) (lebAt b at_).2.1 false)
    else if last = true then ([], 0, 13)
    else if (lebAt b (lebAt b at_).2.1).2.2 ≠ 0 then ([], 0, (lebAt b (lebAt b at_).2.1).2.2)
    else if m - 1 < (lebAt b (lebAt b at_).2.1).1 then ([], 0, 13)
    else prep (List.replicate ((lebAt b (lebAt b at_).2.1).1 + 1) 0) (runsR b f (m - 1 - (lebAt b (lebAt b at_).2.1).1) (lebAt b (lebAt b at_).2.1).2.1 true)

theorem prep_nil {r : List Int × Nat × Nat} (h : r.2.2 ≠ 0 → r = ([], 0, r.2.2)) : prep [] r = r := by
  unfold prep
  split
  · rename_i e
    rw [List.nil_append]
    exact Prod.ext rfl (Prod.ext rfl e.symm)
  · rename_i e
    exact (h e).symm
theorem prep_prep (a b : List Int) (r : List Int × Nat × Nat) : prep a (prep b r) = prep (a ++ b) r := by
  unfold prep
  by_cases h : r.2.2 = 0
  · simp [h]
  · simp [h]
theorem prep_bad {a : List Int} {k : Nat} (h : k ≠ 0) : prep a ([], 0, k) = ([], 0, k) := by simp [prep, h]
theorem prep_code {a : List Int} {r : List Int × Nat × Nat} : (prep a r).2.2 = r.2.2 := by
  unfold prep
  split <;> simp_all
theorem prep_good (a : List Int) (r : List Int × Nat × Nat) : (prep a r).2.2 ≠ 0 → prep a r = ([], 0, (prep a r).2.2) := by
  unfold prep
  split
  · intro h; exact absurd rfl h
  · intro _; rfl
theorem runsR_bad (b : List UInt8) (f m a : Nat) (last : Bool) : (runsR b f m a last).2.2 ≠ 0 → runsR b f m a last = ([], 0, (runsR b f m a last).2.2) := by
  cases f with
  | zero => intro h; simp [runsR] at h
  | succ f =>
    rw [runsR]
    by_cases h0 : m = 0
    · rw [if_pos h0]; intro h; exact absurd rfl h
    rw [if_neg h0]
    by_cases h1 : (lebAt b a).2.2 ≠ 0
    · rw [if_pos h1]; intro _; rfl
    rw [if_neg h1]
    by_cases h2 : 0 < (lebAt b a).1
    · rw [if_pos h2]; exact prep_good _ _
    rw [if_neg h2]
    by_cases h3 : last = true
    · rw [if_pos h3]; intro _; rfl
    rw [if_neg h3]
    by_cases h4 : (lebAt b (lebAt b a).2.1).2.2 ≠ 0
    · rw [if_pos h4]; intro _; rfl
    rw [if_neg h4]
    by_cases h5 : m - 1 < (lebAt b (lebAt b a).2.1).1
    · rw [if_pos h5]; intro _; rfl
    rw [if_neg h5]
    exact prep_good _ _
theorem lebAt_next {l : List UInt8} {a : Nat} (h : (lebAt l a).2.2 = 0) : a < (lebAt l a).2.1 ∧ (lebAt l a).2.1 ≤ l.length ∧ (lebAt l a).1 < 18446744073709551616 := by
  have hg : lebAt l a = ((lebAt l a).1, (lebAt l a).2.1, 0) := by rw [← h]
  obtain ⟨k, h1, h2, h3, _, h5⟩ := lebAt_put hg
  have : a = k := by omega
  subst this
  exact ⟨h2, h3, h5⟩
theorem runsR_len (b : List UInt8) : ∀ (f m a : Nat) (last : Bool), m ≤ f → (runsR b f m a last).2.2 = 0 → (runsR b f m a last).1.length = m := by
  intro f
  induction f with
  | zero => intro m a last h e; simp [runsR]; omega
  | succ f ih =>
    intro m a last h e
    rw [runsR] at e ⊢
    split
    · simp_all
    rename_i h0
    rw [if_neg h0] at e
    split
    · rename_i h1; rw [if_pos h1] at e; exact absurd e h1
    rename_i h1
    rw [if_neg h1] at e
    split
    · rename_i h2
      rw [if_pos h2] at e
      rw [prep_code] at e
      have := ih (m - 1) _ _ (by omega) e
      unfold prep
      rw [if_pos e]
      simp [this]
      omega
    rename_i h2
    rw [if_neg h2] at e
    split
    · rename_i h3; rw [if_pos h3] at e; simp at e
    rename_i h3
    rw [if_neg h3] at e
    split
    · rename_i h4; rw [if_pos h4] at e; exact absurd e h4
    rename_i h4
    rw [if_neg h4] at e
    split
    · rename_i h5; rw [if_pos h5] at e; simp at e
    rename_i h5
    rw [if_neg h5] at e
    rw [prep_code] at e
    have := ih _ _ _ (by omega) e
    unfold prep
    rw [if_pos e]
    simp [this]
    omega

/-- what is guessed of a cell: by no other, by the one ahead, by three -/
def cellN (l : List Int) (k : Nat) : Int := (l[k]?).getD 0
def planeZ (l a c : Int) : Int :=
  if l + a - c < l ∧ l + a - c < a then (if l < a then l else a) else if l < l + a - c ∧ a < l + a - c then (if a < l then l else a) else l + a - c
def guessZ (kind : Nat) (l : List Int) (w i : Nat) : Int :=
  if kind = 0 ∨ (i % w = 0 ∧ i / w = 0) then 0
  else if i % w = 0 then cellN l ((i / w - 1) * w)
  else if kind = 1 ∨ i / w = 0 then cellN l (i / w * w + (i % w - 1))
  else planeZ (cellN l (i / w * w + (i % w - 1))) (cellN l ((i / w - 1) * w + i % w)) (cellN l ((i / w - 1) * w + (i % w - 1)))
/-- may a value be? -/
def isV (v : Int) : Prop := -2147483648 ≤ v ∧ v ≤ 2147483647
theorem planeZ_in {l a c : Int} (hl : isV l) (ha : isV a) : isV (planeZ l a c) := by
  unfold planeZ isV at *
  repeat' split
  all_goals omega
theorem cellN_in {l : List Int} (h : ∀ v ∈ l, isV v) (k : Nat) : isV (cellN l k) := by
  unfold cellN
  by_cases hk : k < l.length
  · rw [List.getElem?_eq_getElem hk]; exact h _ (List.getElem_mem hk)
  · rw [List.getElem?_eq_none (by omega)]; exact ⟨by decide, by decide⟩
theorem guessZ_in {kind : Nat} {l : List Int} {w i : Nat} (h : ∀ v ∈ l, isV v) : isV (guessZ kind l w i) := by
  unfold guessZ
  repeat' split
  all_goals first
    | exact ⟨by decide, by decide⟩
    | exact cellN_in h _
    | exact planeZ_in (cellN_in h _) (cellN_in h _)
/-- cells of rests, behind others: the code -/
def cellsR (kind w : Nat) : List Int → List Int → List Int × Nat
  | [], out => (out, 0)
  | r :: rs, out =>
    if 2147483647 - guessZ kind out w out.length < r ∨ r < -2147483648 - guessZ kind out w out.length then ([], 7)
    else cellsR kind w rs (out ++ [guessZ kind out w out.length + r])
theorem cellsR_in {kind w : Nat} : ∀ (rs out : List Int), (∀ v ∈ out, isV v) → (cellsR kind w rs out).2 = 0 → (cellsR kind w rs out).1.length = out.length + rs.length ∧ ∀ v ∈ (cellsR kind w rs out).1, isV v := by
  intro rs
  induction rs with
  | nil => intro out h _; exact ⟨by simp [cellsR], h⟩
  | cons r rs ih =>
    intro out h e
    rw [cellsR] at e ⊢
    split
    · rename_i h1; rw [if_pos h1] at e; simp at e
    · rename_i h1
      rw [if_neg h1] at e
      have hg := guessZ_in (kind := kind) (w := w) (i := out.length) h
      have := ih (out ++ [guessZ kind out w out.length + r]) (by
        intro v hv
        rw [List.mem_append] at hv
        rcases hv with hv | hv
        · exact h v hv
        · rw [List.mem_singleton] at hv
          subst hv
          unfold isV
          omega) e
      refine ⟨?_, this.2⟩
      rw [this.1]
      simp
      omega
/-- a tile's cells: the cells, the predictor, the code -/
def tileR (b : List UInt8) (w h : Nat) : List Int × Nat × Nat :=
  match b with
  | [] => ([], 0, 14)
  | c :: r =>
    if 2 < c.toNat then ([], 0, 13)
    else if (runsR (c :: r) (w * h) (w * h) 1 false).2.2 ≠ 0 then ([], 0, (runsR (c :: r) (w * h) (w * h) 1 false).2.2)
    else if (runsR (c :: r) (w * h) (w * h) 1 false).2.1 < (c :: r).length then ([], 0, 13)
    else if (cellsR c.toNat w (runsR (c :: r) (w * h) (w * h) 1 false).1 []).2 ≠ 0 then ([], 0, (cellsR c.toNat w (runsR (c :: r) (w * h) (w * h) 1 false).1 []).2)
    else ((cellsR c.toNat w (runsR (c :: r) (w * h) (w * h) 1 false).1 []).1, c.toNat, 0)
/-- bytes as a number, the least first -/
def leU : List UInt8 → Nat
  | [] => 0
  | c :: r => c.toNat + 256 * leU r
theorem leU_lt : ∀ (l : List UInt8), leU l < 256 ^ l.length := by
  intro l
  induction l with
  | nil => simp [leU]
  | cons c r ih =>
    rw [leU, List.length_cons, Nat.pow_succ]
    have := c.toNat_lt
    omega
/-- the number of n bytes from a place on -/
def wireN (b : List UInt8) (a n : Nat) : Nat := leU ((b.drop a).take n)
theorem wireN_lt (b : List UInt8) (a n : Nat) : wireN b a n < 256 ^ n := by
  refine Nat.lt_of_lt_of_le (leU_lt _) (Nat.pow_le_pow_right (by omega) ?_)
  simp
  omega
/-- tiles of a size -/
def tilesN (w h : Nat) : Nat := ((w + 15) / 16) * ((h + 15) / 16)
/-- entries of a directory, from number i on -/
def entsR (b : List UInt8) : Nat → Nat → Nat → List (Nat × Nat) × Nat
  | 0, _, _ => ([], 0)
  | m + 1, i, a =>
    if wireN b (13 + 8 * i) 4 ≠ a ∨ wireN b (17 + 8 * i) 4 < 1 ∨ 1048576 < wireN b (17 + 8 * i) 4 then ([], 13)
    else if (entsR b m (i + 1) (a + wireN b (17 + 8 * i) 4)).2 ≠ 0 then ([], 13)
    else ((a, wireN b (17 + 8 * i) 4) :: (entsR b m (i + 1) (a + wireN b (17 + 8 * i) 4)).1, 0)

set_option maxHeartbeats 1000000 in
set_option maxRecDepth 100000 in
theorem Get_in (A : Option Addr) (n c : Nat) (l : List UInt8) (a : Nat) (w : World) (h : Bts w w.heap.size A n l) (hnc : n ≤ c) (hc : c ≤ 9223372036854775807) (ha : a ≤ n) (hn : n ≤ 140737488351232) :
    Calls Tryz.prog 250 #[.slice A n c, .int .i64 a] w fun e w' => e = .returned (getVal (lebAt l a)) ∧ w = w' := by
  have hlen := h.len
  subst hlen
  have hd0 : decide ((a : Int) < 0) = false := by simp
  have hd1 : decide (l.length < a) = false := by simp; omega
  by_cases hal : a < l.length
  · obtain ⟨b, off, rfl, hb, hcell⟩ := h.plain (by omega)
    have HC := Lib.hid hcell
    clear hcell
    go_enter Tryz.func250, Tryz.ntmps250
    go_wp2
    go_loop [7, 8, 9, 22] (fun u i x t => ∃ (k q : Nat), k ≤ 9 ∧ a + k ≤ l.length ∧ t = .int .i64 k ∧ u = .int .u64 q ∧ q < 128 ^ k ∧ Hid (lebGet (l.drop a) 0 0 = lebGet (l.drop (a + k)) k q)) (fun _ _ _ t => l.length - (intOf t).toNat)
    case atStart => exact ⟨0, 0, by omega, by omega, rfl, rfl, by simp, by simp [Hid]⟩
    case round =>
      obtain ⟨k, q, hk, hak, rfl, rfl, hq, hrel⟩ := hrel
      by_cases hlt : a + k < l.length
      · obtain ⟨x, hx⟩ : ∃ x : Nat, x = l[a + k].toNat := ⟨_, rfl⟩
        have hcx : w.cell? ⟨b, off + a + k, none⟩ = some (.int .u8 (x : Int)) := by rw [hx, Nat.add_assoc]; exact HC.out (a + k) hlt
        have hx8 : x < 256 := by rw [hx]; exact UInt8.toNat_lt _
        have hgc := get_cons (k := k) (q := q) hlt hx
        have HG := Lib.hid hgc
        clear hx hgc
        by_cases c9 : k = 9 ∧ 1 < x
        · have c9a : 9 ≤ k := by omega
          have c9b : 1 < x := c9.2
          have HE := Lib.hid (lebAt_of ha ((hrel.out.trans HG.out).trans (if_pos c9)))
          clear c9 HG
          go_wp2
          go_ret3
          exact ⟨by rw [HE.out]; rfl, rfl⟩
        · by_cases c128 : x < 128
          · by_cases c0 : x = 0 ∧ 0 < k
            · have c0a : x ≤ 0 := by omega
              have c0b : 0 < k := c0.2
              have HE := Lib.hid (lebAt_of ha ((hrel.out.trans HG.out).trans ((if_neg c9).trans ((if_pos c128).trans (if_pos c0)))))
              clear c0 c9 HG
              go_wp2
              all_goals
                go_ret3
                exact ⟨by rw [HE.out]; rfl, rfl⟩
            · have HE := Lib.hid (lebAt_of ha ((hrel.out.trans HG.out).trans ((if_neg c9).trans ((if_pos c128).trans (if_neg c0)))))
              have HT := Lib.hid (get_text q x k hk hq hx8 (by omega))
              have e128 : x % 128 = x := by omega
              rw [e128] at HT
              have hcs : (k < 9 ∧ 0 < x) ∨ (9 ≤ k ∧ x ≤ 1 ∧ 0 < x) ∨ (x ≤ 0 ∧ k ≤ 0) := by omega
              clear HG c9 c0 e128
              rcases hcs with ⟨f1, f2⟩ | ⟨f1, f2, f3⟩ | ⟨f1, f2⟩
              · go_wp2
                go_ret3
                refine ⟨ret_get ?_ ?_ ?_, rfl⟩ <;> rw [HE.out] <;> rw [if_pos trivial]
                case refine_3 => rfl
                case refine_2 => go_light; simp only []; omega
                case refine_1 => exact HT.out
              · go_wp2
                go_ret3
                refine ⟨ret_get ?_ ?_ ?_, rfl⟩ <;> rw [HE.out] <;> rw [if_pos trivial]
                case refine_3 => rfl
                case refine_2 => go_light; simp only []; omega
                case refine_1 =>
                  have e9 : (2 : Int) ^ (7 * k) = 9223372036854775808 := by
                    have : k = 9 := by omega
                    subst this
                    simp
                  have t := HT.out
                  rw [e9] at t
                  exact t
              · go_wp2
                go_ret3
                refine ⟨ret_get ?_ ?_ ?_, rfl⟩ <;> rw [HE.out] <;> rw [if_pos trivial]
                case refine_3 => rfl
                case refine_2 => go_light; simp only []; omega
                case refine_1 =>
                  have e9 : ((x : Nat) : Int) = 0 := by omega
                  have t := HT.out
                  rw [e9] at t
                  exact t
          · have HE := Lib.hid (HG.out.trans ((if_neg c9).trans (if_neg c128)))
            have c9' : k < 9 := by omega
            have HT := Lib.hid (get_text q x k hk hq hx8 (by omega))
            obtain ⟨_, _, g3, g4⟩ := get_step q (x % 128) k hk hq (by omega) (by omega)
            have H4 := Lib.hid g4
            clear HG c9 g3 g4
            go_wp2
            all_goals
              go_round
              case rel =>
                go_light
                exact ⟨k + 1, q + x % 128 * 128 ^ k, by omega, by omega, by go_num, by rw [HT.out], H4.out, by rw [← Nat.add_assoc]; exact hrel.out.trans HE.out⟩
              case measure => simp [intOf]; omega
      · have HE := Lib.hid (lebAt_of ha (hrel.out.trans (get_nil hlt)))
        clear hrel
        go_wp2
        go_ret3
        exact ⟨by rw [HE.out]; rfl, rfl⟩
  · go_enter Tryz.func250, Tryz.ntmps250
    have HE := Lib.hid (lebAt_of ha (get_nil (k := 0) (q := 0) hal))
    go_wp2
    all_goals
      refine wp_loop_rounds 1 ?_
      rw [rounds_succ]
      go_wp2
      go_ret3
      exact ⟨by rw [HE.out]; rfl, rfl⟩

theorem lebAt_out {l : List UInt8} {a : Int} (h : ¬ (0 ≤ a ∧ a ≤ l.length)) : lebAt l a = (0, 0, 11) := by unfold lebAt; rw [if_neg h]

theorem Get_any (A : Option Addr) (n c : Nat) (l : List UInt8) (a : Int) (w : World) (h : Bts w w.heap.size A n l) (hnc : n ≤ c) (hc : c ≤ 9223372036854775807) (hn : n ≤ 140737488351232) :
    Calls Tryz.prog 250 #[.slice A n c, .int .i64 a] w fun e w' => e = .returned (getVal (lebAt l a)) ∧ w = w' := by
  have hlen := h.len
  by_cases h0 : 0 ≤ a ∧ a ≤ n
  · obtain ⟨k, rfl⟩ := Int.eq_ofNat_of_zero_le h0.1
    exact Get_in A n c l k w h hnc hc (by omega) hn
  · have HE := Lib.hid (lebAt_out (l := l) (a := a) (by omega))
    subst hlen
    rcases (show a < 0 ∨ (0 ≤ a ∧ (l.length : Int) < a) from by omega) with h1 | ⟨h1, h2⟩
    all_goals
      go_enter Tryz.func250, Tryz.ntmps250
      go_wp2
      go_ret3
      exact ⟨by rw [HE.out]; rfl, rfl⟩

set_option maxHeartbeats 1000000 in
set_option maxRecDepth 100000 in
theorem rGet_in (A : Option Addr) (n c : Nat) (l : List UInt8) (a : Nat) (w : World) (h : Bts w w.heap.size A n l) (hnc : n ≤ c) (hc : c ≤ 9223372036854775807) (ha : a ≤ n) (hn : n ≤ 140737488351232) :
    Calls Tryz.prog 104 #[.slice A n c, .int .i64 a] w fun e w' => e = .returned (getVal (lebAt l a)) ∧ w = w' := by
  have hlen := h.len
  subst hlen
  have hd0 : decide ((a : Int) < 0) = false := by simp
  have hd1 : decide (l.length < a) = false := by simp; omega
  go_enter Tryz.func104, Tryz.ntmps104
  go_wp2
  go_loop [7, 8, 9, 10] (fun u wt t x => ∃ (k q W : Nat), k ≤ 9 ∧ a + k ≤ l.length ∧ t = .int .i64 k ∧ u = .int .u64 q ∧ wt = .int .u64 W ∧ Hid (W = 128 ^ k) ∧ q < 128 ^ k ∧ Hid (lebGet (l.drop a) 0 0 = lebGet (l.drop (a + k)) k q)) (fun _ _ t _ => 10 - (intOf t).toNat)
  case atStart => exact ⟨0, 0, 1, by omega, by omega, rfl, rfl, rfl, by simp [Hid], by simp, by simp [Hid]⟩
  case round =>
    obtain ⟨k, q, W, hk, hak, rfl, rfl, rfl, HW, hq, hrel⟩ := hrel
    by_cases hlt : a + k < l.length
    · obtain ⟨b, off, rfl, hb, hcell⟩ := h.plain (by omega)
      obtain ⟨x, hx⟩ : ∃ x : Nat, x = l[a + k].toNat := ⟨_, rfl⟩
      have hcx : w.cell? ⟨b, off + (a + k), none⟩ = some (.int .u8 (x : Int)) := by rw [hx]; exact hcell (a + k) hlt
      have hx8 : x < 256 := by rw [hx]; exact UInt8.toNat_lt _
      have HG := Lib.hid (get_cons (k := k) (q := q) hlt hx)
      clear hx hcell
      by_cases c9 : k = 9 ∧ 1 < x
      · have c9a : 9 ≤ k := by omega
        have c9b : 1 < x := c9.2
        have HE := Lib.hid (lebAt_of ha ((hrel.out.trans HG.out).trans (if_pos c9)))
        clear c9 HG
        go_wp2
        go_ret3
        exact ⟨by rw [HE.out]; rfl, rfl⟩
      · by_cases c0 : x = 0 ∧ 0 < k
        · have c0a : x ≤ 0 := by omega
          have c0b : 0 < k := c0.2
          have hx0 : ((x : Int) == 0) = true := by rw [beq_iff_eq]; omega
          have HE := Lib.hid (lebAt_of ha ((hrel.out.trans HG.out).trans ((if_neg c9).trans ((if_pos (by omega)).trans (if_pos c0)))))
          clear c0 c9 HG
          go_wp2
          all_goals
            go_ret3
            exact ⟨by rw [HE.out]; rfl, rfl⟩
        · have HT := Lib.hid (rget_text q x k W hk hq HW.out (by omega))
          by_cases c128 : x < 128
          · have e128 : x % 128 = x := by omega
            rw [e128] at HT
            have HE := Lib.hid (lebAt_of ha ((hrel.out.trans HG.out).trans ((if_neg c9).trans ((if_pos c128).trans (if_neg c0)))))
            have hcs : (k < 9 ∧ 0 < x) ∨ (9 ≤ k ∧ x ≤ 1 ∧ 0 < x) ∨ (x ≤ 0 ∧ k ≤ 0) := by omega
            clear HG c9 c0 e128
            rcases hcs with ⟨f1, f2⟩ | ⟨f1, f2, f3⟩ | ⟨f1, f2⟩
            · have hx0 : ((x : Int) == 0) = false := by rw [beq_eq_false_iff_ne]; omega
              go_wp2
              all_goals
                go_ret3
                refine ⟨ret_get ?_ ?_ ?_, rfl⟩ <;> rw [HE.out] <;> rw [if_pos trivial]
                case refine_3 => rfl
                case refine_2 => go_light; simp only []; omega
                case refine_1 => exact HT.out
            · have hx0 : ((x : Int) == 0) = false := by rw [beq_eq_false_iff_ne]; omega
              go_wp2
              all_goals
                go_ret3
                refine ⟨ret_get ?_ ?_ ?_, rfl⟩ <;> rw [HE.out] <;> rw [if_pos trivial]
                case refine_3 => rfl
                case refine_2 => go_light; simp only []; omega
                case refine_1 => exact HT.out
            · have hx0 : ((x : Int) == 0) = true := by rw [beq_iff_eq]; omega
              go_wp2
              all_goals
                go_ret3
                refine ⟨ret_get ?_ ?_ ?_, rfl⟩ <;> rw [HE.out] <;> rw [if_pos trivial]
                case refine_3 => rfl
                case refine_2 => go_light; simp only []; omega
                case refine_1 => exact HT.out
          · have HE := Lib.hid (HG.out.trans ((if_neg c9).trans (if_neg c128)))
            have c9' : k < 9 := by omega
            obtain ⟨_, _, g3, g4⟩ := get_step q (x % 128) k hk hq (by omega) (by omega)
            have H4 := Lib.hid g4
            have HT2 := Lib.hid (worth_text k W c9' HW.out)
            clear HG c9 g3 g4
            rcases (show 0 < k ∨ k ≤ 0 from by omega) with f1 | f1
            all_goals
              go_wp2
              go_round
              case rel =>
                go_light
                exact ⟨k + 1, q + x % 128 * 128 ^ k, 128 ^ (k + 1), by omega, by omega, by go_num, by rw [HT.out], by rw [HT2.out], rfl, H4.out, by rw [← Nat.add_assoc]; exact hrel.out.trans HE.out⟩
              case measure => simp [intOf]; omega
    · have HE := Lib.hid (lebAt_of ha (hrel.out.trans (get_nil hlt)))
      clear hrel
      go_wp2
      go_ret3
      exact ⟨by rw [HE.out]; rfl, rfl⟩

theorem rGet_any (A : Option Addr) (n c : Nat) (l : List UInt8) (a : Int) (w : World) (h : Bts w w.heap.size A n l) (hnc : n ≤ c) (hc : c ≤ 9223372036854775807) (hn : n ≤ 140737488351232) :
    Calls Tryz.prog 104 #[.slice A n c, .int .i64 a] w fun e w' => e = .returned (getVal (lebAt l a)) ∧ w = w' := by
  have hlen := h.len
  by_cases h0 : 0 ≤ a ∧ a ≤ n
  · obtain ⟨k, rfl⟩ := Int.eq_ofNat_of_zero_le h0.1
    exact rGet_in A n c l k w h hnc hc (by omega) hn
  · have HE := Lib.hid (lebAt_out (l := l) (a := a) (by omega))
    subst hlen
    rcases (show a < 0 ∨ (0 ≤ a ∧ (l.length : Int) < a) from by omega) with h1 | ⟨h1, h2⟩
    all_goals
      go_enter Tryz.func104, Tryz.ntmps104
      go_wp2
      go_ret3
      exact ⟨by rw [HE.out]; rfl, rfl⟩

theorem Unfold_any (n : Int) (w : World) (h1 : 0 ≤ n) (h2 : n ≤ 18446744073709551615) :
    Calls Tryz.prog 251 #[.int .u64 n] w fun e w' => e = .returned (.int .i64 (unfoldZ n)) ∧ w = w' := by
  go_enter Tryz.func251, Tryz.ntmps251
  go_wp2
  go_ret
  exact ⟨ret_int (unfold_text n h1 h2), rfl⟩

theorem rUnfold_any (n : Int) (w : World) (h1 : 0 ≤ n) (h2 : n ≤ 18446744073709551615) :
    Calls Tryz.prog 105 #[.int .u64 n] w fun e w' => e = .returned (.int .i64 (unfoldZ n)) ∧ w = w' := by
  by_cases h : n % 2 = 0
  · go_enter Tryz.func105, Tryz.ntmps105
    go_wp2
    go_ret
    refine ⟨ret_int ?_, rfl⟩
    simp only [unfoldZ]
    split <;> omega
  · have hb : (n % 2 == 0) = false := by simpa using h
    go_enter Tryz.func105, Tryz.ntmps105
    go_wp2
    go_ret
    refine ⟨ret_int ?_, rfl⟩
    simp only [unfoldZ]
    split <;> omega
open Sy
set_option maxRecDepth 100000
set_option maxHeartbeats 4000000

theorem bytsF_at {b : List UInt8} {i : Nat} (h : i < b.length) : (byts b)[i]? = some (.int .u8 (b[i].toNat : Int)) := by unfold byts; rw [List.getElem?_map, List.getElem?_eq_getElem h]; rfl
theorem wireN_step {b : List UInt8} {a j : Nat} (h : a < b.length) : wireN b a (j + 1) = b[a].toNat + 256 * wireN b (a + 1) j := by
  unfold wireN
  rw [List.drop_eq_getElem_cons h, List.take_succ_cons, leU]
theorem sWireGet {R : HP} {A : Option Addr} {n c : Nat} {b : List UInt8} (ha : Sl R A n 1 (byts b)) (hl : b.length = n) (hn : n ≤ 140737488351232) (a k : Nat) (hk1 : 1 ≤ k) (hk : k ≤ 8) (hak : a + k ≤ n) :
    PureR Tryz.prog R 102 [.slice A n c, .int .i64 (a : Int), .int .i64 (k : Int)] (.tuple #[.int .u64 (wireN b a k : Nat), .int .i64 ((a + k : Nat) : Int), .int .i64 0]) := by
  refine PureR.of_sat fun w hs => ?_
  obtain ⟨h1, sa⟩ := ha.spot (by decide) hs
  rcases sa with sa | ⟨g, off, rfl, sa⟩
  · omega
  refine fn_of_run0 false Tryz.func102 rfl hmix rfl fun w0 => ?_
  conv => whnf
  repeat (first | (refine And.intro ?_ ?_; rotate_left; (focus (intro g; exfalso; first | (simp at g; done) | (simp at g; omega) | (revert g; decide))); intro _; conv => whnf) | (refine And.intro ?_ ?_; (focus (intro g; exfalso; first | (simp at g; done) | (simp at g; omega) | (revert g; decide))); intro _; conv => whnf))
  refine ⟨⟨⟨trivial, by unfold rng; omega⟩, by unfold rng; omega⟩, LoopAt.keep (α := Nat) [0, 1, 2] (fun j => [(9, .v (.int .u64 ((wireN b (a + k - j) j : Nat) : Int))), (10, .v (.int .i64 ((k : Int) - 1 - (j : Int))))]) (fun j => j ≤ k) (fun j => k - j) 0 (Nat.zero_le _) rfl ⟨⟨by simp [wireN, leU, getT], rfl⟩, ⟨by simp [getT], rfl⟩, trivial⟩ ⟨⟨rfl, rfl⟩, ⟨rfl, rfl⟩, ⟨rfl, rfl⟩, trivial⟩ trivial ?_⟩
  intro j hj
  conv => whnf
  refine ⟨fun h => ?_, fun h => ?_⟩
  · have h := of_decide_eq_true h
    have hlt := wireN_lt b (a + k - j) j
    have hp : 256 ^ j ≤ 256 ^ 7 := Nat.pow_le_pow_right (by omega) (by omega)
    have hi : a + k - j - 1 < b.length := by omega
    have hst := wireN_step (b := b) (a := a + k - j - 1) (j := j) hi
    rw [show a + k - j - 1 + 1 = a + k - j by omega] at hst
    have hx := (b[a + k - j - 1]).toNat_lt
    have hto : ((a : Int) + ((k : Int) - 1 - (j : Int))).toNat = a + k - j - 1 := by omega
    conv => whnf
    refine ⟨⟨⟨trivial, by unfold rng; omega⟩, by omega, by omega⟩, LoadAt.cell (.int .u8 ((b[a + k - j - 1]).toNat : Int)) rfl rfl (fun w1 hw => ?_) ?_⟩
    · rw [hto]
      exact sa w1 (Sat.rest hw) _ _ (bytsF_at hi)
    generalize b[a + k - j - 1] = x at *
    have e1 : IntKind.u64.wrap ((wireN b (a + k - j) j : Nat) * 256 : Int) = ((wireN b (a + k - j) j * 256 : Nat) : Int) := by rw [IntWalk.u64_in _ (by simp at hp; omega)]; simp
    have e2 : IntKind.u64.wrap ((x.toNat : Nat) : Int) = ((x.toNat : Nat) : Int) := IntWalk.u64_in _ (by omega)
    have e3 : IntKind.u64.wrap (((wireN b (a + k - j) j * 256 : Nat) : Int) + ((x.toNat : Nat) : Int)) = ((wireN b (a + k - (j + 1)) (j + 1) : Nat) : Int) := by
      rw [show a + k - (j + 1) = a + k - j - 1 by omega, hst, IntWalk.u64_in _ (by simp at hp; omega)]
      omega
    conv => whnf
    refine ⟨(by (repeat' apply And.intro) <;> first | exact True.intro | (unfold rng; omega) | omega), Next.keep (j + 1) (by omega) (by omega) ⟨⟨?_, rfl⟩, ⟨by simp [getT]; omega, rfl⟩, trivial⟩ ⟨⟨rfl, rfl⟩, ⟨rfl, rfl⟩, ⟨rfl, rfl⟩, trivial⟩ trivial rfl rfl rfl⟩
    exact congrArg (fun v => some (SV.v (Value.int .u64 v))) (show IntKind.u64.wrap (IntKind.u64.wrap ((wireN b (a + k - j) j : Nat) * 256 : Int) + IntKind.u64.wrap ((x.toNat : Nat) : Int)) = _ by rw [e1, e2, e3])
  · have h := of_decide_eq_false h
    obtain rfl : j = k := by omega
    conv => whnf
    exact ⟨(by (repeat' apply And.intro) <;> first | exact True.intro | (unfold rng; omega) | omega), fin_drop (by rw [show a + j - j = a by omega]; rfl)⟩
theorem sLebGet {R : HP} {A : Option Addr} {n c : Nat} {b : List UInt8} (ha : Sl R A n 1 (byts b)) (hl : b.length = n) (hnc : n ≤ c) (hc : c ≤ 9223372036854775807) (hn : n ≤ 140737488351232) (a : Int) :
    PureR Tryz.prog R 104 [.slice A n c, .int .i64 a] (getVal (lebAt b a)) :=
  PureR.of_below fun w s => (rGet_any A n c b a w (ha w s) hnc hc hn).mono fun e w' ⟨h1, h2⟩ => ⟨h1, h2 ▸ Below.refl _ _⟩
theorem sUnfold {R : HP} (u : Nat) (h : u < 18446744073709551616) : PureR Tryz.prog R 105 [.int .u64 (u : Int)] (.int .i64 (unfoldZ (u : Nat))) :=
  PureR.of_below fun w s => (rUnfold_any (u : Int) w (by omega) (by omega)).mono fun e w' ⟨h1, h2⟩ => ⟨h1, h2 ▸ Below.refl _ _⟩
end Go.Proofs.YtgfiakgahmpfkaaGreatDoor
