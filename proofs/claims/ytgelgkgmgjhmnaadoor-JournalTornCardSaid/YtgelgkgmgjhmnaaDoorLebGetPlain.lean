/-
  Plain: which number stands at the head of some bytes.
-/
import Derived.Test.YtgelgkgmgjhmnaaDoorLebPlain
import Derived.Laws.BitsAllLaws
import Derived.Laws.Bits64
namespace Go.Proofs.YtgelgkgmgjhmnaaDoor

/-- the number, how many bytes it has, the error's number; k bytes have been read, they come to u -/
def lebGet : List UInt8 → Nat → Nat → Nat × Nat × Nat
  | [], _, _ => (0, 0, 14)
  | c :: r, k, u =>
    if k = 9 ∧ 1 < c.toNat then (0, 0, 13)
    else if c.toNat < 128 then (if c.toNat = 0 ∧ 0 < k then (0, 0, 13) else (u + c.toNat * 128 ^ k, k + 1, 0))
    else lebGet r (k + 1) (u + c.toNat % 128 * 128 ^ k)
/-- .. from a place on -/
def lebAt (l : List UInt8) (at_ : Int) : Nat × Nat × Nat :=
  if 0 ≤ at_ ∧ at_ ≤ l.length then
    (if (lebGet (l.drop at_.toNat) 0 0).2.2 = 0 then ((lebGet (l.drop at_.toNat) 0 0).1, at_.toNat + (lebGet (l.drop at_.toNat) 0 0).2.1, 0) else (0, 0, (lebGet (l.drop at_.toNat) 0 0).2.2))
  else (0, 0, 11)
/-- as the three results -/
def getVal (r : Nat × Nat × Nat) : Value := .tuple #[.int .u64 (r.1 : Int), .int .i64 (r.2.1 : Int), .int .i64 (r.2.2 : Int)]

theorem get_step (u c k : Nat) (hk : k ≤ 9) (hu : u < 128 ^ k) (hc : c < 128) (h9 : k = 9 → c ≤ 1) :
    u ||| (c * 128 ^ k) = u + c * 128 ^ k ∧ c * 128 ^ k < 18446744073709551616 ∧ u + c * 128 ^ k < 18446744073709551616 ∧ u + c * 128 ^ k < 128 ^ (k + 1) := by
  have e : (128 : Nat) ^ k = 2 ^ (7 * k) := by rw [Nat.pow_mul]
  refine ⟨?_, ?_⟩
  · rw [Nat.or_comm, Nat.add_comm, e]
    exact nat_join (7 * k) _ _ (by simp) (by rw [← e]; exact hu)
  · rw [Nat.pow_succ]
    have : k = 0 ∨ k = 1 ∨ k = 2 ∨ k = 3 ∨ k = 4 ∨ k = 5 ∨ k = 6 ∨ k = 7 ∨ k = 8 ∨ k = 9 := by omega
    rcases this with rfl | rfl | rfl | rfl | rfl | rfl | rfl | rfl | rfl | rfl <;> simp at * <;> omega

section
variable {l : List UInt8} {i k q x : Nat}
theorem get_cons (h : i < l.length) (hx : x = l[i].toNat) : lebGet (l.drop i) k q =
    if k = 9 ∧ 1 < x then (0, 0, 13) else if x < 128 then (if x = 0 ∧ 0 < k then (0, 0, 13) else (q + x * 128 ^ k, k + 1, 0)) else lebGet (l.drop (i + 1)) (k + 1) (q + x % 128 * 128 ^ k) := by
  rw [List.drop_eq_getElem_cons h, lebGet, hx]
theorem get_nil (h : ¬ i < l.length) : lebGet (l.drop i) k q = (0, 0, 14) := by
  rw [List.drop_eq_nil_of_le (by omega), lebGet]
theorem lebAt_of {a : Nat} {r : Nat × Nat × Nat} (ha : a ≤ l.length) (h : lebGet (l.drop a) 0 0 = r) : lebAt l (a : Int) = if r.2.2 = 0 then (r.1, a + r.2.1, 0) else (0, 0, r.2.2) := by
  unfold lebAt
  rw [if_pos (by omega), Int.toNat_natCast, h]
end

theorem ret_get {a b c : Int} {r : Nat × Nat × Nat} (h1 : a = r.1) (h2 : b = r.2.1) (h3 : c = r.2.2) : Ending.returned (.tuple #[.int .u64 a, .int .i64 b, .int .i64 c]) = .returned (getVal r) := by
  rw [h1, h2, h3]; rfl

theorem get_text (q x k : Nat) (hk : k ≤ 9) (hq : q < 128 ^ k) (hx : x < 256) (h9 : k = 9 → x % 128 ≤ 1) :
    bits .or .u64 (q : Int) (IntKind.u64.wrap (IntKind.u64.wrap (bits .and .u8 (x : Int) 127) * 2 ^ (7 * k))) = ((q + x % 128 * 128 ^ k : Nat) : Int) := by
  have e1 : bits .and .u8 (x : Int) ((127 : Nat) : Int) = ((x % 128 : Nat) : Int) := by rw [u8_and_nat x 127 hx (by omega), nat_mask7]
  have e2 : ((127 : Nat) : Int) = 127 := rfl
  rw [e2] at e1
  have e3 : (128 : Nat) ^ k = 2 ^ (7 * k) := by rw [Nat.pow_mul]
  obtain ⟨g1, g2, g3, g4⟩ := get_step q (x % 128) k hk hq (by omega) h9
  have e4 : IntKind.u64.wrap ((x % 128 : Nat) : Int) = ((x % 128 : Nat) : Int) := by rw [IntKind.wrap_u64]; omega
  have e5 : ((x % 128 : Nat) : Int) * 2 ^ (7 * k) = ((x % 128 * 128 ^ k : Nat) : Int) := by rw [e3]; simp
  rw [e1, e4, e5]
  have e6 : IntKind.u64.wrap ((x % 128 * 128 ^ k : Nat) : Int) = ((x % 128 * 128 ^ k : Nat) : Int) := by rw [IntKind.wrap_u64]; omega
  rw [e6, u64_or_nat _ _ (by omega) g2, g1]

theorem rget_text (q x k W : Nat) (hk : k ≤ 9) (hq : q < 128 ^ k) (hW : W = 128 ^ k) (h9 : k = 9 → x % 128 ≤ 1) :
    IntKind.u64.wrap ((q : Int) + IntKind.u64.wrap ((x : Int) % 128 * (W : Int))) = ((q + x % 128 * 128 ^ k : Nat) : Int) := by
  obtain ⟨_, g2, g3, _⟩ := get_step q (x % 128) k hk hq (by omega) h9
  have e5 : (x : Int) % 128 * (W : Int) = ((x % 128 * 128 ^ k : Nat) : Int) := by rw [hW]; simp
  have e6 : IntKind.u64.wrap ((x % 128 * 128 ^ k : Nat) : Int) = ((x % 128 * 128 ^ k : Nat) : Int) := by rw [IntKind.wrap_u64]; omega
  rw [e5, e6, IntKind.wrap_u64]
  omega
theorem worth_text (k W : Nat) (hk : k < 9) (hW : W = 128 ^ k) : IntKind.u64.wrap ((W : Int) * 128) = ((128 ^ (k + 1) : Nat) : Int) := by
  rw [Nat.pow_succ, ← hW]
  have : W ≤ 128 ^ 8 := by rw [hW]; exact Nat.pow_le_pow_right (by omega) (by omega)
  simp at this
  rw [IntKind.wrap_u64]; omega

/-- what is got is put as it was -/
theorem got_put : ∀ (r : List UInt8) (k q n used : Nat), k ≤ 9 → lebGet r k q = (n, used, 0) →
    ∃ m, n = q + m * 128 ^ k ∧ used = k + (lebB m).length ∧ r.take (lebB m).length = lebB m ∧ (0 < k → 0 < m) ∧ m < 2 ^ (64 - 7 * k) := by
  intro r
  induction r with
  | nil => intro k q n used _ h; simp [lebGet] at h
  | cons c r ih =>
    intro k q n used hk h
    have hc8 : c.toNat < 256 := UInt8.toNat_lt _
    rw [lebGet] at h
    by_cases c9 : k = 9 ∧ 1 < c.toNat
    · rw [if_pos c9] at h; simp at h
    · rw [if_neg c9] at h
      by_cases c128 : c.toNat < 128
      · rw [if_pos c128] at h
        by_cases c0 : c.toNat = 0 ∧ 0 < k
        · rw [if_pos c0] at h; simp at h
        · rw [if_neg c0] at h
          simp only [Prod.mk.injEq] at h
          have hs : lebB c.toNat = [c] := by rw [lebB_small _ c128]; simp
          refine ⟨c.toNat, h.1.symm, by rw [hs]; simp; omega, by rw [hs]; simp, by omega, ?_⟩
          have : k = 0 ∨ k = 1 ∨ k = 2 ∨ k = 3 ∨ k = 4 ∨ k = 5 ∨ k = 6 ∨ k = 7 ∨ k = 8 ∨ k = 9 := by omega
          rcases this with rfl | rfl | rfl | rfl | rfl | rfl | rfl | rfl | rfl | rfl <;> simp <;> omega
      · rw [if_neg c128] at h
        have hk8 : k ≤ 8 := by omega
        obtain ⟨m, h1, h2, h3, h4, h5⟩ := ih (k + 1) _ n used (by omega) h
        have hm := h4 (by omega)
        have hp : (2 : Nat) ^ (64 - 7 * k) = 128 * 2 ^ (64 - 7 * (k + 1)) := by
          have : 64 - 7 * k = 7 + (64 - 7 * (k + 1)) := by omega
          rw [this, Nat.pow_add]
        have hq : (2 : Nat) ^ (64 - 7 * k) ≤ 2 ^ 64 := Nat.pow_le_pow_right (by omega) (by omega)
        have hb : c.toNat % 128 + 128 * m < 2 ^ (64 - 7 * k) := by rw [hp]; omega
        have hl : lebB (c.toNat % 128 + 128 * m) = c :: lebB m := by
          rw [lebB_big _ (by omega) (by simp at hq; omega)]
          have e1 : (c.toNat % 128 + 128 * m) % 128 + 128 = c.toNat := by omega
          have e2 : (c.toNat % 128 + 128 * m) / 128 = m := by omega
          rw [e1, e2]
          simp
        refine ⟨c.toNat % 128 + 128 * m, ?_, by rw [hl]; simp; omega, by rw [hl]; simpa using h3, by omega, hb⟩
        rw [h1, Nat.pow_succ, Nat.add_mul, Nat.add_assoc, Nat.mul_comm 128 m, Nat.mul_assoc, Nat.mul_comm 128 (128 ^ k)]
theorem lebAt_put {l : List UInt8} {a : Int} {n e : Nat} (h : lebAt l a = (n, e, 0)) :
    ∃ k : Nat, a = k ∧ k < e ∧ e ≤ l.length ∧ (l.drop k).take (e - k) = lebB n ∧ n < 18446744073709551616 := by
  unfold lebAt at h
  by_cases h0 : 0 ≤ a ∧ a ≤ l.length
  · rw [if_pos h0] at h
    obtain ⟨k, rfl⟩ := Int.eq_ofNat_of_zero_le h0.1
    rw [Int.toNat_natCast] at h
    generalize hg : lebGet (l.drop k) 0 0 = g at h
    obtain ⟨g1, g2, g3⟩ := g
    simp only at h
    by_cases hc : g3 = 0
    · rw [if_pos hc] at h
      simp only [Prod.mk.injEq] at h
      subst hc
      obtain ⟨rfl, h7, _⟩ := h
      obtain ⟨m, h1, h2, h3, _, h5⟩ := got_put (l.drop k) 0 0 g1 g2 (by omega) hg
      have hm : g1 = m := by simpa using h1
      subst hm
      have hp := lebB_pos g1
      have hl := congrArg List.length h3
      simp only [List.length_take, List.length_drop] at hl
      refine ⟨k, rfl, by omega, by omega, ?_, by simpa using h5⟩
      have : e - k = (lebB g1).length := by omega
      rw [this]
      exact h3
    · rw [if_neg hc] at h
      simp only [Prod.mk.injEq] at h
      exact absurd h.2.2 hc
  · rw [if_neg h0] at h
    simp at h

/-- what is put is got -/
theorem put_got (t : List UInt8) : ∀ (n m k q : Nat), m ≤ n → k ≤ 9 → m < 2 ^ (64 - 7 * k) → (0 < k → 0 < m) → lebGet (lebB m ++ t) k q = (q + m * 128 ^ k, k + (lebB m).length, 0) := by
  intro n
  induction n with
  | zero =>
    intro m k q hm hk hb hp
    have h0 : m = 0 := by omega
    have hk0 : k = 0 := by omega
    subst h0 hk0
    rfl
  | succ n ih =>
    intro m k q hm hk hb hp
    have h9 : k = 9 → m ≤ 1 := by intro h; subst h; simp at hb; omega
    by_cases h : m < 128
    · have ec : (UInt8.ofNat m).toNat = m := by rw [UInt8.toNat_ofNat']; omega
      rw [lebB_small m h, List.singleton_append, lebGet, ec, if_neg (by omega), if_pos h, if_neg (by omega)]
      rfl
    · have h64 : m < 18446744073709551616 := by
        have : (2 : Nat) ^ (64 - 7 * k) ≤ 2 ^ 64 := Nat.pow_le_pow_right (by omega) (by omega)
        simp at this; omega
      have ec : (UInt8.ofNat (m % 128 + 128)).toNat = m % 128 + 128 := by rw [UInt8.toNat_ofNat']; omega
      have hk8 : k ≤ 8 := by omega
      have hpw : (2 : Nat) ^ (64 - 7 * k) = 128 * 2 ^ (64 - 7 * (k + 1)) := by
        have : 64 - 7 * k = 7 + (64 - 7 * (k + 1)) := by omega
        rw [this, Nat.pow_add]
      rw [lebB_big m h h64, List.cons_append, lebGet, ec, if_neg (by omega), if_neg (by omega)]
      rw [ih (m / 128) (k + 1) _ (by omega) (by omega) (by rw [hpw] at hb; omega) (by omega)]
      have e1 : (m % 128 + 128) % 128 = m % 128 := by omega
      have e2 : m * 128 ^ k = m % 128 * 128 ^ k + m / 128 * 128 ^ (k + 1) := by
        rw [Nat.pow_succ, Nat.mul_comm (128 ^ k) 128, ← Nat.mul_assoc, ← Nat.add_mul]
        congr 1; omega
      rw [e1, e2]
      simp only [List.length_cons, Prod.mk.injEq]
      refine ⟨by omega, by omega, trivial⟩
theorem lebAt_putted (a t : List UInt8) (m : Nat) (hm : m < 18446744073709551616) : lebAt (a ++ lebB m ++ t) (a.length : Int) = (m, a.length + (lebB m).length, 0) := by
  have hg : lebGet ((a ++ lebB m ++ t).drop a.length) 0 0 = (m, (lebB m).length, 0) := by
    rw [List.append_assoc, List.drop_left, put_got t m m 0 0 (Nat.le_refl _) (by omega) (by simpa using hm) (by omega)]
    simp
  rw [lebAt_of (by simp) hg]
  simp
end Go.Proofs.YtgelgkgmgjhmnaaDoor
