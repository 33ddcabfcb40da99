/-
  hachurelaw15.TierSpans returns true whatever the size, the level and the cells.
-/
import Derived.Test.YtgelgkgmgjhmnaaSpansCore
import Derived.Test.YtgelgkgmgjhmnaaMay
import Derived.Test.YtgelgkgmgjhmnaaHas
import Derived.Test.YtgelgkgmgjhmnaaRefAbove
import Derived.Test.YtgelgkgmgjhmnaaRefKids
namespace Go.Proofs.Ytgelgkgmgjhmnaa
open Go.RowKit
set_option linter.unusedVariables false
set_option linter.unusedSimpArgs false

theorem lev_pos (a b : Int) : 0 < levN a b := by unfold levN; omega

theorem code_cases (a b k x y : Int) : checkZ a b k x y = 0 ∨ (¬ SizeOk a b ∧ checkZ a b k x y = 3) ∨ (SizeOk a b ∧ checkZ a b k x y = 11) ∨ (SizeOk a b ∧ 0 ≤ k ∧ k < levN a b ∧ checkZ a b k x y = 4) := by
  unfold checkZ
  by_cases hs : SizeOk a b
  · rw [if_neg (fun f => f hs)]
    split
    · exact .inr (.inr (.inl ⟨hs, rfl⟩))
    · split
      · exact .inr (.inr (.inr ⟨hs, by omega, by omega, rfl⟩))
      · exact .inl rfl
  · rw [if_pos hs]; exact .inr (.inl ⟨hs, rfl⟩)

/-- which level the document looks at -/
def clampN (N : Nat) (k : Int) : Nat := (max 0 (min k ((N : Int) - 1))).toNat

theorem may_check (a b k x y : Int) : mayZ a b k (clampN (levN a b) k) x y = checkZ a b k x y := by
  unfold mayZ checkZ
  by_cases hs : SizeOk a b
  · simp only [hs, not_true_eq_false, if_false]
    split
    · rfl
    · have e : clampN (levN a b) k = k.toNat := by unfold clampN; omega
      rw [e]
      by_cases c : x < 0 ∨ halfZ a k.toNat ≤ x ∨ y < 0 ∨ halfZ b k.toNat ≤ y
      · rw [if_pos c, if_pos (by omega)]
      · rw [if_neg c, if_neg (by omega)]
  · simp only [hs, not_false_eq_true, if_true]

theorem may_under (a b k x y : Int) : mayZ a b k 0 x y = undZ a b k x y := by
  unfold mayZ undZ checkZ
  by_cases hs : SizeOk a b
  · simp only [hs, not_true_eq_false, if_false]
    have := lev_pos a b
    split
    · rfl
    · rw [if_neg (show ¬ ((0 : Int) < 0 ∨ (levN a b : Int) ≤ 0) by omega)]
      simp only [Int.toNat_zero]
      by_cases c : x < 0 ∨ halfZ a 0 ≤ x ∨ y < 0 ∨ halfZ b 0 ≤ y
      · rw [if_pos c, if_pos (by omega)]
      · rw [if_neg c, if_neg (by omega)]
  · simp only [hs, not_false_eq_true, if_true]

theorem und_zero {a b k x y : Int} (h : undZ a b k x y = 0) : SizeOk a b ∧ 0 ≤ k ∧ k < levN a b ∧ 0 ≤ x ∧ x < a ∧ 0 ≤ y ∧ y < b ∧ checkZ a b 0 x y = 0 := by
  unfold undZ at h
  split at h
  · omega
  · split at h
    · omega
    · rename_i h1 h2
      obtain ⟨hs, _, _, c1, c2, c3, c4⟩ := check_zero h
      simp only [Int.toNat_zero, halfZ_zero] at c2 c4
      exact ⟨hs, by omega, by omega, c1, c2, c3, c4, h⟩

/-- one way: a column is in a span if the column above it is the span's -/
theorem span_has {a x d : Int} {n : Nat} (h : d < a) : (loZ n x ≤ d ∧ d ≤ hiZ n x a) ↔ d / 2 ^ n = x := by
  have hp : (0 : Int) < 2 ^ n := Int.pow_pos (by omega)
  unfold loZ hiZ
  have h1 := Int.le_ediv_iff_mul_le (a := x) (b := d) hp
  have h2 := Int.ediv_lt_iff_lt_mul (a := d) (b := x + 1) hp
  constructor
  · rintro ⟨c1, c2⟩
    have := h1.2 c1
    have := h2.2 (by omega)
    omega
  · intro e
    have := h1.1 (by omega)
    have := h2.1 (by omega)
    omega

theorem span_in {a x : Int} {n : Nat} (hn : n ≤ 10) (ha : 1 ≤ a) (ha' : a ≤ 1024) (h0 : 0 ≤ x) (h : x < halfZ a n) : 0 ≤ loZ n x ∧ loZ n x ≤ hiZ n x a ∧ hiZ n x a < a := by
  obtain ⟨_, _, _, _, _, c1, c2, c3⟩ := span_1 hn ha ha' h0 h
  refine ⟨c1, c2, ?_⟩
  unfold hiZ
  omega

theorem S_pack (a b k x y : Int) (ha : -9223372036854775808 ≤ a) (ha' : a ≤ 9223372036854775807) (hb : -9223372036854775808 ≤ b) (hb' : b ≤ 9223372036854775807) :
    ∃ r0 r1 r2 r3 : Int, (∀ W, Calls Try.prog 25 #[.int .i64 a, .int .i64 b, .int .i64 k, .agg #[.int .i64 x, .int .i64 y]] W fun e w' => e = .returned (.tuple #[.agg #[.int .i64 r0, .int .i64 r1, .int .i64 r2, .int .i64 r3], .int .i64 (checkZ a b k x y)]) ∧ Below W.heap.size W w') ∧
      (checkZ a b k x y = 0 ∨ ((checkZ a b k x y == 0) = false ∧ r0 = 0 ∧ r1 = 0 ∧ r2 = 0 ∧ r3 = 0)) ∧ (checkZ a b k x y = 0 → r0 = loZ k.toNat x ∧ r1 = loZ k.toNat y ∧ r2 = hiZ k.toNat x a ∧ r3 = hiZ k.toNat y b) := by
  by_cases h : checkZ a b k x y = 0
  · obtain ⟨_, hk, _⟩ := check_zero h
    obtain ⟨n, rfl⟩ := Int.eq_ofNat_of_zero_le hk
    refine ⟨loZ n x, loZ n y, hiZ n x a, hiZ n y b, fun W => ?_, .inl h, fun _ => ⟨rfl, rfl, rfl, rfl⟩⟩
    rw [h]
    exact Span_any a b x y n W h
  · have h' : (checkZ a b k x y == 0) = false := by rw [beq_eq_false_iff_ne]; exact h
    exact ⟨0, 0, 0, 0, fun W => Span_bad a b k x y W ha ha' hb hb' h', .inr ⟨h', rfl, rfl, rfl, rfl⟩, fun e => absurd e h⟩

theorem A_pack (a b k x y : Int) (ha : -9223372036854775808 ≤ a) (ha' : a ≤ 9223372036854775807) (hb : -9223372036854775808 ≤ b) (hb' : b ≤ 9223372036854775807) :
    ∃ a0 a1 : Int, (∀ W, Calls Try.prog 28 #[.int .i64 a, .int .i64 b, .int .i64 k, .agg #[.int .i64 x, .int .i64 y]] W fun e w' => e = .returned (.tuple #[.agg #[.int .i64 a0, .int .i64 a1], .int .i64 (undZ a b k x y)]) ∧ Below W.heap.size W w') ∧
      (undZ a b k x y = 0 ∨ ((undZ a b k x y == 0) = false ∧ a0 = 0 ∧ a1 = 0)) ∧ (undZ a b k x y = 0 → a0 = x / 2 ^ k.toNat ∧ a1 = y / 2 ^ k.toNat) := by
  by_cases h : undZ a b k x y = 0
  · obtain ⟨hs, hk, hl, x0, x1, y0, y1, hc⟩ := und_zero h
    obtain ⟨n, rfl⟩ := Int.eq_ofNat_of_zero_le hk
    have hss := hs
    obtain ⟨s1, s2, s3, s4⟩ := hss
    refine ⟨x / 2 ^ n, y / 2 ^ n, fun W => ?_, .inl h, fun _ => ⟨rfl, rfl⟩⟩
    rw [h]
    exact Above_ok a b x y n W hs (by omega) hc x0 (by omega) y0 (by omega)
  · have h' : (undZ a b k x y == 0) = false := by rw [beq_eq_false_iff_ne]; exact h
    exact ⟨0, 0, fun W => Above_bad a b k x y W ha ha' hb hb' h, .inr ⟨h', rfl, rfl⟩, fun e => absurd e h⟩

theorem K_pack (a b k x y : Int) (ha : -9223372036854775808 ≤ a) (ha' : a ≤ 9223372036854775807) (hb : -9223372036854775808 ≤ b) (hb' : b ≤ 9223372036854775807) (hk : -9223372036854775808 ≤ k) (hk' : k ≤ 9223372036854775807) :
    ∃ L : List (Int × Int), L.length ≤ 8 ∧ (∀ W, Calls Try.prog 24 #[.int .i64 a, .int .i64 b, .int .i64 k, .agg #[.int .i64 x, .int .i64 y]] W fun e w' => ∃ A c, e = .returned (.tuple #[.slice A L.length c, .int .i64 (kidsZ a b k x y)]) ∧ w'.ownsRow W.heap.size 44 2 (.slice A L.length c) L.length (cel L) ∧ Below W.heap.size W w') ∧
      (¬ kidsZ a b k x y = 0 → L = []) ∧ (kidsZ a b k x y = 0 → 0 < L.length) ∧ (kidsZ a b k x y = 0 → ∀ W, Calls Try.prog 31 #[.int .i64 a, .int .i64 b, .int .i64 k, .agg #[.int .i64 x, .int .i64 y]] W fun e w' => ∃ A c, e = .returned (.slice A L.length c) ∧ w'.ownsRow W.heap.size 44 2 (.slice A L.length c) L.length (cel L) ∧ Below W.heap.size W w') := by
  by_cases h : kidsZ a b k x y = 0
  · have hks : SizeOk a b ∧ 1 ≤ k ∧ checkZ a b k x y = 0 := by
      have hkz := h
      unfold kidsZ at hkz
      split at hkz
      · omega
      · split at hkz
        · omega
        · rename_i q1 q2
          exact ⟨by simpa using q1, by omega, hkz⟩
    obtain ⟨hs, hk1, hch⟩ := hks
    obtain ⟨n, rfl⟩ := Int.eq_ofNat_of_zero_le (show 0 ≤ k by omega)
    obtain ⟨m, rfl⟩ : ∃ m, n = m + 1 := ⟨n - 1, by omega⟩
    obtain ⟨_, _, hl, x0, xl, y0, yl⟩ := check_zero hch
    simp only [Int.toNat_natCast] at xl yl
    have hl' : m + 1 < levN a b := by omega
    obtain ⟨gx, _⟩ := kid_1 hs.1 hs.2.1 x0 xl
    obtain ⟨gy, _⟩ := kid_1 hs.2.2.1 hs.2.2.2 y0 yl
    have HK := fun W => Kids_ok a b x y (m + 1) W ha ha' hb hb' hs (by omega) hl' hch x0 y0 (by simpa using gx) (by simpa using gy)
    simp only [Nat.add_sub_cancel] at HK
    have HR := fun W => rKids_ok a b x y m W hs hl' x0 y0 gx gy
    obtain ⟨lx, hlx⟩ := kidN_le (halfZ a m) x
    obtain ⟨ly, hly⟩ := kidN_le (halfZ b m) y
    have hlen := kidRows_len (kidN (halfZ a m) x) (kidN (halfZ b m) y) x y
    have hpos : 0 < kidN (halfZ b m) y * kidN (halfZ a m) x := Nat.mul_pos (by omega) (by omega)
    have hle4 : kidN (halfZ b m) y * kidN (halfZ a m) x ≤ 2 * 2 := Nat.mul_le_mul hly hlx
    refine ⟨kidRows (kidN (halfZ a m) x) (kidN (halfZ b m) y) x y, by omega, fun W => ?_, fun e => absurd h e, fun _ => by omega, fun _ W => ?_⟩
    · rw [h]; exact HK W
    · exact HR W
  · refine ⟨[], by simp, fun W => ?_, fun _ => rfl, fun e => absurd e h, fun e => absurd e h⟩
    refine (Kids_bad a b k x y W ha ha' hb hb' hk hk' h).mono ?_
    rintro e w1 ⟨rfl, hb1⟩
    exact ⟨none, 0, rfl, by simpa [cel] using World.ownsRow_nil _ _ _ _, hb1⟩

theorem Z_pack (a b k x y : Int) :
    ∃ N p : Nat, N ≤ 11 ∧ max 0 (min k ((N : Int) - 1)) = (p : Int) ∧ (∀ W, Calls Try.prog 23 #[.int .i64 a, .int .i64 b] W fun e w' => ∃ A c, e = .returned (.slice A N c) ∧ Below W.heap.size W w') ∧
      (∀ W, Calls Try.prog 29 #[.int .i64 a, .int .i64 b, .int .i64 k, .int .i64 p, .agg #[.int .i64 x, .int .i64 y]] W fun e w' => e = .returned (.int .i64 (checkZ a b k x y)) ∧ Below W.heap.size W w') := by
  by_cases hs : SizeOk a b
  · have hl := levN_le hs
    have hp := lev_pos a b
    refine ⟨levN a b, clampN (levN a b) k, hl, by unfold clampN; omega, fun W => ?_, fun W => ?_⟩
    · refine (rSizes_ok a b W hs).mono ?_
      rintro e w1 ⟨A, c, rfl, _, hb1⟩
      exact ⟨A, c, rfl, hb1⟩
    · rw [← may_check]
      exact May_any a b k _ x y W (fun _ => by unfold clampN; omega)
  · refine ⟨0, 0, by omega, by omega, fun W => ?_, fun W => ?_⟩
    · refine (rSizes_bad a b W hs).mono ?_
      rintro e w1 ⟨rfl, rfl⟩
      exact ⟨none, 0, rfl, Below.refl _ _⟩
    · have e : checkZ a b k x y = mayZ a b k 0 x y := by unfold checkZ mayZ; simp only [hs, not_false_eq_true, if_true]
      rw [e]
      exact May_any a b k 0 x y W (fun f => absurd f hs)

theorem TierSpans_walk (a b k x y dx dy : Int) (w : World) (ha : -9223372036854775808 ≤ a) (ha' : a ≤ 9223372036854775807) (hb : -9223372036854775808 ≤ b) (hb' : b ≤ 9223372036854775807) (hk : -9223372036854775808 ≤ k) (hk' : k ≤ 9223372036854775807) 
    (hx : -9223372036854775808 ≤ x) (hx' : x ≤ 9223372036854775807) (hy : -9223372036854775808 ≤ y) (hy' : y ≤ 9223372036854775807) (hdx : -9223372036854775808 ≤ dx) (hdx' : dx ≤ 9223372036854775807) (hdy : -9223372036854775808 ≤ dy) (hdy' : dy ≤ 9223372036854775807) :
    Calls Try.prog 9 #[.int .i64 a, .int .i64 b, .int .i64 k, .agg #[.int .i64 x, .int .i64 y], .agg #[.int .i64 dx, .int .i64 dy]] w fun e w' => e = .returned (.bool true) ∧ Below w.heap.size w w' := by
  obtain ⟨r0, r1, r2, r3, HS, hz, hzr⟩ := S_pack a b k x y ha ha' hb hb'
  obtain ⟨a0, a1, HA, hu, hua⟩ := A_pack a b k dx dy ha ha' hb hb'
  obtain ⟨L, hL, HK, hke, hkp, HKK⟩ := K_pack a b k x y ha ha' hb hb' hk hk'
  obtain ⟨N, p, hN, hp, HZ, HM⟩ := Z_pack a b k x y
  have HU : ∀ W, Calls Try.prog 29 #[.int .i64 a, .int .i64 b, .int .i64 k, .int .i64 0, .agg #[.int .i64 dx, .int .i64 dy]] W fun e w' => e = .returned (.int .i64 (undZ a b k dx dy)) ∧ Below W.heap.size W w' := fun W => by
    rw [← may_under]
    exact May_any a b k 0 dx dy W (fun _ => lev_pos a b)
  have hkz : (kidsZ a b k x y = 0 ∧ checkZ a b k x y = 0 ∧ 1 ≤ k ∧ 0 < L.length) ∨ ((kidsZ a b k x y == 0) = false ∧ L = [] ∧ 1 ≤ k ∧ kidsZ a b k x y = checkZ a b k x y) ∨ (L = [] ∧ k < 1 ∧ checkZ a b k x y = 3 ∧ kidsZ a b k x y = 3) ∨ (L = [] ∧ k < 1 ∧ (checkZ a b k x y == 3) = false ∧ kidsZ a b k x y = 11) := by
    by_cases h0 : kidsZ a b k x y = 0
    · refine .inl ⟨h0, ?_, ?_, hkp h0⟩
      all_goals
        unfold kidsZ at h0
        split at h0
        · omega
        · split at h0
          · omega
          · omega
    · have h1 := hke h0
      rcases Int.lt_or_le k 1 with c | c
      · by_cases hs : SizeOk a b
        · have e1 : kidsZ a b k x y = 11 := by unfold kidsZ; rw [if_neg (fun f => f hs), if_pos c]
          refine .inr (.inr (.inr ⟨h1, c, ?_, e1⟩))
          rw [beq_eq_false_iff_ne]
          rcases code_cases a b k x y with q | ⟨q, _⟩ | ⟨_, q⟩ | ⟨_, _, _, q⟩
          · omega
          · exact absurd hs q
          · omega
          · omega
        · have e1 : kidsZ a b k x y = 3 := by unfold kidsZ; rw [if_pos hs]
          have e2 : checkZ a b k x y = 3 := by unfold checkZ; rw [if_pos hs]
          exact .inr (.inr (.inl ⟨h1, c, e2, e1⟩))
      · refine .inr (.inl ⟨by rw [beq_eq_false_iff_ne]; exact h0, h1, c, ?_⟩)
        unfold kidsZ
        by_cases hs : SizeOk a b
        · rw [if_neg (fun f => f hs), if_neg (by omega)]
        · have e2 : checkZ a b k x y = 3 := by unfold checkZ; rw [if_pos hs]
          rw [if_pos hs, e2]
  have HAA : undZ a b k dx dy = 0 → ∀ W, Calls Try.prog 32 #[.int .i64 k, .agg #[.int .i64 dx, .int .i64 dy]] W fun e w' => e = .returned (.agg #[.int .i64 a0, .int .i64 a1]) ∧ Below W.heap.size W w' := by
    intro h W
    obtain ⟨rfl, rfl⟩ := hua h
    obtain ⟨hs, hk0, hl, x0, x1, y0, y1, _⟩ := und_zero h
    obtain ⟨n, rfl⟩ := Int.eq_ofNat_of_zero_le hk0
    have := levN_le hs
    obtain ⟨s1, s2, s3, s4⟩ := hs
    exact rAbove_any n dx dy W (by omega) x0 (by omega) y0 (by omega)
  have HWI : checkZ a b k x y = 0 → undZ a b k dx dy = 0 → ∀ W, Calls Try.prog 33 #[.agg #[.int .i64 r0, .int .i64 r1, .int .i64 r2, .int .i64 r3], .int .i64 a, .int .i64 b] W fun e w' => e = .returned (.int .i64 0) ∧ Below W.heap.size W w' := by
    intro h _ W
    obtain ⟨rfl, rfl, rfl, rfl⟩ := hzr h
    obtain ⟨hs, hk0, hl, x0, x1, y0, y1⟩ := check_zero h
    have hl' := levN_le hs
    obtain ⟨c1, c2, c3⟩ := span_in (n := k.toNat) (by omega) hs.1 hs.2.1 x0 x1
    obtain ⟨d1, d2, d3⟩ := span_in (n := k.toNat) (by omega) hs.2.2.1 hs.2.2.2 y0 y1
    exact rWithin_fine _ _ _ _ a b W hs c1 c2 c3 d1 d2 d3
  have HHA : checkZ a b k x y = 0 → undZ a b k dx dy = 0 → ∀ W, Calls Try.prog 34 #[.agg #[.int .i64 r0, .int .i64 r1, .int .i64 r2, .int .i64 r3], .agg #[.int .i64 dx, .int .i64 dy]] W fun e w' => e = .returned (.bool (hasB r0 r1 r2 r3 dx dy)) ∧ Below W.heap.size W w' := by
    intro h _ W
    obtain ⟨rfl, rfl, rfl, rfl⟩ := hzr h
    obtain ⟨hs, hk0, hl, x0, x1, y0, y1⟩ := check_zero h
    have hl' := levN_le hs
    obtain ⟨c1, c2, c3⟩ := span_in (n := k.toNat) (by omega) hs.1 hs.2.1 x0 x1
    obtain ⟨d1, d2, d3⟩ := span_in (n := k.toNat) (by omega) hs.2.2.1 hs.2.2.2 y0 y1
    obtain ⟨s1, s2, s3, s4⟩ := hs
    exact rHas_any _ _ _ _ dx dy W ⟨c1, c2, by omega, d1, d2, by omega⟩
  have HHB : checkZ a b k x y = 0 → undZ a b k dx dy = 0 → (hasB r0 r1 r2 r3 dx dy = true ↔ (a0 = x ∧ a1 = y)) := by
    intro h h'
    obtain ⟨rfl, rfl, rfl, rfl⟩ := hzr h
    obtain ⟨rfl, rfl⟩ := hua h'
    obtain ⟨_, _, _, x0, x1, y0, y1, _⟩ := und_zero h'
    have e1 := span_has (x := x) (n := k.toNat) x1
    have e2 := span_has (x := y) (n := k.toNat) y1
    unfold hasB
    rw [decide_eq_true_eq, ← e1, ← e2]
    constructor
    · rintro ⟨c1, c2, c3, c4⟩; exact ⟨⟨c1, c2⟩, c3, c4⟩
    · rintro ⟨⟨c1, c2⟩, c3, c4⟩; exact ⟨c1, c2, c3, c4⟩
  exact spans_core a b k x y dx dy r0 r1 r2 r3 (checkZ a b k x y) (kidsZ a b k x y) (undZ a b k dx dy) a0 a1 L N p (hasB r0 r1 r2 r3 dx dy) w hk hk' hN hL (Lib.hid hp) (Lib.hid HS) (Lib.hid HK) (Lib.hid HA) (Lib.hid HZ) (Lib.hid HM) (Lib.hid HU) hz hu hkz (Lib.hid HKK) (Lib.hid HAA) (Lib.hid HWI) (Lib.hid HHA) (Lib.hid HHB)
end Go.Proofs.Ytgelgkgmgjhmnaa
