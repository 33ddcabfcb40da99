/-
  tier.Kids.
-/
import Derived.Test.YtgelgkgmgjhmnaaSpan
import Derived.Test.YtgelgkgmgjhmnaaSizes
namespace Go.Proofs.Ytgelgkgmgjhmnaa
open Go.RowKit
set_option linter.unusedVariables false
set_option linter.unusedSimpArgs false

/-- the code of the kids -/
def kidsZ (a b k x y : Int) : Int := if ¬ SizeOk a b then 3 else if k < 1 then 11 else checkZ a b k x y

/-- how many columns (or rows) of kids there are -/
def kidN (lw x : Int) : Nat := if 2 * x + 1 < lw then 2 else 1

/-- the first rows of kids -/
def kidRows (nx j : Nat) (x y : Int) : List (Int × Int) := (List.range j).flatMap fun (dy : Nat) => (List.range nx).map fun (dx : Nat) => (2 * x + (dx : Int), 2 * y + (dy : Int))
/-- a part of a row -/
def kidRow (i : Nat) (x y : Int) (j : Nat) : List (Int × Int) := (List.range i).map fun (dx : Nat) => (2 * x + (dx : Int), 2 * y + (j : Int))
theorem kidRows_succ (nx j : Nat) (x y : Int) : kidRows nx (j + 1) x y = kidRows nx j x y ++ kidRow nx x y j := by
  simp [kidRows, kidRow, List.range_succ]
theorem kidRow_succ (i j : Nat) (x y : Int) : kidRow (i + 1) x y j = kidRow i x y j ++ [(2 * x + (i : Int), 2 * y + (j : Int))] := by
  simp [kidRow, List.range_succ]
theorem kidRow_len (i j : Nat) (x y : Int) : (kidRow i x y j).length = i := by simp [kidRow]
theorem kidRows_len (nx j : Nat) (x y : Int) : (kidRows nx j x y).length = j * nx := by
  induction j with
  | zero => simp [kidRows]
  | succ j ih => rw [kidRows_succ, List.length_append, ih, kidRow_len, Nat.succ_mul]

set_option maxHeartbeats 1000000 in
theorem Kids_bad (a b k x y : Int) (w : World) (ha : -9223372036854775808 ≤ a) (ha' : a ≤ 9223372036854775807) (hb : -9223372036854775808 ≤ b) (hb' : b ≤ 9223372036854775807) (hk : -9223372036854775808 ≤ k) (hk' : k ≤ 9223372036854775807)
    (h : ¬ kidsZ a b k x y = 0) :
    Calls Try.prog 24 #[.int .i64 a, .int .i64 b, .int .i64 k, .agg #[.int .i64 x, .int .i64 y]] w fun e w' => e = .returned (.tuple #[.slice none 0 0, .int .i64 (kidsZ a b k x y)]) ∧ Below w.heap.size w w' := by
  by_cases hs : SizeOk a b
  · by_cases hk0 : k < 1
    · have e : kidsZ a b k x y = 11 := by unfold kidsZ; rw [if_neg (fun f => f hs), if_pos hk0]
      rw [e]
      clear e h
      have hl := levN_le hs
      rcases (show k = -9223372036854775808 ∨ -9223372036854775808 < k from by omega) with rfl | hkm
      · go_enter Try.func24, Try.ntmps24
        go_wp2_with fail
        refine (Size_arg a b _ _ hs (by simp only [wrap64]; omega)).mono ?_
        rintro e w1 ⟨rfl, hb1⟩
        go_wp2_with fail
        go_ret2
        exact ⟨rfl, ((Below.refl _ _).alloc (Nat.le_refl _) _).trans (hb1.mono (by simp))⟩
      · go_enter Try.func24, Try.ntmps24
        go_wp2_with fail
        refine (Size_arg a b _ _ hs (by omega)).mono ?_
        rintro e w1 ⟨rfl, hb1⟩
        go_wp2_with fail
        go_ret2
        exact ⟨rfl, ((Below.refl _ _).alloc (Nat.le_refl _) _).trans (hb1.mono (by simp))⟩
    · have e : kidsZ a b k x y = checkZ a b k x y := by unfold kidsZ; rw [if_neg (fun f => f hs), if_neg hk0]
      rw [e] at h ⊢
      clear e
      have hb0 : (checkZ a b k x y == 0) = false := by rw [beq_eq_false_iff_ne]; exact h
      have hk2 : 1 ≤ k := by omega
      obtain ⟨n, rfl⟩ := Int.eq_ofNat_of_zero_le (show 0 ≤ k by omega)
      by_cases hn : levN a b < n
      · have e : checkZ a b n x y = 11 := by unfold checkZ; rw [if_neg (fun f => f hs), if_pos (by omega)]
        rw [e]
        clear e h hb0 hk0
        go_enter Try.func24, Try.ntmps24
        go_wp2_with fail
        refine (Size_arg a b _ _ hs (by omega)).mono ?_
        rintro e w1 ⟨rfl, hb1⟩
        go_wp2_with fail
        go_ret2
        exact ⟨rfl, ((Below.refl _ _).alloc (Nat.le_refl _) _).trans (hb1.mono (by simp))⟩
      · have hso := fun W => Size_ok a b (n - 1) W hs (by omega)
        have en : ((n - 1 : Nat) : Int) = (n : Int) - 1 := by omega
        rw [en] at hso
        have HSO := Lib.hid hso
        clear h hk0 en hso
        go_enter Try.func24, Try.ntmps24
        go_wp2_with fail
        refine (HSO.out _).mono ?_
        rintro e w1 ⟨rfl, hb1⟩
        obtain ⟨hc, hf⟩ := bcell hb1
        go_wp2_with fail
        refine (check_any a b n x y _ ha ha' hb hb').mono ?_
        rintro e w2 ⟨rfl, hb2⟩
        have HB : Below w.heap.size w w2 := (((Below.refl _ _).alloc (Nat.le_refl _) _).trans (hb1.mono (by simp))).trans (hb2.mono (by have := hb1.size; simp at this; omega))
        clear hc hf hb1 hb2
        go_wp2_with fail
        go_ret2
        exact ⟨rfl, HB⟩
  · have e : kidsZ a b k x y = 3 := by unfold kidsZ; rw [if_pos hs]
    rw [e]
    clear e h
    rcases (show k < 1 ∨ 1 ≤ k from by omega) with g | g
    all_goals
      go_enter Try.func24, Try.ntmps24
      go_wp2_with fail
      refine (Size_bad a b _ _ ha ha' hb hb' hs).mono ?_
      rintro e w1 ⟨rfl, hb1⟩
      go_wp2_with fail
      go_ret2
      exact ⟨rfl, ((Below.refl _ _).alloc (Nat.le_refl _) _).trans (hb1.mono (by simp))⟩

theorem kidN_min (lw x : Int) (h : 2 * x < lw) : min (2 * x + 2) lw = 2 * x + (kidN lw x : Int) := by
  unfold kidN; split <;> omega
theorem kidN_le (lw x : Int) : 1 ≤ kidN lw x ∧ kidN lw x ≤ 2 := by unfold kidN; split <;> omega

/-- what the loops of Kids hold in memory -/
def KidsAt (w wr : World) (v : Value) (l : List (Int × Int)) : Prop :=
  ∃ A c, v = .slice A l.length c ∧ wr.ownsRow w.heap.size 44 2 (.slice A l.length c) l.length (cel l)

set_option maxHeartbeats 2000000 in
set_option maxRecDepth 100000 in
theorem Kids_ok (a b x y : Int) (n : Nat) (w : World) (ha : -9223372036854775808 ≤ a) (ha' : a ≤ 9223372036854775807) (hb : -9223372036854775808 ≤ b) (hb' : b ≤ 9223372036854775807) (hs : SizeOk a b) (hn : 1 ≤ n) (hn' : n < levN a b)
    (h : checkZ a b n x y = 0) (h1 : 0 ≤ x) (h2 : 0 ≤ y) (h3 : 2 * x < halfZ a (n - 1)) (h4 : 2 * y < halfZ b (n - 1)) :
    Calls Try.prog 24 #[.int .i64 a, .int .i64 b, .int .i64 n, .agg #[.int .i64 x, .int .i64 y]] w fun e w' => ∃ A c, e = .returned (.tuple #[.slice A (kidRows (kidN (halfZ a (n - 1)) x) (kidN (halfZ b (n - 1)) y) x y).length c, .int .i64 0]) ∧ w'.ownsRow w.heap.size 44 2 (.slice A (kidRows (kidN (halfZ a (n - 1)) x) (kidN (halfZ b (n - 1)) y) x y).length c) (kidRows (kidN (halfZ a (n - 1)) x) (kidN (halfZ b (n - 1)) y) x y).length (cel (kidRows (kidN (halfZ a (n - 1)) x) (kidN (halfZ b (n - 1)) y) x y)) ∧ Below w.heap.size w w' := by
  obtain ⟨i0, hi0, hz0, hz1, hz2⟩ := info_parts info_cell
  have hl := levN_le hs
  have q1 := (halfZ_pos a (n - 1) hs.1 hs.2.1).2
  have q2 := (halfZ_pos b (n - 1) hs.2.2.1 hs.2.2.2).2
  have a1 := hs.2.1
  have b1 := hs.2.2.2
  have hso := fun W => Size_ok a b (n - 1) W hs (by omega)
  have en : ((n - 1 : Nat) : Int) = (n : Int) - 1 := by omega
  rw [en] at hso
  have hmx := kidN_min _ _ h3
  have hmy := kidN_min _ _ h4
  obtain ⟨lx, hlx⟩ := kidN_le (halfZ a (n - 1)) x
  obtain ⟨ly, hly⟩ := kidN_le (halfZ b (n - 1)) y
  obtain ⟨nx, hnx⟩ : ∃ m, kidN (halfZ a (n - 1)) x = m := ⟨_, rfl⟩
  obtain ⟨ny, hny⟩ : ∃ m, kidN (halfZ b (n - 1)) y = m := ⟨_, rfl⟩
  rw [hnx] at hmx lx hlx ⊢
  rw [hny] at hmy ly hly ⊢
  obtain ⟨p, hp⟩ : ∃ p, halfZ a (n - 1) = p := ⟨_, rfl⟩
  obtain ⟨q, hq⟩ : ∃ p, halfZ b (n - 1) = p := ⟨_, rfl⟩
  rw [hp] at hso hmx h3 q1
  rw [hq] at hso hmy h4 q2
  have HSO := Lib.hid hso
  have HMX := Lib.hid hmx
  have HMY := Lib.hid hmy
  clear hso hp hq hnx hny en hmx hmy
  go_enter Try.func24, Try.ntmps24
  go_wp2_with fail
  refine (HSO.out _).mono ?_
  rintro e w1 ⟨rfl, hb1⟩
  obtain ⟨hc, hf⟩ := bcell hb1
  go_wp2_with fail
  refine (check_any a b n x y _ ha ha' hb hb').mono ?_
  rintro e w2 ⟨rfl, hb2⟩
  rw [h]
  have B0 : Below (w.heap.size + 1) (w.alloc (.cells #[.int .i64 x, .int .i64 y] 44)) w2 := by
    have := hb1.trans (hb2.mono hb1.size)
    simpa using this
  have hx : w2.cell? ⟨w.heap.size, 0, none⟩ = some (.int .i64 x) := bel_cell B0 _ _ (by omega) (box2 w _ _ _).1
  have hy : w2.cell? ⟨w.heap.size, 1, none⟩ = some (.int .i64 y) := bel_cell B0 _ _ (by omega) (box2 w _ _ _).2
  have hsz : w.heap.size + 1 ≤ w2.heap.size := by have := B0.size; simpa using this
  have HB : Below w.heap.size w w2 := ((Below.refl _ _).alloc (Nat.le_refl _) _).trans (B0.mono (by omega))
  clear hc hf hb1 hb2 B0 HSO h
  go_wp2_with fail
  go_loopw [13, 14] (fun v t wr => ∃ (j : Nat), j ≤ ny ∧ t = .int .i64 (2 * y + (j : Int)) ∧ KidsAt w2 wr v (kidRows nx j x y) ∧ Below w2.heap.size w2 wr) (fun _ t _ => (2 * y + 2 - intOf t).toNat)
  case atStart => exact ⟨0, by omega, by simp, ⟨none, 0, rfl, by simpa [kidRows, cel] using World.ownsRow_nil _ _ _ _⟩, Below.refl _ _⟩
  case round =>
    obtain ⟨j, hj, rfl, ⟨A, c, rfl, hown⟩, hbr⟩ := hrel
    have hxr := bel_cell hbr _ _ (by omega) hx
    have hyr := bel_cell hbr _ _ (by omega) hy
    by_cases hlt : j < ny
    · have t1 : 2 * y + (j : Int) < min (2 * y + 2) q := by rw [HMY.out]; omega
      go_wp2_with fail
      go_loopw [13, 15] (fun v t wr2 => ∃ (i : Nat), i ≤ nx ∧ t = .int .i64 (2 * x + (i : Int)) ∧ KidsAt w2 wr2 v (kidRows nx j x y ++ kidRow i x y j) ∧ Below w2.heap.size w2 wr2) (fun _ t _ => (2 * x + 2 - intOf t).toNat)
      case atStart => exact ⟨0, by omega, by simp, ⟨A, c, by simp [kidRow], by simpa [kidRow] using hown⟩, hbr⟩
      case round =>
        obtain ⟨i, hi, rfl, ⟨A2, c2, rfl, hown2⟩, hbr2⟩ := hrel
        have hxr2 := bel_cell hbr2 _ _ (by omega) hx
        clear hxr hyr hown hbr t1
        have len4 : (kidRows nx j x y ++ kidRow i x y j).length ≤ 8 := by
          rw [List.length_append, kidRows_len, kidRow_len]
          have := Nat.mul_le_mul (show j ≤ 2 by omega) hlx
          omega
        obtain ⟨L, hL⟩ : ∃ L, kidRows nx j x y ++ kidRow i x y j = L := ⟨_, rfl⟩
        rw [hL] at len4 hown2 ⊢
        have HL := Lib.hid hL
        clear hL
        by_cases hlt2 : i < nx
        · have t2 : 2 * x + (i : Int) < min (2 * x + 2) p := by rw [HMX.out]; omega
          go_wp2_with (at_builtin; refine wpList_append_appl _ rfl (.tmp 67) (.tmp 71) _ rfl w2.heap.size 44 i0 _ 2 16 Try.underlying41 hi0 hz0 hz1 hz2 rfl (by omega) (.slice A2 L.length c2) _ _ rfl (.inl (hown2.alloc _)) (wr.heap.size + 1) (some ⟨wr.heap.size, 0, none⟩) 1 1 (cel [(2 * x + (i : Int), 2 * y + (j : Int))]) rfl (reads_cells _ _ _ _ (by simp [cel])) (cel_one _) (.inl (by omega)) (by simp only [maxLen]; omega) (by omega) (by have := hbr2.size; simp; omega) ?_; intro v1 w3 hown3 hB3 hg3 hat3)
          go_roundw
          case rel =>
            obtain ⟨A3, c3, rfl, _⟩ := own_shape hown3
            refine ⟨i + 1, by omega, by go_num, ⟨A3, c3, ?_, ?_⟩, (hbr2.alloc hbr2.size _).trans hB3⟩
            · rw [kidRow_succ, ← List.append_assoc, HL.out]; simp
            · rw [kidRow_succ, ← List.append_assoc, HL.out, cel_append]; simpa using hown3
          case measure =>
            simp only [intOf]
            omega
        · have t2 : decide (2 * x + (i : Int) < min (2 * x + 2) p) = false := by rw [HMX.out]; simp; omega
          have e : i = nx := by omega
          subst e
          go_wp2_with fail
          go_roundw
          case rel =>
            refine ⟨j + 1, by omega, by go_num, ⟨A2, c2, ?_, ?_⟩, hbr2⟩
            · rw [kidRows_succ, HL.out]
            · rw [kidRows_succ, HL.out]; exact hown2
          case measure =>
            simp only [intOf]
            omega
    · have t1 : decide (2 * y + (j : Int) < min (2 * y + 2) q) = false := by rw [HMY.out]; simp; omega
      have e : j = ny := by omega
      subst e
      go_wp2_with fail
      go_ret2
      exact ⟨A, c, rfl, ownsRow_low hown HB.size, HB.trans (hbr.mono HB.size)⟩
end Go.Proofs.Ytgelgkgmgjhmnaa
