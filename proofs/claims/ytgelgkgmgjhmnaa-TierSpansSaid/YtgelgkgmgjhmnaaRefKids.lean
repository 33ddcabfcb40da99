/-
  The document's Kids (hachureref15): the same list as that of tier.Kids.
-/
import Derived.Test.YtgelgkgmgjhmnaaKids
import Derived.Deep.QuietTactic
import Derived.BigQuiet
namespace Go.Proofs.Ytgelgkgmgjhmnaa
open Go.RowKit
set_option linter.unusedVariables false
set_option linter.unusedSimpArgs false

/-- what the loops of the document's Kids have collected -/
def kidPart (nx ny : Nat) (x y : Int) (j i : Nat) : List (Int × Int) := kidRows nx (min j ny) x y ++ (if j < ny then kidRow (min i nx) x y j else [])
theorem kidPart_start (nx ny : Nat) (x y : Int) (j : Nat) : kidPart nx ny x y j 0 = kidRows nx (min j ny) x y := by
  unfold kidPart; split <;> simp [kidRow]
theorem kidPart_end (nx ny : Nat) (x y : Int) (j : Nat) (h : nx ≤ 2) : kidPart nx ny x y j 2 = kidRows nx (min (j + 1) ny) x y := by
  unfold kidPart
  split
  · rw [show min j ny = j from by omega, show min (j + 1) ny = j + 1 from by omega, show min 2 nx = nx from by omega, kidRows_succ]
  · rw [show min j ny = ny from by omega, show min (j + 1) ny = ny from by omega]; simp
theorem kidPart_yes (nx ny : Nat) (x y : Int) (j i : Nat) (hj : j < ny) (hi : i < nx) : kidPart nx ny x y j (i + 1) = kidPart nx ny x y j i ++ [(2 * x + (i : Int), 2 * y + (j : Int))] := by
  unfold kidPart
  rw [if_pos hj, if_pos hj, show min (i + 1) nx = i + 1 from by omega, show min i nx = i from by omega, kidRow_succ, List.append_assoc]
theorem kidPart_no (nx ny : Nat) (x y : Int) (j i : Nat) (h : ny ≤ j ∨ nx ≤ i) : kidPart nx ny x y j (i + 1) = kidPart nx ny x y j i := by
  unfold kidPart
  split
  · rw [show min (i + 1) nx = nx from by omega, show min i nx = nx from by omega]
  · rfl
theorem kidPart_len (nx ny : Nat) (x y : Int) (j i : Nat) (h1 : nx ≤ 2) (h2 : ny ≤ 2) : (kidPart nx ny x y j i).length ≤ 8 := by
  unfold kidPart
  rw [List.length_append, kidRows_len]
  have := Nat.mul_le_mul (show min j ny ≤ 2 by omega) h1
  split
  · rw [kidRow_len]; omega
  · simp; omega

theorem kidN_test (lw x : Int) (i : Nat) (h : 2 * x < lw) (hi : i < 2) : (2 * x + (i : Int) < lw) ↔ i < kidN lw x := by
  unfold kidN
  split <;> omega

set_option maxHeartbeats 2000000 in
set_option maxRecDepth 100000 in
theorem rKids_ok (a b x y : Int) (m : Nat) (w : World) (hs : SizeOk a b) (hm : m + 1 < levN a b) (h1 : 0 ≤ x) (h2 : 0 ≤ y) (h3 : 2 * x < halfZ a m) (h4 : 2 * y < halfZ b m) :
    Calls Try.prog 31 #[.int .i64 a, .int .i64 b, .int .i64 ((m : Int) + 1), .agg #[.int .i64 x, .int .i64 y]] w fun e w' => ∃ A c, e = .returned (.slice A (kidRows (kidN (halfZ a m) x) (kidN (halfZ b m) y) x y).length c) ∧ w'.ownsRow w.heap.size 44 2 (.slice A (kidRows (kidN (halfZ a m) x) (kidN (halfZ b m) y) x y).length c) (kidRows (kidN (halfZ a m) x) (kidN (halfZ b m) y) x y).length (cel (kidRows (kidN (halfZ a m) x) (kidN (halfZ b m) y) x y)) ∧ Below w.heap.size w w' := by
  obtain ⟨i0, hi0, hz0, hz1, hz2⟩ := info_parts info_cell
  have hl := levN_le hs
  have q1 := (halfZ_pos a m hs.1 hs.2.1).2
  have q2 := (halfZ_pos b m hs.2.2.1 hs.2.2.2).2
  have a1 := hs.2.1
  have b1 := hs.2.2.2
  obtain ⟨lx, hlx⟩ := kidN_le (halfZ a m) x
  obtain ⟨ly, hly⟩ := kidN_le (halfZ b m) y
  have HX := Lib.hid (fun i => kidN_test (halfZ a m) x i h3)
  have HY := Lib.hid (fun i => kidN_test (halfZ b m) y i h4)
  obtain ⟨nx, hnx⟩ : ∃ m', kidN (halfZ a m) x = m' := ⟨_, rfl⟩
  obtain ⟨ny, hny⟩ : ∃ m', kidN (halfZ b m) y = m' := ⟨_, rfl⟩
  rw [hnx] at lx hlx HX ⊢
  rw [hny] at ly hly HY ⊢
  have HSZ := Lib.hid (fun W => rSizes_ok a b W hs)
  have hpp : m < levN a b := by omega
  obtain ⟨hcx, hcy⟩ := box2 w (.int .i64 x) (.int .i64 y) 44
  clear hnx hny
  go_enter Try.func31, Try.ntmps31
  go_wp2_with fail
  refine (HSZ.out _).mono ?_
  rintro e w1 ⟨A, cc, rfl, hown, hb1⟩
  obtain ⟨g, cap, hv, hbg, hltg⟩ := hown.form (by omega)
  have hA2 : A = some ⟨g, 0, none⟩ := by injection hv
  subst hA2
  have hat := cel_at (szs a b (levN a b)) m (by simpa using hpp)
  rw [szs_at] at hat
  have hlx1 : w1.cell? ⟨g, m * 2, none⟩ = some (.int .i64 (halfZ a m)) := by
    have := hown.cells (g := g) rfl _ _ hat.1
    rwa [add_plain, Nat.zero_add] at this
  have hly1 : w1.cell? ⟨g, m * 2 + 1, none⟩ = some (.int .i64 (halfZ b m)) := by
    have := hown.cells (g := g) rfl _ _ hat.2
    rwa [add_plain, Nat.zero_add] at this
  have hx1 := bel_cell hb1 _ _ (by simp) hcx
  have hy1 := bel_cell hb1 _ _ (by simp) hcy
  have hsz1 : w.heap.size + 1 ≤ w1.heap.size := by have := hb1.size; simpa using this
  have HB : Below w.heap.size w w1 := ((Below.refl _ _).alloc (Nat.le_refl _) _).trans (hb1.mono (by simp))
  obtain ⟨p, hp⟩ : ∃ p, halfZ a m = p := ⟨_, rfl⟩
  obtain ⟨q, hq⟩ : ∃ p, halfZ b m = p := ⟨_, rfl⟩
  rw [hp] at hlx1 HX h3 q1
  rw [hq] at hly1 HY h4 q2
  obtain ⟨N, hN⟩ : ∃ N, levN a b = N := ⟨_, rfl⟩
  rw [hN] at hm hl hpp ⊢
  have C1 := Lib.hid hlx1
  have C2 := Lib.hid hly1
  have C3 := Lib.hid hx1
  have C4 := Lib.hid hy1
  have hown0 := own_new w1 [] 44 #[] (by simp [cel]) (by simp [maxLen]) (base := w1.heap.size) (Nat.le_refl _)
  clear hat hown hv hb1 hcx hcy hbg hp hq hN HSZ hlx1 hly1 hx1 hy1 hs
  go_wp2_with fail
  go_loopw [10, 11] (fun v t wr => ∃ (j : Nat), j ≤ 2 ∧ t = .int .i64 (j : Int) ∧ KidsAt w1 wr v (kidRows nx (min j ny) x y) ∧ Below w1.heap.size w1 wr) (fun _ t _ => (2 - intOf t).toNat)
  case atStart => exact ⟨0, by omega, rfl, ⟨_, _, rfl, by simpa [kidRows, cel] using hown0⟩, (Below.refl _ _).alloc (Nat.le_refl _) _⟩
  case round =>
    obtain ⟨j, hj, rfl, ⟨A, c, rfl, hown⟩, hbr⟩ := hrel
    clear hown0
    by_cases hlt : j < 2
    · have hjd : decide ((j : Int) < 2) = true := by simp only [decide_eq_true_eq]; omega
      go_wp2_with fail
      go_loopw [10, 12] (fun v t wr2 => ∃ (i : Nat), i ≤ 2 ∧ t = .int .i64 (i : Int) ∧ KidsAt w1 wr2 v (kidPart nx ny x y j i) ∧ Below w1.heap.size w1 wr2) (fun _ t _ => (2 - intOf t).toNat)
      case atStart => exact ⟨0, by omega, rfl, ⟨A, c, by rw [kidPart_start], by rw [kidPart_start]; exact hown⟩, hbr⟩
      case round =>
        obtain ⟨i, hi, rfl, ⟨A2, c2, rfl, hown2⟩, hbr2⟩ := hrel
        clear hown hbr
        have len8 := kidPart_len nx ny x y j i hlx hly
        have KY := Lib.hid (kidPart_yes nx ny x y j i)
        have KN := Lib.hid (kidPart_no nx ny x y j i)
        by_cases hlt2 : i < 2
        · have e1 := bel_cell hbr2 _ _ hltg C1.out
          have e2 := bel_cell hbr2 _ _ hltg C2.out
          have e3 := bel_cell hbr2 _ _ (by omega) C3.out
          have e4 := bel_cell hbr2 _ _ (by omega) C4.out
          have tx := HX.out i hlt2
          have ty := HY.out j hlt
          have dx := Lib.hid tx
          have dy := Lib.hid ty
          clear tx ty
          obtain ⟨L, hL⟩ : ∃ L, kidPart nx ny x y j i = L := ⟨_, rfl⟩
          rw [hL] at len8 hown2 KY KN ⊢
          clear hL
          have j1 : (0 : Int) ≤ (m : Int) := by omega
          have j2 : (m : Int) < (N : Int) := by omega
          have s1 : IntKind.i64.wrap (2 * x) = 2 * x := IntWalk.i64_in _ (by omega)
          have s2 : IntKind.i64.wrap (2 * x + (i : Int)) = 2 * x + (i : Int) := IntWalk.i64_in _ (by omega)
          have s3 : IntKind.i64.wrap (2 * y) = 2 * y := IntWalk.i64_in _ (by omega)
          have s4 : IntKind.i64.wrap (2 * y + (j : Int)) = 2 * y + (j : Int) := IntWalk.i64_in _ (by omega)
          have s5 : IntKind.i64.wrap (m : Int) = (m : Int) := IntWalk.i64_in _ (by omega)
          by_cases gx : i < nx
          · have f1 : decide (2 * x + (i : Int) < p) = true := by simp only [decide_eq_true_eq]; exact dx.out.2 gx
            by_cases gy : j < ny
            · have f2 : decide (2 * y + (j : Int) < q) = true := by simp only [decide_eq_true_eq]; exact dy.out.2 gy
              go_wp2_with fail
              go_quiet (fail)
              clear s1 s2 s3 s4 s5 f1 f2
              go_wp2_with (at_builtin; refine wpList_append_appl _ rfl (.tmp 51) (.tmp 63) _ rfl w1.heap.size 44 i0 _ 2 16 Try.underlying41 hi0 hz0 hz1 hz2 rfl (by omega) (.slice A2 L.length c2) _ _ rfl (.inl (hown2.alloc _)) (wr.heap.size + 1) (some ⟨wr.heap.size, 0, none⟩) 1 1 (cel [(2 * x + (i : Int), 2 * y + (j : Int))]) rfl (reads_cells _ _ _ _ (by simp [cel])) (cel_one _) (.inl (by omega)) (by simp only [maxLen]; omega) (by omega) (by have := hbr2.size; simp; omega) ?_; intro v1 w3 hown3 hB3 hg3 hat3)
              go_roundw
              case rel =>
                obtain ⟨A3, c3, rfl, _⟩ := own_shape hown3
                refine ⟨i + 1, by omega, by go_num, ⟨A3, c3, ?_, ?_⟩, ?_⟩
                · rw [KY.out gy gx]; simp
                · rw [KY.out gy gx, cel_append]; simpa using hown3
                · exact ((bel_drewN hbr2 _).alloc hbr2.size _).trans hB3
              case measure =>
                simp only [intOf]
                omega
            · have f2 : decide (2 * y + (j : Int) < q) = false := by
                rw [decide_eq_false_iff_not]; exact fun f => gy (dy.out.1 f)
              go_wp2_with fail
              go_quiet (fail)
              clear s1 s2 s3 s4 s5 f1 f2
              go_wp2_with fail
              go_roundw
              case rel => exact ⟨i + 1, by omega, by go_num, ⟨A2, c2, by rw [KN.out (.inl (by omega))], by rw [KN.out (.inl (by omega))]; exact hown2⟩, bel_drewN hbr2 _⟩
              case measure =>
                simp only [intOf]
                omega
          · have f1 : decide (2 * x + (i : Int) < p) = false := by
              rw [decide_eq_false_iff_not]; exact fun f => gx (dx.out.1 f)
            go_wp2_with fail
            go_quiet (fail)
            clear s1 s2 s3 s4 s5 f1
            go_wp2_with fail
            go_roundw
            case rel => exact ⟨i + 1, by omega, by go_num, ⟨A2, c2, by rw [KN.out (.inr (by omega))], by rw [KN.out (.inr (by omega))]; exact hown2⟩, bel_drewN hbr2 _⟩
            case measure =>
              simp only [intOf]
              omega
        · have e : i = 2 := by omega
          subst e
          go_wp2_with fail
          go_roundw
          case rel => exact ⟨j + 1, by omega, by go_num, ⟨A2, c2, by rw [kidPart_end _ _ _ _ _ hlx], by rw [← kidPart_end _ _ _ _ _ hlx]; exact hown2⟩, hbr2⟩
          case measure =>
            simp only [intOf]
            omega
    · have e : j = 2 := by omega
      subst e
      have hmin : min 2 ny = ny := by omega
      rw [hmin] at hown ⊢
      go_wp2_with fail
      go_ret
      exact ⟨A, c, rfl, ownsRow_low hown HB.size, HB.trans (hbr.mono HB.size)⟩
end Go.Proofs.Ytgelgkgmgjhmnaa
