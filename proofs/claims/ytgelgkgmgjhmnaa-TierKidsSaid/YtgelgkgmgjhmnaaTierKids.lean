/-
  hachurelaw15.TierKids returns true whatever the size, the level and the cell.
-/
import Derived.Test.YtgelgkgmgjhmnaaKidsSum
import Derived.Test.YtgelgkgmgjhmnaaMeetNo
import Derived.Test.YtgelgkgmgjhmnaaTierAwake
namespace Go.Proofs.Ytgelgkgmgjhmnaa
open Go.RowKit
set_option linter.unusedVariables false
set_option linter.unusedSimpArgs false

set_option maxHeartbeats 4000000 in
set_option maxRecDepth 100000 in
theorem TierKids_walk (a b k x y : Int) (w : World) (ha : -9223372036854775808 ≤ a) (ha' : a ≤ 9223372036854775807) (hb : -9223372036854775808 ≤ b) (hb' : b ≤ 9223372036854775807) (hk : -9223372036854775808 ≤ k) (hk' : k ≤ 9223372036854775807) 
    (hx : -9223372036854775808 ≤ x) (hx' : x ≤ 9223372036854775807) (hy : -9223372036854775808 ≤ y) (hy' : y ≤ 9223372036854775807) :
    Calls Try.prog 8 #[.int .i64 a, .int .i64 b, .int .i64 k, .agg #[.int .i64 x, .int .i64 y]] w fun e w' => e = .returned (.bool true) ∧ Below w.heap.size w w' := by
  obtain ⟨hcx, hcy⟩ := box2 w (.int .i64 x) (.int .i64 y) 44
  go_enter Try.func8, Try.ntmps8
  go_wp2_with fail
  refine (tierAwake _).mono ?_
  rintro e w1 ⟨rfl, hb1⟩
  have hx1 := bel_cell hb1 _ _ (by simp) hcx
  have hy1 := bel_cell hb1 _ _ (by simp) hcy
  have hs1 : w.heap.size + 1 ≤ w1.heap.size := by have := hb1.size; simpa using this
  have HB1 : Below w.heap.size w w1 := ((Below.refl _ _).alloc (Nat.le_refl _) _).trans (hb1.mono (by simp))
  clear hcx hcy hb1
  by_cases hkz : kidsZ a b k x y = 0
  · have hks : SizeOk a b ∧ 1 ≤ k ∧ checkZ a b k x y = 0 := by
      unfold kidsZ at hkz
      split at hkz
      · omega
      · split at hkz
        · omega
        · rename_i q1 q2
          exact ⟨by simpa using q1, by omega, hkz⟩
    obtain ⟨hs, hk1, hch⟩ := hks
    obtain ⟨n, rfl⟩ := Int.eq_ofNat_of_zero_le (show 0 ≤ k by omega)
    obtain ⟨m, rfl⟩ : ∃ m, n = m + 1 := ⟨n - 1, by omega⟩
    obtain ⟨_, _, hl, x0, xl, y0, yl⟩ := check_zero hch
    simp only [Int.toNat_natCast] at xl yl
    have hl' : m + 1 < levN a b := by omega
    obtain ⟨gx, _⟩ := kid_1 hs.1 hs.2.1 x0 xl
    obtain ⟨gy, _⟩ := kid_1 hs.2.2.1 hs.2.2.2 y0 yl
    have HK := Lib.hid (fun W => Kids_ok a b x y (m + 1) W ha ha' hb hb' hs (by omega) hl' hch x0 y0 (by simpa using gx) (by simpa using gy))
    simp only [Nat.add_sub_cancel] at HK
    go_wp2_with fail
    refine (HK.out _).mono ?_
    rintro e w2 ⟨A, c, rfl, hown, hb2⟩
    have hx2 := bel_cell hb2 _ _ (by omega) hx1
    have hy2 := bel_cell hb2 _ _ (by omega) hy1
    go_wp2_with fail
    refine (Span_any a b x y (m + 1) _ hch).mono ?_
    rintro e w3 ⟨rfl, hb3⟩
    have hb23 : Below w2.heap.size w2 w3 := hb3
    have HB3 : Below w.heap.size w w3 := (HB1.trans (hb2.mono (by omega))).trans (hb3.mono (by have := hb2.size; omega))
    obtain ⟨lx, hlx⟩ := kidN_le (halfZ a m) x
    obtain ⟨ly, hly⟩ := kidN_le (halfZ b m) y
    have hlen := kidRows_len (kidN (halfZ a m) x) (kidN (halfZ b m) y) x y
    have hpos : 0 < kidN (halfZ b m) y * kidN (halfZ a m) x := Nat.mul_pos (by omega) (by omega)
    have hle4 : kidN (halfZ b m) y * kidN (halfZ a m) x ≤ 2 * 2 := Nat.mul_le_mul hly hlx
    obtain ⟨g, cap, hv, hbg, hltg⟩ := hown.form (by omega)
    have hA2 : A = some ⟨g, 0, none⟩ := by injection hv
    subst hA2
    clear hv
    have HCELL : Hid (∀ i, i < kidN (halfZ b m) y * kidN (halfZ a m) x → w3.cell? ⟨g, i * 2, none⟩ = some (.int .i64 (2 * x + ((i % kidN (halfZ a m) x : Nat) : Int))) ∧ w3.cell? ⟨g, i * 2 + 1, none⟩ = some (.int .i64 (2 * y + ((i / kidN (halfZ a m) x : Nat) : Int)))) := by
      intro i hi
      have hat := cel_at _ i (by rw [hlen]; exact hi)
      rw [kid_at _ _ x y lx hlx ly hly] at hat
      constructor
      · have := hown.cells (g := g) rfl _ _ hat.1
        rw [add_plain, Nat.zero_add] at this
        exact bel_cell hb3 _ _ hltg this
      · have := hown.cells (g := g) rfl _ _ hat.2
        rw [add_plain, Nat.zero_add] at this
        exact bel_cell hb3 _ _ hltg this
    have HF := Lib.hid (fun i => kid_fine hs hl' x0 xl y0 yl i)
    have HAP := Lib.hid (fun i j => kid_apart hs x0 xl y0 yl i j (kidN (halfZ a m) x) (by omega))
    have HAC := Lib.hid (acc_all hs x0 xl y0 yl)
    have HAB := Lib.hid (fun i => acc_bound hs hl' x0 xl y0 yl i)
    have HR := Lib.hid (span_right hch)
    have hg3 : g < w3.heap.size := by have := hb3.size; omega
    have hm10 : m ≤ 10 := by have := levN_le hs; omega
    rw [hlen]
    clear hown HK hx1 hy1 hx2 hy2 hlen hb2 hb3 hb23 gx gy xl yl hl hch hkz x0 y0 hs hl' hs1 HB1 hk1 hx hx' hy hy' hbg hltg
    obtain ⟨nx, hnx⟩ : ∃ f, kidN (halfZ a m) x = f := ⟨_, rfl⟩
    rw [hnx] at HCELL HF HAP HAC HAB lx hlx hpos hle4 ⊢
    obtain ⟨N, hN⟩ : ∃ f, kidN (halfZ b m) y * nx = f := ⟨_, rfl⟩
    rw [hN] at HCELL HF HAC HAB hpos hle4 ⊢
    clear hnx hN ly hly
    obtain ⟨X0, e1⟩ : ∃ f, loZ (m + 1) x = f := ⟨_, rfl⟩
    obtain ⟨Y0, e2⟩ : ∃ f, loZ (m + 1) y = f := ⟨_, rfl⟩
    obtain ⟨X1, e3⟩ : ∃ f, hiZ (m + 1) x a = f := ⟨_, rfl⟩
    obtain ⟨Y1, e4⟩ : ∃ f, hiZ (m + 1) y b = f := ⟨_, rfl⟩
    rw [e1, e2, e3, e4] at HF HAC HR ⊢
    clear e1 e2 e3 e4
    go_wp2_with fail
    obtain ⟨W0, hW0⟩ : ∃ W, w3.alloc (.cells #[.int .i64 X0, .int .i64 Y0, .int .i64 X1, .int .i64 Y1] 49) = W := ⟨_, rfl⟩
    rw [hW0]
    have hszW : W0.heap.size = w3.heap.size + 1 := by rw [← hW0]; simp
    have BW : Below w3.heap.size w3 W0 := by rw [← hW0]; exact (Below.refl _ _).alloc (Nat.le_refl _) _
    have HBW : Below w.heap.size w W0 := HB3.trans (BW.mono HB3.size)
    have r0 : W0.cell? ⟨w3.heap.size, 0, none⟩ = some (.int .i64 X0) := by rw [← hW0]; exact new_cell rfl 0 rfl
    have r1 : W0.cell? ⟨w3.heap.size, 1, none⟩ = some (.int .i64 Y0) := by rw [← hW0]; exact new_cell rfl 1 rfl
    have r2 : W0.cell? ⟨w3.heap.size, 2, none⟩ = some (.int .i64 X1) := by rw [← hW0]; exact new_cell rfl 2 rfl
    have r3 : W0.cell? ⟨w3.heap.size, 3, none⟩ = some (.int .i64 Y1) := by rw [← hW0]; exact new_cell rfl 3 rfl
    have HCW : Hid (∀ i, i < N → W0.cell? ⟨g, i * 2, none⟩ = some (.int .i64 (2 * x + ((i % nx : Nat) : Int))) ∧ W0.cell? ⟨g, i * 2 + 1, none⟩ = some (.int .i64 (2 * y + ((i / nx : Nat) : Int)))) := fun i hi => ⟨bel_cell BW _ _ hg3 (HCELL.out i hi).1, bel_cell BW _ _ hg3 (HCELL.out i hi).2⟩
    obtain ⟨q, hq⟩ : ∃ q, w3.heap.size = q := ⟨_, rfl⟩
    rw [hq] at r0 r1 r2 r3 hszW hg3 ⊢
    clear HB3 BW HCELL hW0 hq
    have R0 := Lib.hid r0
    have R1 := Lib.hid r1
    have R2 := Lib.hid r2
    have R3 := Lib.hid r3
    clear r0 r1 r2 r3
    go_loopw [13, 14] (fun s t wr => ∃ i : Nat, i ≤ N ∧ t = .int .i64 i ∧ s = .int .i64 (accZ m a b x y nx i) ∧ Below W0.heap.size W0 wr) (fun _ t _ => ((N : Int) - intOf t).toNat)
    case atStart => exact ⟨0, by omega, rfl, rfl, Below.refl _ _⟩
    case round =>
      obtain ⟨i, hi, rfl, rfl, hbr⟩ := hrel
      have hzr := hbr.size
      have r0 := bel_cell hbr _ _ (by omega) R0.out
      have r1 := bel_cell hbr _ _ (by omega) R1.out
      have r2 := bel_cell hbr _ _ (by omega) R2.out
      have r3 := bel_cell hbr _ _ (by omega) R3.out
      obtain ⟨b0, b1⟩ := HAB.out i hi
      by_cases hlt : i < N
      · obtain ⟨cx, cy⟩ := HCW.out i hlt
        have kx := bel_cell hbr _ _ (by omega) cx
        have ky := bel_cell hbr _ _ (by omega) cy
        clear cx cy
        obtain ⟨f1, f2⟩ := HF.out i hlt
        have hin := Lib.hid f2
        have hri := Lib.hid (span_right f1)
        have hsp := Lib.hid (fun W => Span_any a b _ _ m W f1)
        have hacc : Hid (accZ m a b x y nx (i + 1) = accZ m a b x y nx i + wdZ m x a (i % nx) * wdZ m y b (i / nx)) := rfl
        unfold wdZ at hacc
        obtain ⟨b2, b3⟩ := HAB.out (i + 1) (by omega)
        have hapi := Lib.hid (fun j => HAP.out i j)
        obtain ⟨KX, hKX⟩ : ∃ K : Int, 2 * x + ((i % nx : Nat) : Int) = K := ⟨_, rfl⟩
        obtain ⟨KY, hKY⟩ : ∃ K : Int, 2 * y + ((i / nx : Nat) : Int) = K := ⟨_, rfl⟩
        rw [hKX] at hin hri hsp hacc hapi kx
        rw [hKY] at hin hri hsp hacc hapi ky
        clear hKX hKY f1 f2
        go_wp2_with fail
        refine (hsp.out _).mono ?_
        rintro e w5 ⟨rfl, hb5⟩
        have hz5 := hb5.size
        have r05 := bel_cell hb5 _ _ (by omega) r0
        have r15 := bel_cell hb5 _ _ (by omega) r1
        have r25 := bel_cell hb5 _ _ (by omega) r2
        have r35 := bel_cell hb5 _ _ (by omega) r3
        clear r0 r1 r2 r3 kx ky
        have hq5 : q < w5.heap.size := by omega
        obtain ⟨S0, e1⟩ : ∃ K : Int, loZ m KX = K := ⟨_, rfl⟩
        obtain ⟨T0, e2⟩ : ∃ K : Int, loZ m KY = K := ⟨_, rfl⟩
        obtain ⟨S1, e3⟩ : ∃ K : Int, hiZ m KX a = K := ⟨_, rfl⟩
        obtain ⟨T1, e4⟩ : ∃ K : Int, hiZ m KY b = K := ⟨_, rfl⟩
        rw [e1, e2, e3, e4] at hin hri hacc ⊢
        rw [e1, e2] at hapi
        clear e1 e2 e3 e4
        go_wp2_with fail
        refine (rMeet_yes _ _ _ _ _ _ _ _ _ HR.out hri.out hin.out).mono ?_
        rintro e w6 ⟨rfl, hb6⟩
        have hz6 : w5.heap.size + 1 ≤ w6.heap.size := by have := hb6.size; simpa using this
        have s0 : w6.cell? ⟨w5.heap.size, 0, none⟩ = some (.int .i64 S0) := bel_cell hb6 _ _ (by simp) (new_cell rfl 0 rfl)
        have s1 : w6.cell? ⟨w5.heap.size, 1, none⟩ = some (.int .i64 T0) := bel_cell hb6 _ _ (by simp) (new_cell rfl 1 rfl)
        have s2 : w6.cell? ⟨w5.heap.size, 2, none⟩ = some (.int .i64 S1) := bel_cell hb6 _ _ (by simp) (new_cell rfl 2 rfl)
        have s3 : w6.cell? ⟨w5.heap.size, 3, none⟩ = some (.int .i64 T1) := bel_cell hb6 _ _ (by simp) (new_cell rfl 3 rfl)
        have BR : Below W0.heap.size W0 w5 := hbr.trans (hb5.mono hzr)
        have BR6 : Below W0.heap.size W0 w6 := (BR.alloc BR.size _).trans (hb6.mono (by have := BR.size; simp; omega))
        have hs56 : w5.heap.size < w6.heap.size := by omega
        clear hb6 r05 r15 r25 r35 hb5 BR hbr
        rw [hacc.out] at b2 b3
        go_wp2_with fail
        refine (rArea_yes S0 T0 S1 T1 _ hri.out).mono ?_
        rintro e w7 ⟨rfl, hb7⟩
        have hz7 : w6.heap.size + 1 ≤ w7.heap.size := by have := hb7.size; simpa using this
        have B67 : Below w6.heap.size w6 w7 := ((Below.refl _ _).alloc (Nat.le_refl _) _).trans (hb7.mono (by simp))
        have BR7 : Below W0.heap.size W0 w7 := BR6.trans (B67.mono BR6.size)
        have S0' := Lib.hid (bel_cell B67 _ _ hs56 s0)
        have S1' := Lib.hid (bel_cell B67 _ _ hs56 s1)
        have S2' := Lib.hid (bel_cell B67 _ _ hs56 s2)
        have S3' := Lib.hid (bel_cell B67 _ _ hs56 s3)
        have hs57 : w5.heap.size < w7.heap.size := by omega
        obtain ⟨q5, hq5'⟩ : ∃ z, w5.heap.size = z := ⟨_, rfl⟩
        rw [hq5'] at S0' S1' S2' S3' hs57 ⊢
        clear hb7 B67 BR6 s0 s1 s2 s3 hq5' hz5 hz6 hz7 hs56 hq5
        go_wp2_with fail
        go_loopw [19] (fun t wr => ∃ j : Nat, j ≤ i ∧ t = .int .i64 j ∧ Below w7.heap.size w7 wr) (fun t _ => ((i : Int) - intOf t).toNat)
        case atStart => exact ⟨0, by omega, rfl, Below.refl _ _⟩
        case round =>
          obtain ⟨j, hj, rfl, hbj⟩ := hrel
          have hzj := hbj.size
          by_cases hlj : j < i
          · have BJ : Below W0.heap.size W0 wr := BR7.trans (hbj.mono BR7.size)
            obtain ⟨cx, cy⟩ := HCW.out j (by omega)
            have kx := bel_cell BJ _ _ (by omega) cx
            have ky := bel_cell BJ _ _ (by omega) cy
            obtain ⟨f1, f2⟩ := HF.out j (by omega)
            have hrj := Lib.hid (span_right f1)
            have hsj := Lib.hid (fun W => Span_any a b _ _ m W f1)
            have hdj := Lib.hid (hapi.out j hlj)
            obtain ⟨LX, hKX⟩ : ∃ K : Int, 2 * x + ((j % nx : Nat) : Int) = K := ⟨_, rfl⟩
            obtain ⟨LY, hKY⟩ : ∃ K : Int, 2 * y + ((j / nx : Nat) : Int) = K := ⟨_, rfl⟩
            rw [hKX] at hrj hsj hdj kx
            rw [hKY] at hrj hsj hdj ky
            have s0 := bel_cell hbj _ _ hs57 S0'.out
            have s1 := bel_cell hbj _ _ hs57 S1'.out
            have s2 := bel_cell hbj _ _ hs57 S2'.out
            have s3 := bel_cell hbj _ _ hs57 S3'.out
            have hjN : j < N := by omega
            clear cx cy f1 f2 hKX hKY
            go_wp2_with fail
            refine (hsj.out _).mono ?_
            rintro e w8 ⟨rfl, hb8⟩
            have hz8 := hb8.size
            have s08 := bel_cell hb8 _ _ (by omega) s0
            have s18 := bel_cell hb8 _ _ (by omega) s1
            have s28 := bel_cell hb8 _ _ (by omega) s2
            have s38 := bel_cell hb8 _ _ (by omega) s3
            have hq8 : q5 < w8.heap.size := by omega
            clear s0 s1 s2 s3 kx ky
            go_wp2_with fail
            refine (rMeet_no _ _ _ _ _ _ _ _ _ hrj.out hri.out hdj.out).mono ?_
            rintro e w9 ⟨rfl, hb9⟩
            have B8 : Below w7.heap.size w7 w8 := hbj.trans (hb8.mono hzj)
            have B9 : Below w7.heap.size w7 w9 := (B8.alloc B8.size _).trans (hb9.mono (by have := B8.size; simp; omega))
            clear hb8 hb9 s08 s18 s28 s38
            go_wp2_with fail
            go_roundw
            case rel => exact ⟨j + 1, by omega, by go_num, B9.alloc B9.size _⟩
            case measure => simp [intOf]; omega
          · go_wp2_with fail
            go_roundw
            case rel => exact ⟨i + 1, by omega, by go_num, by rw [hacc.out], BR7.trans (hbj.mono BR7.size)⟩
            case measure => simp [intOf]; omega
      · have e : i = N := by omega
        subst e
        have hbe : (accZ m a b x y nx i == (X1 + 1 - X0) * (Y1 + 1 - Y0)) = true := by rw [beq_iff_eq]; exact HAC.out
        go_wp2_with fail
        refine (rArea_yes X0 Y0 X1 Y1 _ HR.out).mono ?_
        rintro e w5 ⟨rfl, hb5⟩
        go_wp2_with fail
        go_ret
        exact ⟨rfl, (HBW.trans (hbr.mono HBW.size)).trans (hb5.mono (by have := HBW.size; omega))⟩
  · have hne := Lib.hid hkz
    have hbn : (kidsZ a b k x y == 0) = false := by rw [beq_eq_false_iff_ne]; exact hkz
    clear hkz
    go_wp2_with fail
    refine (Kids_bad a b k x y _ ha ha' hb hb' hk hk' hne.out).mono ?_
    rintro e w2 ⟨rfl, hb2⟩
    go_wp2_with fail
    go_ret
    exact ⟨rfl, HB1.trans (hb2.mono (by omega))⟩
end Go.Proofs.Ytgelgkgmgjhmnaa
