/-
  (*Grid).Size, All, Set, Values.
-/
import Derived.Test.YtccpgalpahfpaaaGridFill
namespace Go.Proofs.Ytccpgalpahfpaaa
open Go.RowKit
set_option linter.unusedVariables false
set_option linter.unusedSimpArgs false

theorem gSize_any (b : Nat) (W H : Int) (v2 v3 : Value) (w : World) (hb : Blk w b 100 #[.int .i64 W, .int .i64 H, v2, v3]) :
    Calls Try.prog 39 #[.pointer (some ⟨b, 0, none⟩)] w (Ret (.tuple #[.int .i64 W, .int .i64 H]) w) := by
  have c0 : w.cell? ⟨b, 0, none⟩ = some (.int .i64 W) := hb.cell 0
  have c1 : w.cell? ⟨b, 1, none⟩ = some (.int .i64 H) := hb.cell 1
  clear hb
  go_enter Try.func39, Try.ntmps39
  go_wp2_with fail
  go_region_held3 (fun W' => W'.cell? ⟨b, 0, none⟩ = some (.int .i64 W) ∧ W'.cell? ⟨b, 1, none⟩ = some (.int .i64 H)) (first | exact ⟨c0, c1⟩) (fail)
  go_wp2_with fail
  go_ret2
  exact ⟨rfl, (Below.refl _ _).drew⟩

set_option maxHeartbeats 1000000 in
theorem gAll_any (b : Nat) (W H : Int) (v2 v3 : Value) (w : World) (hb : Blk w b 100 #[.int .i64 W, .int .i64 H, v2, v3]) (h1 : 1 ≤ W) (h2 : W ≤ 1024) (h3 : 1 ≤ H) (h4 : H ≤ 1024) :
    Calls Try.prog 19 #[.pointer (some ⟨b, 0, none⟩)] w (Ret (rectV 0 0 (W - 1) (H - 1)) w) := by
  have hlt := hb.lt
  have c0 : w.cell? ⟨b, 0, none⟩ = some (.int .i64 W) := hb.cell 0
  have c1 : w.cell? ⟨b, 1, none⟩ = some (.int .i64 H) := hb.cell 1
  have D : Box2 w b (.int .i64 W) (.int .i64 H) := ⟨c0, c1⟩
  have D2 := D.bel (new_bel w (.cells #[.int .i64 0, .int .i64 0, .int .i64 0, .int .i64 0] 45)) hlt
  have D3 := D.bel (new_bel w (.cells #[.int .i64 0, .int .i64 0, .int .i64 (W - 1), .int .i64 (H - 1)] 45)) hlt
  have W1 : IntKind.i64.wrap (W - 1) = W - 1 := IntWalk.i64_in _ (by omega)
  have W2 : IntKind.i64.wrap (H - 1) = H - 1 := IntWalk.i64_in _ (by omega)
  clear hb
  go_enter Try.func19, Try.ntmps19
  go_wp2_with fail
  go_region_held3 (fun W' => W'.cell? ⟨b, 0, none⟩ = some (.int .i64 W) ∧ W'.cell? ⟨b, 1, none⟩ = some (.int .i64 H)) (first | exact D2 | exact D3 | exact D) (fail)
  go_wp2_with fail
  exact bodyPost_ret (v := rectV 0 0 (W - 1) (H - 1)) (by simp [results, Try.results19, go_sem]) rfl ⟨rfl, ((Below.refl _ _).alloc (Nat.le_refl _) _).drew⟩

theorem gSet_ok {w : World} {gb W H : Nat} {f : Nat → Nat → Int} {F : Nat → Prop} (hG : GridIs w gb W H f F) (x y : Nat) (v : Int) (hx : x < W) (hy : y < H) (hv : MayV v) :
    Calls Try.prog 38 #[.pointer (some ⟨gb, 0, none⟩), cellV x y, .int .i64 v] w (GivesFillG w gb W H (fillG ⟨x, y, x, y⟩ v f) F) := by
  have HF := Lib.hid fun W' (hW : Below w.heap.size w W') => gFill_ok (hG.kept hW) ⟨x, y, x, y⟩ v (by simp only; omega) (by simp only; omega) (by simp only; omega) (by simp only; omega) (by simp only; omega) (by simp only; omega) hv
  clear hG
  go_enter Try.func38, Try.ntmps38
  go_wp2_with fail
  refine (gspot_any x y _).mono ?_
  rintro e w1 ⟨rfl, hb1⟩
  have HB : Below w.heap.size w w1 := (new_bel w _).trans (hb1.mono (by simp))
  clear hb1
  go_wp2_with fail
  refine (HF.out _ HB).mono ?_
  rintro e w2 ⟨rfl, hg, hT⟩
  go_wp2_with fail
  go_ret
  have := HB.size
  refine ⟨rfl, hg.wide fun i hi => ?_, (Touch.of_kept HB).trans hT⟩
  rcases hi with hi | hi
  · exact .inl hi
  · exact .inr (by omega)

/-- the values of a part of a row, of rows -/
def vRow (f : Nat → Nat → Int) (x0 y i : Nat) : List Int := (List.range i).map fun a => f (x0 + a) y
def vRows (f : Nat → Nat → Int) (x0 nx y0 j : Nat) : List Int := (List.range j).flatMap fun b => vRow f x0 (y0 + b) nx
theorem vRow_succ (f : Nat → Nat → Int) (x0 y i : Nat) : vRow f x0 y (i + 1) = vRow f x0 y i ++ [f (x0 + i) y] := by simp [vRow, List.range_succ]
theorem vRows_succ (f : Nat → Nat → Int) (x0 nx y0 j : Nat) : vRows f x0 nx y0 (j + 1) = vRows f x0 nx y0 j ++ vRow f x0 (y0 + j) nx := by simp [vRows, List.range_succ]
theorem vRow_len (f : Nat → Nat → Int) (x0 y i : Nat) : (vRow f x0 y i).length = i := by simp [vRow]
theorem vRows_len (f : Nat → Nat → Int) (x0 nx y0 j : Nat) : (vRows f x0 nx y0 j).length = j * nx := by
  induction j with
  | zero => simp [vRows]
  | succ j ih => rw [vRows_succ, List.length_append, ih, vRow_len, Nat.succ_mul]
def ints (l : List Int) : List Value := l.map (Value.int .i64)
theorem ints_append (l m : List Int) : ints (l ++ m) = ints l ++ ints m := by simp [ints]
theorem info_i64 : (Try.prog.info? 2).map (fun i => (i.zero, i.size, i.bytes)) = some (some (.int .i64 0), 1, 8) := by kernel_rfl

theorem tileF_at {W H x y : Nat} (f : Nat → Nat → Int) (hx : x < W) : tileF f W (x / 16) (y / 16) (y % 16 * tw W (x / 16) + x % 16) = f x y := by
  have h := (tile_of hx).2
  unfold tileF
  rw [Nat.mul_comm (y % 16), Nat.mul_add_mod, Nat.mod_eq_of_lt h, Nat.mul_add_div (by omega), Nat.div_eq_of_lt h, Nat.add_zero]
  congr 1 <;> omega

/-- it gives values in memory of its own -/
def GivesV (w : World) (l : List Int) (e : Ending) (w' : World) : Prop :=
  ∃ A c, e = .returned (.tuple #[.slice A l.length c, .int .i64 0]) ∧ w'.ownsRow w.heap.size 2 1 (.slice A l.length c) l.length (ints l) ∧ Below w.heap.size w w'
def ValsAt (w wr : World) (v : Value) (l : List Int) : Prop :=
  ∃ A c, v = .slice A l.length c ∧ wr.ownsRow w.heap.size 2 1 (.slice A l.length c) l.length (ints l)

set_option maxHeartbeats 4000000 in
set_option maxRecDepth 100000 in
theorem gValues_ok {w : World} {gb W H : Nat} {f : Nat → Nat → Int} {F : Nat → Prop} (hG : GridIs w gb W H f F) (x0 y0 x1 y1 : Nat) (r2 : x0 ≤ x1) (r3 : x1 < W) (r5 : y0 ≤ y1) (r6 : y1 < H) :
    Calls Try.prog 29 #[.pointer (some ⟨gb, 0, none⟩), rectV x0 y0 x1 y1] w (GivesV w (vRows f x0 (x1 - x0 + 1) y0 (y1 - y0 + 1))) := by
  obtain ⟨i0, hi0, hz0, hz1, hz2⟩ := info_parts info_i64
  obtain ⟨sb, sc, p, q, hO, hF⟩ := hG
  have s2 := hO.w2
  have s4 := hO.h2
  have s1 := hO.w1
  have s3 := hO.h1
  have hs := fun w' hb' => gcheck_any gb W H (.int .i64 (tiles W)) (.slice (some ⟨sb, 0, none⟩) (tiles W * tiles H) sc) x0 y0 x1 y1 w' hb' (by omega) (by omega) (by omega) (by omega)
  rw [show withinZ x0 y0 x1 y1 W H = 0 from within_of ⟨by omega, by omega, by omega, by omega⟩ (by omega) (by omega) (by omega) (by omega) (by omega) (by omega)] at hs
  have HS := Lib.hid hs
  have hA := fun W => Area_any x0 y0 x1 y1 W
  obtain ⟨n, hn⟩ : ∃ n, (x1 - x0 + 1) * (y1 - y0 + 1) = n := ⟨_, rfl⟩
  rw [show areaZ x0 y0 x1 y1 = (n : Int) by
    unfold areaZ; rw [if_pos ((right_iff _ _ _ _).2 ⟨by omega, by omega, by omega, by omega, by omega, by omega⟩), area_cast r2 r5, hn]] at hA
  have HA := Lib.hid hA
  have hnl : n ≤ 1048576 := by rw [← hn]; exact Nat.mul_le_mul (show x1 - x0 + 1 ≤ 1024 by omega) (show y1 - y0 + 1 ≤ 1024 by omega)
  have HN := Lib.hid hn
  have HO := Lib.hid hO
  have hgl := hO.head.lt
  obtain ⟨nx, hnx⟩ : ∃ nx, x1 - x0 + 1 = nx := ⟨_, rfl⟩
  obtain ⟨ny, hny⟩ : ∃ ny, y1 - y0 + 1 = ny := ⟨_, rfl⟩
  rw [hnx, hny]
  have lx : nx ≤ 1024 ∧ x0 + nx = x1 + 1 := by omega
  have ly : ny ≤ 1024 ∧ y0 + ny = y1 + 1 := by omega
  have HLX := Lib.hid lx.2
  have HLY := Lib.hid ly.2
  have lx1 := lx.1
  have ly1 := ly.1
  clear hs hA hn hO hnx hny lx ly
  go_enter Try.func29, Try.ntmps29
  go_wp2_with fail
  refine (HS.out _ (HO.out.head.alloc _)).mono ?_
  rintro e w1 ⟨rfl, hb1⟩
  have hb1' : Below (w.heap.size + 1) (w.alloc (.cells #[.int .i64 x0, .int .i64 y0, .int .i64 x1, .int .i64 y1] 45)) w1 := by simpa using hb1
  obtain ⟨c0, c1, c2, c3⟩ := (box4_new w (.int .i64 x0) (.int .i64 y0) (.int .i64 x1) (.int .i64 y1) 45).bel hb1' (by omega)
  have C1 : Box4 w1 w.heap.size (.int .i64 x0) (.int .i64 y0) (.int .i64 x1) (.int .i64 y1) := ⟨c0, c1, c2, c3⟩
  have hz1' : w.heap.size < w1.heap.size := by have := hb1'.size; simp at this; omega
  have HB : Below w.heap.size w w1 := (new_bel w _).trans (hb1'.mono (by omega))
  clear hb1 hb1' HS
  go_wp2_with fail
  refine (HA.out _).mono ?_
  rintro e w2 ⟨rfl, hb2⟩
  have C2 := C1.bel hb2 hz1'
  have HB2 := bel_trans HB hb2 (Nat.le_refl _)
  have hz2' : w.heap.size < w2.heap.size := by have := hb2.size; omega
  obtain ⟨w3, hrun, hown3, hg3⟩ := run_make_own (P := Try.prog) w2 w2.heap.size 22 2 i0 (.int .i64 0) 1 Try.underlying22 hi0 hz0 hz1 .i64 .i64 n (by rw [hz2]; omega) (by simp only [maxLen]; omega) (Nat.le_refl _)
  have hb3 : Below w2.heap.size w2 w3 := below_of_grown hg3
  obtain ⟨e0, e1, e2, e3⟩ := C2.bel hb3 hz2'
  have HOW3 := Lib.hid hown3
  clear c0 c1 c2 c3 C1 hb2 HB hg3 hown3
  go_wp2_with fail
  clear hrun
  have C3 : Box4 w2 w.heap.size (.int .i64 x0) (.int .i64 y0) (.int .i64 x1) (.int .i64 y1) := C2
  clear e0 e1 e2 e3 C2
  go_loopw [7, 8] (fun o t wr => ∃ j : Nat, j ≤ ny ∧ t = .int .i64 ((y0 : Int) + (j : Int)) ∧ ValsAt w2 wr o (vRows f x0 nx y0 j) ∧ Below w2.heap.size w2 wr) (fun _ t _ => 4096 - (intOf t).toNat)
  case atStart => exact ⟨0, by omega, by simp, ⟨some ⟨w2.heap.size, 0, none⟩, n, by simp [vRows], by simpa [vRows, ints] using HOW3.out⟩, hb3⟩
  case round =>
    obtain ⟨j, hj, rfl, ⟨A, c, rfl, hown⟩, hbr⟩ := hrel
    obtain ⟨e0, e1, e2, e3⟩ := C3.bel hbr hz2'
    have hly := HLY.out
    by_cases hlt : j < ny
    · have t1 : (y0 : Int) + (j : Int) ≤ (y1 : Int) := by omega
      have HOWN := Lib.hid hown
      clear hly hown
      go_wp2_with fail
      go_loopw [7, 9] (fun o t wr2 => ∃ i : Nat, i ≤ nx ∧ t = .int .i64 ((x0 : Int) + (i : Int)) ∧ ValsAt w2 wr2 o (vRows f x0 nx y0 j ++ vRow f x0 (y0 + j) i) ∧ Below w2.heap.size w2 wr2) (fun _ t _ => 4096 - (intOf t).toNat)
      case atStart => exact ⟨0, by omega, by simp, ⟨A, c, by simp [vRow], by simpa [vRow] using HOWN.out⟩, hbr⟩
      case round =>
        obtain ⟨i, hi, rfl, ⟨A2, c2', rfl, hown2⟩, hbr2⟩ := hrel
        obtain ⟨d0, d1, d2, d3⟩ := C3.bel hbr2 hz2'
        have hzr := hbr2.size
        clear e0 e1 e2 e3 HOWN hbr
        have len4 : (vRows f x0 nx y0 j ++ vRow f x0 (y0 + j) i).length ≤ 2097152 := by
          rw [List.length_append, vRows_len, vRow_len]
          have := Nat.mul_le_mul (show j ≤ 1024 by omega) lx1
          omega
        obtain ⟨L, hL⟩ : ∃ L, vRows f x0 nx y0 j ++ vRow f x0 (y0 + j) i = L := ⟨_, rfl⟩
        rw [hL] at len4 hown2 ⊢
        have HL := Lib.hid hL
        have HOWN2 := Lib.hid hown2
        clear hL hown2
        have hlx := HLX.out
        have hly := HLY.out
        by_cases hlt2 : i < nx
        · have t2 : (x0 : Int) + (i : Int) ≤ (x1 : Int) := by omega
          obtain ⟨x, hx⟩ : ∃ x, x0 + i = x := ⟨_, rfl⟩
          obtain ⟨y, hy⟩ : ∃ y, y0 + j = y := ⟨_, rfl⟩
          have ex : (x0 : Int) + (i : Int) = (x : Int) := by omega
          have ey : (y0 : Int) + (j : Int) = (y : Int) := by omega
          have hxW : x < W := by omega
          have hyH : y < H := by omega
          have hOr := HO.out.kept (HB2.trans (hbr2.mono (by omega)))
          have hI := tile_of hxW
          have hJ := tile_of hyH
          have hK := idx_lt hI.1 hJ.1
          obtain ⟨cur, hcur, hptr⟩ := hOr.list
          have HSA := Lib.hid <| gslab_at gb sb _ sc (tiles W) x y _ _ _ _ #[] wr hOr.head ((hcur.cell _).trans (hptr _ hK)) rfl hK (tiles_le s2) (by omega) (by omega)
          have hSL := hOr.slabs _ _ hI.1 hJ.1
          have HAT := Lib.hid fun w' (hw' : Below wr.heap.size wr w') => sAt_ok (hSL.kept hw') (x % 16) (y % 16) hI.2 hJ.2
          rw [tileF_at (H := H) f hxW] at HAT
          have HIN := Lib.hid fun w' => inner_any x y w'
          obtain ⟨X, hX⟩ : ∃ X, x % 16 = X := ⟨_, rfl⟩
          obtain ⟨Y, hY⟩ : ∃ Y, y % 16 = Y := ⟨_, rfl⟩
          rw [hX, hY] at HAT HIN
          have HEX := Lib.hid hx
          have HEY := Lib.hid hy
          rw [ex, ey]
          rw [ex] at t2
          have EXx := Lib.hid ex
          clear hOr hI hJ hK hcur hptr hSL hX hY hx hy ex ey hlx hly
          go_wp2_with fail
          refine HSA.out.mono ?_
          rintro e w4 ⟨rfl, m, rfl⟩
          have c0' : (wr.drewN m).cell? ⟨w.heap.size, 0, none⟩ = some (.int .i64 x0) := d0
          go_wp2_with fail
          refine (HIN.out _).mono ?_
          rintro e w5 ⟨rfl, hb5⟩
          have HB5 : Below wr.heap.size wr w5 := (bel_drewN (Below.refl _ _) m).trans (hb5.mono (Nat.le_refl _))
          clear hb5 c0'
          go_wp2_with fail
          refine (HAT.out _ HB5).mono ?_
          rintro e w6 ⟨rfl, hb6⟩
          have HB6 := bel_trans HB5 hb6 (Nat.le_refl _)
          have HOWN6 := Lib.hid ((ownsRow_below HOWN2.out HB6 (Nat.le_refl _)).alloc (.cells #[.int .i64 (f x y)] 2))
          have HNR := Lib.hid (reads_new1 w6 (.int .i64 (f x y)) 2)
          have hz6 := HB6.size
          clear HB5 hb6 HSA HAT HIN
          go_wp2_with (at_builtin; (go_must (refine wpList_append_appl _ rfl (.tmp 48) (.tmp 50) _ rfl w2.heap.size 2 i0 _ 1 8 Try.underlying22 hi0 hz0 hz1 hz2 rfl (by omega) (.slice A2 L.length c2') _ _ rfl (.inl HOWN6.out) (w6.heap.size + 1) (some ⟨w6.heap.size, 0, none⟩) 1 1 [.int .i64 (f x y)] rfl HNR.out (by intro u hu; simp at hu; subst hu; rfl) (.inl (by omega)) (by simp only [maxLen]; omega) (by omega) (by simp; omega) ?_)); intro v1 w7 hown7 hB7 hg7 hat7)
          go_roundw
          case rel =>
            obtain ⟨A7, c7, rfl, _⟩ := own_shape' hown7
            have hxx := HEX.out
            have hyy := HEY.out
            have e2 : vRows f x0 nx y0 j ++ vRow f x0 (y0 + j) (i + 1) = L ++ [f x y] := by rw [vRow_succ, ← List.append_assoc, HL.out, hxx, hyy]
            refine ⟨i + 1, by omega, ?_, ⟨A7, c7, ?_, ?_⟩, ((hbr2.trans (HB6.mono hzr)).alloc (by omega) _).trans hB7⟩
            · rw [← EXx.out]; go_num
            · rw [e2]; simp
            · rw [e2, ints_append]; simpa [ints] using hown7
          case measure =>
            simp only [intOf]
            omega
        · have t2 : decide ((x0 : Int) + (i : Int) ≤ (x1 : Int)) = false := decide_eq_false (by omega)
          have e : i = nx := by omega
          subst e
          clear hlx hly
          go_wp2_with fail
          go_roundw
          case rel =>
            have e2 : vRows f x0 i y0 (j + 1) = L := by rw [vRows_succ, HL.out]
            refine ⟨j + 1, by omega, by go_num, ⟨A2, c2', ?_, ?_⟩, hbr2⟩
            · rw [e2]
            · rw [e2]; exact HOWN2.out
          case measure =>
            simp only [intOf]
            omega
    · have t1 : decide ((y0 : Int) + (j : Int) ≤ (y1 : Int)) = false := decide_eq_false (by omega)
      have e : j = ny := by omega
      subst e
      clear hly
      go_wp2_with fail
      go_ret2
      exact ⟨A, c, rfl, ownsRow_low hown HB2.size, HB2.trans (hbr.mono HB2.size)⟩
end Go.Proofs.Ytccpgalpahfpaaa
