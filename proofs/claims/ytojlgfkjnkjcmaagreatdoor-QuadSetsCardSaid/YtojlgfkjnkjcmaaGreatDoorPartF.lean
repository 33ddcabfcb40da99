/-
  Texts of the proofs, one behind the other: SlabPartF.
-/
import Derived.Test.YtojlgfkjnkjcmaaGreatDoorPartD
/-
  (*Slab).Fill, where only a part of a slab is filled, and not by what all of it is: it is rough.
-/
namespace Go.Proofs.YtojlgfkjnkjcmaaGreatDoor
open Go.RowKit
set_option linter.unusedVariables false
set_option linter.unusedSimpArgs false

set_option maxHeartbeats 4000000 in
set_option maxRecDepth 100000 in
theorem sFill_part_f (b sw sh x0 y0 x1 y1 n : Nat) (v one : Int) (V : Value) (f : Nat → Int) (q : Option Nat) (w : World) (hb : Blk w b 153 #[.int .i64 sw, .int .i64 sh, V]) (s1 : 1 ≤ sw) (s2 : sw ≤ 16) (s3 : 1 ≤ sh) (s4 : sh ≤ 16) (hn : sw * sh = n)
    (hx : x0 ≤ x1) (hx' : x1 < sw) (hy : y0 ≤ y1) (hy' : y1 < sh) (hv : MayV v) (ta : ∀ W : World, (Instr.typeAssert V 151 149 true).run Tryz.prog W = .ok (.tuple #[.int .i32 one, .bool false]) W) 
    (harea : ((((x1 : Int) - x0 + 1) * ((y1 : Int) - y0 + 1)) == (n : Int)) = false) (HR : Hid (∀ W, Below w.heap.size w W → Calls Tryz.prog 90 #[.pointer (some ⟨b, 0, none⟩)] W (GivesRough W b sw sh f q))) :
    Calls Tryz.prog 80 #[.pointer (some ⟨b, 0, none⟩), rectV x0 y0 x1 y1, .int .i64 v] w (GivesFilled w b sw sh (fillK sw x0 y0 x1 y1 v f) q) := by
  have hs := fun W hbW => scheck_any b sw sh V x0 y0 x1 y1 W hbW s2 s4
  rw [show withinZ x0 y0 x1 y1 sw sh = 0 from within_of ⟨by omega, by omega, by omega, by omega⟩ (by omega) (by omega) (by omega) (by omega) (by omega) (by omega)] at hs
  have HS := Lib.hid hs
  have hm := fun W => may_any v W
  rw [show decide (MayV v) = true from decide_eq_true hv] at hm
  have HM := Lib.hid hm
  have hA := fun W => Area_any x0 y0 x1 y1 W
  rw [show areaZ x0 y0 x1 y1 = ((x1 : Int) - x0 + 1) * ((y1 : Int) - y0 + 1) by
    unfold areaZ; rw [if_pos ((right_iff _ _ _ _).2 ⟨by omega, by omega, by omega, by omega, by omega, by omega⟩)]] at hA
  have HA := Lib.hid hA
  have hlt := hb.lt
  have HBK := Lib.hid hb
  have HN := Lib.hid hn
  have n1 : 1 ≤ n := by rw [← hn]; exact Nat.mul_pos s1 s3
  have n2 : n ≤ 256 := by rw [← hn]; exact Nat.mul_le_mul s2 s4
  have W1 : IntKind.i64.wrap ((sw : Int) * (sh : Int)) = (n : Int) := by
    rw [show (sw : Int) * (sh : Int) = ((sw * sh : Nat) : Int) by simp, hn]
    exact IntWalk.i64_in _ (by omega)
  have W2 := i32_wrap v hv
  have HV := Lib.hid hv
  obtain ⟨ar, har⟩ : ∃ ar, ((x1 : Int) - x0 + 1) * ((y1 : Int) - y0 + 1) = ar := ⟨_, rfl⟩
  rw [har] at HA harea
  clear hs hm hA hb hn har hv
  go_enter Tryz.func80, Tryz.ntmps80
  go_wp2_with fail
  refine (HS.out _ (HBK.out.alloc _)).mono ?_
  rintro e w1 ⟨rfl, hb1⟩
  have HB1 : Below (w.heap.size + 1) (w.alloc (.cells #[.int .i64 x0, .int .i64 y0, .int .i64 x1, .int .i64 y1] 107)) w1 := by simpa using hb1
  have hz1 : w.heap.size + 1 ≤ w1.heap.size := by have := HB1.size; simpa using this
  have BB := (HBK.out.alloc (.cells #[.int .i64 x0, .int .i64 y0, .int .i64 x1, .int .i64 y1] 107)).below HB1 (by omega)
  have BC := (Blk.new w 107 #[.int .i64 x0, .int .i64 y0, .int .i64 x1, .int .i64 y1]).below HB1 (by omega)
  have D : Box3 w1 b (.int .i64 sw) (.int .i64 sh) V := ⟨BB.cell 0, BB.cell 1, BB.cell 2⟩
  have C : Box4 w1 w.heap.size (.int .i64 x0) (.int .i64 y0) (.int .i64 x1) (.int .i64 y1) := ⟨BC.cell 0, BC.cell 1, BC.cell 2, BC.cell 3⟩
  have HB : Below w.heap.size w w1 := (new_bel w _).trans (HB1.mono (by omega))
  clear hb1 HS HB1
  go_wp2_with fail
  refine (HM.out _).mono ?_
  rintro e w2 ⟨rfl, rfl⟩
  obtain ⟨d0, d1, d2⟩ := id D
  have fz := BB.frozen 2
  go_wp2_with fail
  refine wp_region_noPanic ?_
  refine wp_region_held_drew (S := (fun W => (W.cell? ⟨w.heap.size, 0, none⟩ = some (.int .i64 x0) ∧ W.cell? ⟨w.heap.size, 1, none⟩ = some (.int .i64 y0) ∧ W.cell? ⟨w.heap.size, 2, none⟩ = some (.int .i64 x1) ∧ W.cell? ⟨w.heap.size, 3, none⟩ = some (.int .i64 y1)) ∧ (W.cell? ⟨b, 0, none⟩ = some (.int .i64 sw) ∧ W.cell? ⟨b, 1, none⟩ = some (.int .i64 sh) ∧ W.cell? ⟨b, 2, none⟩ = some V))) (by kernel_rfl) ?_ (fun hHeld => ?_)
  · exact ⟨C, D⟩
  refine wpAnyH_take (i := 0) (oi := _) (v := ?_) rfl (by kernel_rfl) (by kernel_rfl) (by kernel_rfl) (fun _ _ _ h => h) (Or.inl ⟨by rfl, ?_⟩) (by assumption) ?_
  rotate_left
  · (intro w hSw; (try dsimp only at hSw); go_simp; try with_reducible rfl)
  try simp only [List.getElem_toArray, List.getElem_cons_zero, List.getElem_cons_succ, Act.put, List.setIfInBounds_toArray, List.set_cons_zero, List.set_cons_succ]
  refine wpAnyH_take (i := 1) (oi := _) (v := ?_) rfl (by kernel_rfl) (by kernel_rfl) (by kernel_rfl) (fun _ _ _ h => h) (Or.inl ⟨by rfl, ?_⟩) (by assumption) ?_
  rotate_left
  · (intro w hSw; (try dsimp only at hSw); go_simp; try with_reducible rfl)
  try simp only [List.getElem_toArray, List.getElem_cons_zero, List.getElem_cons_succ, Act.put, List.setIfInBounds_toArray, List.set_cons_zero, List.set_cons_succ]
  refine wpAnyH_take (i := 2) (oi := _) (v := undef) rfl (by kernel_rfl) (by kernel_rfl) (by kernel_rfl) (fun _ _ _ h => h) (Or.inr ⟨by rfl, rfl⟩) (by assumption) ?_
  try simp only [List.getElem_toArray, List.getElem_cons_zero, List.getElem_cons_succ, Act.put, List.setIfInBounds_toArray, List.set_cons_zero, List.set_cons_succ]
  refine wpAnyH_take (i := 3) (oi := _) (v := undef) rfl (by kernel_rfl) (by kernel_rfl) (by kernel_rfl) (fun _ _ _ h => h) (Or.inr ⟨by rfl, rfl⟩) (by assumption) ?_
  try simp only [List.getElem_toArray, List.getElem_cons_zero, List.getElem_cons_succ, Act.put, List.setIfInBounds_toArray, List.set_cons_zero, List.set_cons_succ]
  refine wpAnyH_take (i := 4) (oi := _) (v := undef) rfl (by kernel_rfl) (by kernel_rfl) (by kernel_rfl) (fun _ _ _ h => h) (Or.inr ⟨by rfl, rfl⟩) (by assumption) ?_
  try simp only [List.getElem_toArray, List.getElem_cons_zero, List.getElem_cons_succ, Act.put, List.setIfInBounds_toArray, List.set_cons_zero, List.set_cons_succ]
  refine wpAnyH_take (i := 5) (oi := _) (v := undef) rfl (by kernel_rfl) (by kernel_rfl) (by kernel_rfl) (fun _ _ _ h => h) (Or.inr ⟨by rfl, rfl⟩) (by assumption) ?_
  try simp only [List.getElem_toArray, List.getElem_cons_zero, List.getElem_cons_succ, Act.put, List.setIfInBounds_toArray, List.set_cons_zero, List.set_cons_succ]
  refine wpAnyH_take (i := 6) (oi := _) (v := ?_) rfl (by kernel_rfl) (by kernel_rfl) (by kernel_rfl) (fun _ _ _ h => h) (Or.inl ⟨by rfl, ?_⟩) (by assumption) ?_
  rotate_left
  · (intro w hSw; (try dsimp only at hSw); go_simp; try with_reducible rfl)
  try simp only [List.getElem_toArray, List.getElem_cons_zero, List.getElem_cons_succ, Act.put, List.setIfInBounds_toArray, List.set_cons_zero, List.set_cons_succ]
  refine wpAnyH_take (i := 7) (oi := _) (v := ?_) rfl (by kernel_rfl) (by kernel_rfl) (by kernel_rfl) (fun _ _ _ h => h) (Or.inl ⟨by rfl, ?_⟩) (by assumption) ?_
  rotate_left
  · (intro w hSw; (try dsimp only at hSw); go_simp; try with_reducible rfl)
  try simp only [List.getElem_toArray, List.getElem_cons_zero, List.getElem_cons_succ, Act.put, List.setIfInBounds_toArray, List.set_cons_zero, List.set_cons_succ]
  refine wpAnyH_take (i := 8) (oi := _) (v := ?_) rfl (by kernel_rfl) (by kernel_rfl) (by kernel_rfl) (fun _ _ _ h => h) (Or.inl ⟨by rfl, ?_⟩) (by assumption) ?_
  rotate_left
  · (intro w hSw; (try dsimp only at hSw); go_simp; try with_reducible rfl)
  try simp only [List.getElem_toArray, List.getElem_cons_zero, List.getElem_cons_succ, Act.put, List.setIfInBounds_toArray, List.set_cons_zero, List.set_cons_succ]
  refine wpAnyH_take (i := 10) (oi := _) (v := ?_) rfl (by kernel_rfl) (by kernel_rfl) (by kernel_rfl) (fun _ _ _ h => h) (Or.inl ⟨by rfl, ?_⟩) (by assumption) ?_
  rotate_left
  · (intro w hSw; (try dsimp only at hSw); go_simp; try with_reducible rfl)
  try simp only [List.getElem_toArray, List.getElem_cons_zero, List.getElem_cons_succ, Act.put, List.setIfInBounds_toArray, List.set_cons_zero, List.set_cons_succ]
  refine wpAnyH_take (i := 11) (oi := _) (v := ?_) rfl (by kernel_rfl) (by kernel_rfl) (by kernel_rfl) (fun _ _ _ h => h) (Or.inl ⟨by rfl, ?_⟩) (by assumption) ?_
  rotate_left
  · (intro w hSw; (try dsimp only at hSw); go_simp; try with_reducible rfl)
  try simp only [List.getElem_toArray, List.getElem_cons_zero, List.getElem_cons_succ, Act.put, List.setIfInBounds_toArray, List.set_cons_zero, List.set_cons_succ]
  refine wpAnyH_take (i := 12) (oi := _) (v := ?_) rfl (by kernel_rfl) (by kernel_rfl) (by kernel_rfl) (fun _ _ _ h => h) (Or.inl ⟨by rfl, ?_⟩) (by assumption) ?_
  rotate_left
  · (intro w hSw; (try dsimp only at hSw); go_simp; try with_reducible rfl)
  try simp only [List.getElem_toArray, List.getElem_cons_zero, List.getElem_cons_succ, Act.put, List.setIfInBounds_toArray, List.set_cons_zero, List.set_cons_succ]
  refine wpAnyH_take (i := 13) (oi := _) (v := ?_) rfl (by kernel_rfl) (by kernel_rfl) (by kernel_rfl) (fun _ _ _ h => h) (Or.inl ⟨by rfl, ?_⟩) (by assumption) ?_
  rotate_left
  · (intro w hSw; (try dsimp only at hSw); go_simp; try with_reducible rfl)
  try simp only [List.getElem_toArray, List.getElem_cons_zero, List.getElem_cons_succ, Act.put, List.setIfInBounds_toArray, List.set_cons_zero, List.set_cons_succ]
  refine wpAnyH_take (i := 14) (oi := _) (v := ?_) rfl (by kernel_rfl) (by kernel_rfl) (by kernel_rfl) (fun _ _ _ h => h) (Or.inl ⟨by rfl, ?_⟩) (by assumption) ?_
  rotate_left
  · (intro w hSw; (try dsimp only at hSw); go_simp; try with_reducible rfl)
  try simp only [List.getElem_toArray, List.getElem_cons_zero, List.getElem_cons_succ, Act.put, List.setIfInBounds_toArray, List.set_cons_zero, List.set_cons_succ]
  refine wpAnyH_take (i := 15) (oi := _) (v := ?_) rfl (by kernel_rfl) (by kernel_rfl) (by kernel_rfl) (fun _ _ _ h => h) (Or.inl ⟨by rfl, ?_⟩) (by assumption) ?_
  rotate_left
  · (intro w hSw; (try dsimp only at hSw); go_simp; try with_reducible rfl)
  try simp only [List.getElem_toArray, List.getElem_cons_zero, List.getElem_cons_succ, Act.put, List.setIfInBounds_toArray, List.set_cons_zero, List.set_cons_succ]
  refine wpAnyH_take (i := 16) (oi := _) (v := ?_) rfl (by kernel_rfl) (by kernel_rfl) (by kernel_rfl) (fun _ _ _ h => h) (Or.inl ⟨by rfl, ?_⟩) (by assumption) ?_
  rotate_left
  · (intro w hSw; (try dsimp only at hSw); go_simp; try with_reducible rfl)
  try simp only [List.getElem_toArray, List.getElem_cons_zero, List.getElem_cons_succ, Act.put, List.setIfInBounds_toArray, List.set_cons_zero, List.set_cons_succ]
  refine wpAnyH_take (i := 17) (oi := _) (v := ?_) rfl (by kernel_rfl) (by kernel_rfl) (by kernel_rfl) (fun _ _ _ h => h) (Or.inl ⟨by rfl, ?_⟩) (by assumption) ?_
  rotate_left
  · (intro w hSw; (try dsimp only at hSw); go_simp; try with_reducible rfl)
  try simp only [List.getElem_toArray, List.getElem_cons_zero, List.getElem_cons_succ, Act.put, List.setIfInBounds_toArray, List.set_cons_zero, List.set_cons_succ]
  refine wpAnyH_take (i := 18) (oi := _) (v := ?_) rfl (by kernel_rfl) (by kernel_rfl) (by kernel_rfl) (fun _ _ _ h => h) (Or.inl ⟨by rfl, ?_⟩) (by assumption) ?_
  rotate_left
  · (intro w hSw; (try dsimp only at hSw); go_simp; try with_reducible rfl)
  try simp only [List.getElem_toArray, List.getElem_cons_zero, List.getElem_cons_succ, Act.put, List.setIfInBounds_toArray, List.set_cons_zero, List.set_cons_succ]
  refine wpAnyH_ready (rs := [9]) (by kernel_rfl) (by simp) ?_
  refine AllReadyH.cons (o := _) rfl (fun K hK => ?_) AllReadyH.nil
  go_simp
  refine (HA.out _).mono ?_
  rintro e w2 ⟨rfl, hb2⟩
  have HX : Below w1.heap.size w1 w2 := bel_trans_drew (Below.refl w1.heap.size w1) hb2 (Nat.le_refl _)
  refine hK.out _ _ ?_ (fun hHeld => ?_)
  · exact ⟨C.bel HX (by omega), D.bel HX (by omega)⟩
  clear hK K
  try simp only [List.getElem_toArray, List.getElem_cons_zero, List.getElem_cons_succ, Act.put, List.setIfInBounds_toArray, List.set_cons_zero, List.set_cons_succ]
  refine wpAnyH_take (i := 19) (oi := _) (v := ?_) rfl (by kernel_rfl) (by kernel_rfl) (by kernel_rfl) (fun _ _ _ h => h) (Or.inl ⟨by rfl, ?_⟩) (by assumption) ?_
  rotate_left
  · (intro w hSw; (try dsimp only at hSw); go_simp; try with_reducible rfl)
  try simp only [List.getElem_toArray, List.getElem_cons_zero, List.getElem_cons_succ, Act.put, List.setIfInBounds_toArray, List.set_cons_zero, List.set_cons_succ]
  refine wpAnyH_take (i := 20) (oi := _) (v := ?_) rfl (by kernel_rfl) (by kernel_rfl) (by kernel_rfl) (fun _ _ _ h => h) (Or.inl ⟨by rfl, ?_⟩) (by assumption) ?_
  rotate_left
  · (intro w hSw; (try dsimp only at hSw); go_simp; try with_reducible rfl)
  try simp only [List.getElem_toArray, List.getElem_cons_zero, List.getElem_cons_succ, Act.put, List.setIfInBounds_toArray, List.set_cons_zero, List.set_cons_succ]
  refine wpAnyH_done (by kernel_rfl) ?_ _
  refine NoPanic.normal ?_
  go_wp2_with fail
  have HB2 := bel_trans HB HX (Nat.le_refl _)
  refine (HR.out _ HB2).mono ?_
  rintro e w3 ⟨g, rfl, hS3, hT3, hg3⟩
  obtain ⟨V3, BB3, hV3, BG3⟩ := hS3.body
  subst hV3
  have BC3 := (BC.below HX (by omega)).touch hT3 (by omega)
  have hT03 : Touch (fun i => i = b) w w3 := (Touch.of_kept HB2).trans hT3
  have hmay := Lib.hid hS3.may
  rw [HN.out] at BB3 BG3 hmay ⊢
  have hz2 := HX.size
  have HBz := HB2
  have hz3 := hT3.size
  clear hS3 hT3 BC BB C D d0 d1 d2 fz HX HB HB2 HR HA HM
  have BB4 := BB3.alloc (.cells #[.slice (some ⟨g, 0, none⟩) n n] 162)
  have BC4 := BC3.alloc (.cells #[.slice (some ⟨g, 0, none⟩) n n] 162)
  have BG4 := BG3.alloc (.cells #[.slice (some ⟨g, 0, none⟩) n n] 162)
  have BP4 := Blk.new w3 162 #[.slice (some ⟨g, 0, none⟩) n n]
  have ne1 : b ≠ g := Blk.ne_ BB3 BG3 (by decide)
  have ne2 : w.heap.size ≠ g := Blk.ne_ BC3 BG3 (by decide)
  have ne3 : w3.heap.size ≠ g := Blk.ne_ BP4 BG4 (by decide)
  have hT4 : Touch (fun i => i = b) w (w3.alloc (.cells #[.slice (some ⟨g, 0, none⟩) n n] 162)) := hT03.alloc _
  have k1 : (w3.alloc (.cells #[.slice (some ⟨g, 0, none⟩) n n] 162)).cell? ⟨w.heap.size, 1, none⟩ = some (.int .i64 y0) := BC4.cell 1
  have H4 := Lib.hid (And.intro BB4 (And.intro BC4 (And.intro BG4 BP4)))
  clear BB3 BC3 BG3 BB4 BC4 BG4 BP4 hT03
  go_wp2_with fail
  obtain ⟨w4, hw4⟩ : ∃ w4, w4 = w3.alloc (.cells #[.slice (some ⟨g, 0, none⟩) n n] 162) := ⟨_, rfl⟩
  rw [← hw4] at H4 hT4 ⊢
  have hpb : w3.heap.size < w4.heap.size := by rw [hw4]; simp
  clear hw4 k1
  go_loopw [11] (fun t wr => ∃ y : Nat, y0 ≤ y ∧ y ≤ y1 + 1 ∧ t = .int .i64 y ∧ Hid (Blk wr g 21 (rowA n (fillT sw x0 y0 x1 v f y x0))) ∧ Touch (fun i => i = g) w4 wr) (fun t _ => (y1 + 1 : Nat) - (intOf t).toNat)
  case atStart =>
    refine ⟨y0, Nat.le_refl _, by omega, rfl, Lib.hid ?_, Touch.refl _ _⟩
    rw [rowA_congr (fun k _ => fillT_start k)]
    exact H4.out.2.2.1
  case round =>
    obtain ⟨y, yl, yu, rfl, HG, hT⟩ := hrel
    have BBr := H4.out.1.touch hT ne1
    have BCr := H4.out.2.1.touch hT ne2
    have BPr := H4.out.2.2.2.touch hT ne3
    have c0 : wr.cell? ⟨w.heap.size, 0, none⟩ = some (.int .i64 x0) := BCr.cell 0
    have c3 : wr.cell? ⟨w.heap.size, 3, none⟩ = some (.int .i64 y1) := BCr.cell 3
    have b0 : wr.cell? ⟨b, 0, none⟩ = some (.int .i64 sw) := BBr.cell 0
    have p0 : wr.cell? ⟨w3.heap.size, 0, none⟩ = some (.slice (some ⟨g, 0, none⟩) n n) := BPr.cell 0
    by_cases hlt : y ≤ y1
    · obtain ⟨m, hm⟩ : ∃ m, y * sw = m := ⟨_, rfl⟩
      have hmn : m + sw ≤ n := by
        rw [← hm, ← HN.out, Nat.mul_comm sw sh]
        have : (y + 1) * sw ≤ sh * sw := Nat.mul_le_mul_right _ (by omega)
        rw [Nat.succ_mul] at this
        exact this
      have W3 : IntKind.i64.wrap ((y : Int) * (sw : Int)) = (m : Int) := by
        rw [show (y : Int) * (sw : Int) = ((y * sw : Nat) : Int) by simp, hm]
        exact IntWalk.i64_in _ (by omega)
      have W4 : IntKind.i64.wrap ((y : Int) + 1) = (y : Int) + 1 := IntWalk.i64_in _ (by omega)
      have W5 : IntKind.i64.wrap (((y : Int) + 1) * (sw : Int)) = (m : Int) + (sw : Int) := by
        rw [show ((y : Int) + 1) * (sw : Int) = ((y * sw + sw : Nat) : Int) by simp [Int.add_mul], hm]
        rw [IntWalk.i64_in _ (by omega)]
        simp
      have HMM := Lib.hid hm
      have t1 : ((y : Int)) ≤ (y1 : Int) := by omega
      have q1 : (0 : Int) ≤ (m : Int) := by omega
      have q2 : (m : Int) ≤ (m : Int) + (sw : Int) := by omega
      have q3 : (m : Int) + (sw : Int) ≤ (n : Int) := by omega
      have q4 : ¬ n = m := by omega
      clear hm
      go_wp2_with fail
      go_region_held3 (fun W => W.cell? ⟨b, 0, none⟩ = some (.int .i64 sw) ∧ W.cell? ⟨w3.heap.size, 0, none⟩ = some (.slice (some ⟨g, 0, none⟩) n n)) (first | exact ⟨b0, p0⟩) (fail)
      go_wp2_with fail
      have eL : ((m : Int) + (sw : Int)).toNat - m = sw := by omega
      rw [eL]
      clear eL W3 W4 W5 q2 q3 q4 c0 c3 b0 p0 BBr BCr BPr
      go_loopw [13] (fun t wr2 => ∃ x : Nat, x0 ≤ x ∧ x ≤ x1 + 1 ∧ t = .int .i64 x ∧ Hid (Blk wr2 g 21 (rowA n (fillT sw x0 y0 x1 v f y x))) ∧ Touch (fun i => i = g) w4 wr2) (fun t _ => (x1 + 1 : Nat) - (intOf t).toNat)
      case atStart => exact ⟨x0, Nat.le_refl _, by omega, rfl, HG, hT.drew⟩
      case round =>
        obtain ⟨x, xl, xu, rfl, HG2, hT2⟩ := hrel
        have c2 : wr.cell? ⟨w.heap.size, 2, none⟩ = some (.int .i64 x1) := (H4.out.2.1.touch hT2 ne2).cell 2
        by_cases hlt2 : x ≤ x1
        · have t2 : (x : Int) ≤ (x1 : Int) := by omega
          have i1 : (x : Int) < (sw : Int) := by omega
          have i0 : (0 : Int) ≤ (x : Int) := by omega
          have sc : wr.cell? ⟨g, m + x, none⟩ = some (.int .i32 (fillT sw x0 y0 x1 v f y x (m + x))) := (HG2.out.cell (m + x)).trans (rowA_get _ _ _ (by omega))
          have sf : wr.frozen? ⟨g, m + x, none⟩ = false := HG2.out.frozen (m + x)
          go_wp2_with fail
          go_roundw
          case rel =>
            refine ⟨x + 1, by omega, by omega, by go_num, Lib.hid ?_, hT2.setCell (p := ⟨g, m + x, none⟩) (.inl rfl) _⟩
            have h := HG2.out.set_ (m + x) (.int .i32 v)
            rw [rowA_set, rowA_congr (h := fillT sw x0 y0 x1 v f y (x + 1)) (fun k _ => by rw [← HMM.out]; exact fillT_step (by omega) xl k)] at h
            exact h
          case measure =>
            simp only [intOf]
            omega
        · have t2 : decide ((x : Int) ≤ (x1 : Int)) = false := decide_eq_false (by omega)
          have e : x = x1 + 1 := by omega
          subst e
          go_wp2_with fail
          go_roundw
          case rel =>
            refine ⟨y + 1, by omega, by omega, by go_num, Lib.hid ?_, hT2⟩
            have h := HG2.out
            rw [rowA_congr (fun k _ => fillT_row yl k)] at h
            exact h
          case measure =>
            simp only [intOf]
            omega
    · have t1 : decide ((y : Int) ≤ (y1 : Int)) = false := decide_eq_false (by omega)
      have e : y = y1 + 1 := by omega
      subst e
      have HGK : Hid (Blk wr g 21 (rowA n (fillK sw x0 y0 x1 y1 v f))) := Lib.hid (by
        have h := HG.out
        rw [rowA_congr (fun k _ => fillT_end k)] at h
        exact h)
      have hmayK := Lib.hid (fillK_may (sw := sw) (x0 := x0) (y0 := y0) (x1 := x1) (y1 := y1) HV.out hmay.out)
      have hT5 : Touch (fun i => i = b ∨ some i = q) w wr := (hT4.mono (fun i _ e => .inl e)).trans' hT (fun i hi e => by
        subst e
        rcases hg3 with e | e
        · exact .inr e.symm
        · have := HBz.size; omega)
      have hq5 : q = some g ∨ w.heap.size ≤ g := by
        rcases hg3 with e | e
        · exact .inl e
        · have := HBz.size; exact .inr (by omega)
      obtain ⟨F, hF⟩ : ∃ F, F = fillK sw x0 y0 x1 y1 v f := ⟨_, rfl⟩
      rw [← hF] at HGK hmayK
      have HF := Lib.hid hF
      clear hF hmay HG W1
      have g0 : wr.cell? ⟨g, 0, none⟩ = some (.int .i32 (F 0)) := (HGK.out.cell 0).trans (rowA_get _ _ _ (by omega))
      have b2 : wr.cell? ⟨b, 2, none⟩ = some (.iface 162 (.slice (some ⟨g, 0, none⟩) n n)) := BBr.cell 2
      have f2 := BBr.frozen 2
      have HBr := Lib.hid BBr
      have hn0 : (0 : Int) < (n : Int) := by omega
      clear BBr BCr BPr
      go_wp2_with fail
      refine (ContainsRough w3.heap.size g n F _ p0 (by omega) n2 HGK.out).mono ?_
      rintro e w5 ⟨z, rfl, hz, rfl⟩
      have HZ := Lib.hid hz
      clear hz
      rcases z with _ | _
      · go_wp2_with fail
        go_ret
        show GivesFilled w b sw sh (fillK sw x0 y0 x1 y1 v f) q _ _
        rw [← HF.out]
        have hall : ∀ k, k < n → F k = F 0 := fun k hk => Classical.byContradiction fun hne => by
          have := HZ.out.2 ⟨k, hk, hne⟩
          cases this
        exact ⟨none, rfl, slab_flat HN.out s1 s2 s3 s4 hmayK.out hall (HBr.out.set_ 2 (.iface 149 (.int .i32 (F 0)))), hT5.setCell (p := ⟨b, 2, none⟩) (.inl (.inl rfl)) _, (fun _ h => by cases h)⟩
      · go_wp2_with fail
        go_ret
        show GivesFilled w b sw sh (fillK sw x0 y0 x1 y1 v f) q _ _
        rw [← HF.out]
        exact ⟨some g, rfl, slab_rough HN.out s1 s2 s3 s4 hmayK.out HBr.out HGK.out, hT5, (fun g' h => by injection h with h; subst h; exact hq5)⟩
end Go.Proofs.YtojlgfkjnkjcmaaGreatDoor

