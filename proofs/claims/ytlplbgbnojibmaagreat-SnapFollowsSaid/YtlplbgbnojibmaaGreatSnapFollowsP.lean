/-
  The statement SnapFollows: for every input the call returns true. The texts: GridBad, SnapE, SumP, SnapF, SnapG, SnapOpen, SnapH, SnapFollowsRow.
-/
import Derived.Test.YtlplbgbnojibmaaGreatPartQ
import Derived.Deep.DeepCutAuto
import Derived.Test.YtlplbgbnojibmaaGreatPartM
import Derived.Test.YtlplbgbnojibmaaGreatPartL
import Derived.ProofKit
import Derived.OpenShut
import Derived.Lib.SmallJoins
/-
  (*Grid).Fill of a value that can't be: nothing is filled.
-/
namespace Go.Proofs.YtlplbgbnojibmaaGreat
open Go.RowKit
open Sy
set_option linter.unusedVariables false
set_option linter.unusedSimpArgs false
set_option maxRecDepth 100000
set_option maxHeartbeats 4000000

theorem pMay (v : Int) (R : HP) : PureR Tryz.prog R 78 [.int .i64 v] (.bool (decide (MayV v))) :=
  PureR.of_below fun w _ => (may_any v w).mono fun e w' ⟨h1, h2⟩ => ⟨h1, by subst h2; exact Below.refl _ _⟩
theorem sSlCheck {R : HP} {b sw sh : Nat} {x0 y0 x1 y1 : Int} (hw : sw ≤ 16) (hh : sh ≤ 16) (hR : ∀ w, Sat R w → w.cell? ⟨b, 0, none⟩ = some (.int .i64 sw) ∧ w.cell? ⟨b, 1, none⟩ = some (.int .i64 sh)) : PureR Tryz.prog R 77 [.pointer (some ⟨b, 0, none⟩), rectV x0 y0 x1 y1] (.int .i64 (withinZ x0 y0 x1 y1 sw sh)) := by
  refine fn_of_run0 false Tryz.func77 rfl hmix rfl fun w0 => ?_
  conv => whnf
  refine ⟨trivial, RegAt.quiet hmix (by kernel_rfl) ?_⟩
  conv => whnf
  refine ⟨trivial, LoadAt.cell (.int .i64 sw) rfl rfl (fun w hw => (hR w hw).1) ?_⟩
  conv => whnf
  refine ⟨trivial, LoadAt.cell (.int .i64 sh) rfl rfl (fun w hw => (hR w hw).2) ?_⟩
  conv => whnf
  refine ⟨trivial, CallQ.pure (fun R' hR' => pWithin x0 y0 x1 y1 sw sh (by omega) (by omega) R') ?_⟩
  conv => whnf
  refine ⟨trivial, ?_⟩
  conv => whnf
  exact ⟨trivial, fin_pure rfl rfl⟩
theorem sSlFillNo {R : HP} {b sw sh x0 y0 x1 y1 : Nat} {v : Int} (hs : 1 ≤ sw ∧ sw ≤ 16 ∧ 1 ≤ sh ∧ sh ≤ 16) (hx : x0 ≤ x1) (hx' : x1 < sw) (hy : y0 ≤ y1) (hy' : y1 < sh) (hv : ¬ MayV v) (hR : ∀ w, Sat R w → w.cell? ⟨b, 0, none⟩ = some (.int .i64 sw) ∧ w.cell? ⟨b, 1, none⟩ = some (.int .i64 sh)) :
    PureR Tryz.prog R 44 [.pointer (some ⟨b, 0, none⟩), rectV x0 y0 x1 y1, .int .i64 v] (.int .i64 7) := by
  have hwi : withinZ x0 y0 x1 y1 sw sh = 0 := within_of ⟨by omega, by omega, by omega, by omega⟩ (by omega) (by omega) (by omega) (by omega) (by omega) (by omega)
  have hck := fun R' (h : ∀ w, Sat R' w → w.cell? ⟨b, 0, none⟩ = some (.int .i64 sw) ∧ w.cell? ⟨b, 1, none⟩ = some (.int .i64 sh)) => sSlCheck (x0 := x0) (y0 := y0) (x1 := x1) (y1 := y1) hs.2.1 hs.2.2.2 h
  rw [hwi] at hck
  have hm := fun R' => pMay v R'
  rw [decide_eq_false hv] at hm
  refine fn_of_run0 false Tryz.func44 rfl hmix rfl fun w0 => ?_
  conv => whnf
  refine ⟨trivial, CallAt.pure (fun R' hR' => hck R' (fun w s => hR w (hR' w s))) ?_⟩
  conv => whnf
  refine iff_f (by decide) ?_
  conv => whnf
  refine ⟨trivial, CallAt.pure (fun R' hR' => hm R') ?_⟩
  conv => whnf
  refine iff_t rfl ?_
  conv => whnf
  exact ⟨trivial, fin_pure rfl rfl⟩
theorem sFill_no {w : World} {b sw sh : Nat} {f : Nat → Int} {q : Option Nat} (hS : SlabIs w b sw sh f q) (x0 y0 x1 y1 : Nat) (v : Int) (hx : x0 ≤ x1) (hx' : x1 < sw) (hy : y0 ≤ y1) (hy' : y1 < sh) (hv : ¬ MayV v) :
    Calls Tryz.prog 44 #[.pointer (some ⟨b, 0, none⟩), rectV x0 y0 x1 y1, .int .i64 v] w fun e w' => e = .returned (.int .i64 7) ∧ Below w.heap.size w w' := by
  obtain ⟨V, hb, hl⟩ := hS.body
  exact PureR.below (args := [.pointer (some ⟨b, 0, none⟩), rectV x0 y0 x1 y1, .int .i64 v]) (sSlFillNo ⟨hS.w1, hS.w2, hS.h1, hS.h2⟩ hx hx' hy hy' hv fun w' s => ⟨was_cell s (hb.cell 0), was_cell s (hb.cell 1)⟩)

set_option maxHeartbeats 8000000 in
set_option maxRecDepth 100000 in
theorem gFill_no {w : World} {gb W H : Nat} {f : Nat → Nat → Int} {F : Nat → Prop} (hG : GridIs w gb W H f F) (r : Rc) (v : Int) (r1 : 0 ≤ r.x0) (r2 : r.x0 ≤ r.x1) (r3 : r.x1 < W) (r4 : 0 ≤ r.y0) (r5 : r.y0 ≤ r.y1) (r6 : r.y1 < H) (hv : ¬ MayV v) :
    Calls Tryz.prog 18 #[.pointer (some ⟨gb, 0, none⟩), rectV r.x0 r.y0 r.x1 r.y1, .int .i64 v] w (Ret (.int .i64 7) w) := by
  have hG' := hG
  obtain ⟨sb, sc, p, q, hO, hF⟩ := hG'
  have s2 := hO.w2
  have s4 := hO.h2
  have s1 := hO.w1
  have s3 := hO.h1
  have hhd := hO.head
  have hs := fun w' hb' => gcheck_any gb W H (.int .i64 (tiles W)) (.slice (some ⟨sb, 0, none⟩) (tiles W * tiles H) sc) r.x0 r.y0 r.x1 r.y1 w' hb' (by omega) (by omega) (by omega) (by omega)
  rw [show withinZ r.x0 r.y0 r.x1 r.y1 W H = 0 from within_of ⟨by omega, by omega, by omega, by omega⟩ r1 r2 r3 r4 r5 r6] at hs
  have HS := Lib.hid hs
  have HP := Lib.hid fun w' => Pieces_ok r w' ((right_iff _ _ _ _).2 ⟨by omega, by omega, by omega, by omega, by omega, by omega⟩)
  obtain ⟨L, hL⟩ : ∃ L, pcs r = L := ⟨_, rfl⟩
  have hpc := pc_ok r r1 r2 r4 r5
  have hnl : (pcs r).length ≤ 4096 := by
    rw [pcs_len]
    have e1 : pcY r ≤ 64 := by unfold pcY; omega
    have e2 : pcX r ≤ 64 := by unfold pcX; omega
    exact Nat.mul_le_mul e1 e2
  have hpos : 0 < (pcs r).length := by
    rw [pcs_len]
    exact Nat.mul_pos (by unfold pcY; omega) (by unfold pcX; omega)
  rw [hL] at HP hpc hnl hpos
  obtain ⟨n, hn⟩ : ∃ n, L.length = n := ⟨_, rfl⟩
  rw [hn] at hnl hpos
  have HN := Lib.hid hn
  have HPC := Lib.hid hpc
  have HV := Lib.hid hv
  have HG := Lib.hid hG
  have HPOS := Lib.hid hpos
  have HHD := Lib.hid hhd
  have hgl := hhd.lt
  obtain ⟨x0, y0, x1, y1⟩ := r
  simp only at *
  clear hs hpc hL hn hG hO hF hhd hv hpos
  go_enter Tryz.func18, Tryz.ntmps18
  go_wp2_with fail
  refine (HS.out _ (HHD.out.alloc _)).mono ?_
  rintro e w1 ⟨rfl, hb1⟩
  have hb1' : Below (w.heap.size + 1) (w.alloc (.cells #[.int .i64 x0, .int .i64 y0, .int .i64 x1, .int .i64 y1] 24)) w1 := by simpa using hb1
  obtain ⟨c0, c1, c2, c3⟩ := (box4_new w (.int .i64 x0) (.int .i64 y0) (.int .i64 x1) (.int .i64 y1) 24).bel hb1' (by omega)
  have HB : Below w.heap.size w w1 := (new_bel w _).trans (hb1'.mono (by omega))
  clear hb1 hb1' HS
  go_wp2_with fail
  refine (HP.out _).mono ?_
  rintro e w2 ⟨RA, rc, rfl, hrects, hb2⟩
  rw [HN.out] at hrects ⊢
  have HB2 : Below w.heap.size w w2 := bel_trans HB hb2 (Nat.le_refl _)
  have HR := Lib.hid (ownsRow_low hrects HB.size)
  clear hrects hb2 c0 c1 c2 c3 HP HB
  go_wp2_with fail
  go_loopw [22] (fun t wr => ∃ k : Nat, k ≤ 0 ∧ t = .int .i64 k ∧ Hid (Below w.heap.size w wr) ∧ Hid (wr.ownsRow w.heap.size 24 4 (.slice RA n rc) n (flt encR L))) (fun t _ => n - (intOf t).toNat)
  case atStart =>
    exact ⟨0, Nat.le_refl _, rfl, Lib.hid HB2, HR⟩
  case round =>
    obtain ⟨k, hk, rfl, HTr, HRr⟩ := hrel
    by_cases hlt : k < n
    · have hlt' : k < L.length := by rw [HN.out]; exact hlt
      obtain ⟨a0, b0, a1, b1, hpk, ha, hb, ea, eb, ha1, hb1⟩ := HPC.out k hlt'
      obtain ⟨g, hRA, hg1, hg2, hcell⟩ := own_thing (l := L) encR_len (by rw [HN.out]; exact HRr.out) hlt'
      subst hRA
      rw [hpk] at hcell
      have e0 : wr.cell? ⟨g, k * 4, none⟩ = some (.int .i64 a0) := hcell 0 _ rfl
      have e1 : wr.cell? ⟨g, k * 4 + 1, none⟩ = some (.int .i64 b0) := hcell 1 _ rfl
      have e2 : wr.cell? ⟨g, k * 4 + 2, none⟩ = some (.int .i64 a1) := hcell 2 _ rfl
      have e3 : wr.cell? ⟨g, k * 4 + 3, none⟩ = some (.int .i64 b1) := hcell 3 _ rfl
      have t1 : (k : Int) < (n : Int) := by omega
      have HPK := Lib.hid hpk
      have HEA := Lib.hid ea
      have HEB := Lib.hid eb
      clear hcell hpk ea eb
      go_upto_region 7 with fail
      obtain ⟨w5, hw5⟩ : ∃ w5, wr.alloc (.cells #[.int .i64 a0, .int .i64 b0, .int .i64 a1, .int .i64 b1] 24) = w5 := ⟨_, rfl⟩
      rw [hw5]
      have C : Box4 w5 wr.heap.size (.int .i64 a0) (.int .i64 b0) (.int .i64 a1) (.int .i64 b1) := by rw [← hw5]; exact box4_new wr _ _ _ _ _
      have hz5 : w5.heap.size = wr.heap.size + 1 := by rw [← hw5]; simp
      have HW5 := Lib.hid hw5
      have hB5 : wr.heap.size + 1 ≤ w5.heap.size := by omega
      have hb5 : wr.heap.size < wr.heap.size + 1 := by omega
      have HX0 := Below.refl (wr.heap.size + 1) w5
      have HZ5 := Lib.hid hz5
      clear hw5 hz5 e0 e1 e2 e3
      obtain ⟨A0, hA0⟩ : ∃ A0, a0 % 16 = A0 := ⟨_, rfl⟩
      obtain ⟨B0, hB0⟩ : ∃ B0, b0 % 16 = B0 := ⟨_, rfl⟩
      obtain ⟨A1, hA1⟩ : ∃ A1, a1 % 16 = A1 := ⟨_, rfl⟩
      obtain ⟨B1, hB1⟩ : ∃ B1, b1 % 16 = B1 := ⟨_, rfl⟩
      have HI0 := Lib.hid fun w' => inner_eq a0 b0 w'
      have HI1 := Lib.hid fun w' => inner_eq a1 b1 w'
      rw [hA0, hB0] at HI0
      rw [hA1, hB1] at HI1
      have HA0 := Lib.hid hA0
      have HB0 := Lib.hid hB0
      have HA1 := Lib.hid hA1
      have HB1 := Lib.hid hB1
      clear hA0 hB0 hA1 hB1
      go_cut [10, 11] (fun s10 s11 wx => ∃ ga gc : Nat, s10 = .pointer (some ⟨ga, 0, none⟩) ∧ s11 = .pointer (some ⟨gc, 0, none⟩) ∧ Blk wx ga 75 #[.int .i64 A0, .int .i64 B0] ∧ Blk wx gc 75 #[.int .i64 A1, .int .i64 B1] ∧ Below (wr.heap.size + 1) w5 wx)
      case first =>
        go_region_held3 (fun W' => (W'.cell? ⟨wr.heap.size, 0, none⟩ = some (.int .i64 a0) ∧ W'.cell? ⟨wr.heap.size, 1, none⟩ = some (.int .i64 b0) ∧ W'.cell? ⟨wr.heap.size, 2, none⟩ = some (.int .i64 a1) ∧ W'.cell? ⟨wr.heap.size, 3, none⟩ = some (.int .i64 b1)) ∧ Below (wr.heap.size + 1) w5 W')
          (first | exact ⟨C, HX0.drew⟩ | (refine keep_of ?_ hb5 C; repeat (first | exact HX0 | exact HX0.drew | refine Below.drew ?_ | refine bel_alloc' ?_ hB5 _ | refine bel_set' ?_ (by simp; omega) _)))
          ((go_at_call 42; (first | with_reducible refine (HI0.out _).mono ?_ | with_reducible refine (HI1.out _).mono ?_); rintro e w6 ⟨rfl, rfl⟩))
        all_goals
          go_wp2_with fail
          go_meet
          refine ⟨_, _, rfl, rfl, ?_, ?_, ?_⟩
          · repeat (first | (refine Blk.new' _ _ _ ?_; first | rfl | (simp; done)) | refine Blk.drew ?_ | refine Blk.alloc ?_ _)
          · repeat (first | (refine Blk.new' _ _ _ ?_; first | rfl | (simp; done)) | refine Blk.drew ?_ | refine Blk.alloc ?_ _)
          · repeat (first | exact HX0 | exact HX0.drew | refine Below.drew ?_ | refine bel_alloc' ?_ hB5 _ | refine bel_set' ?_ (by simp; omega) _)
      case rest =>
        obtain ⟨ga, gc, rfl, rfl, BA, BD, HBx⟩ := hcut
        have HBr : Below wr.heap.size wr wc := by
          have e := HW5.out
          have h5 : Below wr.heap.size wr w5 := by rw [← e]; exact new_bel wr _
          exact h5.trans (HBx.mono (by omega))
        have BR : Blk wc wr.heap.size 24 #[.int .i64 a0, .int .i64 b0, .int .i64 a1, .int .i64 b1] := by
          have e := HW5.out
          refine Blk.below ?_ HBx (by omega)
          rw [← e]; exact Blk.new wr _ _
        obtain ⟨sb2, sc2, p2, q2, hO2, hF2⟩ := (HG.out.kept HTr.out).kept HBr
        have hI := tile_of (show a0 < W by omega)
        have hJ := tile_of (show b0 < H by omega)
        have hK := idx_lt hI.1 hJ.1
        have hSL := hO2.slabs _ _ hI.1 hJ.1
        obtain ⟨cur, hcur, hptr⟩ := hO2.list
        have hat := (hcur.cell _).trans (hptr _ hK)
        have HSA := Lib.hid <| gslab_at gb sb2 _ sc2 (tiles W) a0 b0 _ _ _ _ #[] wc.drew hO2.head.drew hat rfl hK (tiles_le s2) (by omega) (by omega)
        have HFL := Lib.hid fun w' (hw' : Below wc.heap.size wc w') => sFill_no (hSL.kept hw') (a0 % 16) (b0 % 16) (a1 % 16) (b1 % 16) v (by have := HEA.out; omega) (by have := HEA.out; have h2 := (tile_of (show a1 < W by omega)).2; rw [← this] at h2; exact h2) (by have := HEB.out; omega) (by have := HEB.out; have h2 := (tile_of (show b1 < H by omega)).2; rw [← this] at h2; exact h2) HV.out
        rw [HA0.out, HB0.out, HA1.out, HB1.out] at HFL
        have HO2 := Lib.hid hO2
        have HF2 := Lib.hid hF2
        have HSL := Lib.hid hSL
        obtain ⟨K, hKe⟩ : ∃ K, b0 / 16 * tiles W + a0 / 16 = K := ⟨_, rfl⟩
        rw [hKe] at HSA HFL HSL
        obtain ⟨sl, hsl⟩ : ∃ sl, p2 K = sl := ⟨_, rfl⟩
        rw [hsl] at HSA HFL HSL
        obtain ⟨q0, hq0⟩ : ∃ q0, q2 K = q0 := ⟨_, rfl⟩
        rw [hq0] at HSL
        have HKE := Lib.hid hKe
        have HSE := Lib.hid hsl
        have HQE := Lib.hid hq0
        have SS : (wc.cell? ⟨wr.heap.size, 0, none⟩ = some (.int .i64 a0) ∧ wc.cell? ⟨wr.heap.size, 1, none⟩ = some (.int .i64 b0)) ∧ (wc.cell? ⟨ga, 0, none⟩ = some (.int .i64 A0) ∧ wc.cell? ⟨ga, 1, none⟩ = some (.int .i64 B0)) ∧ (wc.cell? ⟨gc, 0, none⟩ = some (.int .i64 A1) ∧ wc.cell? ⟨gc, 1, none⟩ = some (.int .i64 B1)) := ⟨⟨BR.cell 0, BR.cell 1⟩, ⟨BA.cell 0, BA.cell 1⟩, BD.cell 0, BD.cell 1⟩
        have HK8 : Hid (∀ m w7, Below (wc.drewN m).heap.size (wc.drewN m) w7 → (w7.cell? ⟨wr.heap.size, 0, none⟩ = some (.int .i64 a0) ∧ w7.cell? ⟨wr.heap.size, 1, none⟩ = some (.int .i64 b0)) ∧ (w7.cell? ⟨ga, 0, none⟩ = some (.int .i64 A0) ∧ w7.cell? ⟨ga, 1, none⟩ = some (.int .i64 B0)) ∧ (w7.cell? ⟨gc, 0, none⟩ = some (.int .i64 A1) ∧ w7.cell? ⟨gc, 1, none⟩ = some (.int .i64 B1))) := Lib.hid fun m w7 hT => by
          have r1 := (BR.drewN m).kept hT
          have r2 := (BA.drewN m).kept hT
          have r3 := (BD.drewN m).kept hT
          exact ⟨⟨r1.cell 0, r1.cell 1⟩, ⟨r2.cell 0, r2.cell 1⟩, r3.cell 0, r3.cell 1⟩
        clear hO2 hF2 hSL hcur hptr hat hKe hsl hq0 BR BA BD hI hJ hK HI0 HI1
        go_wp2_with fail
        go_region_held3 (fun W' => (W'.cell? ⟨wr.heap.size, 0, none⟩ = some (.int .i64 a0) ∧ W'.cell? ⟨wr.heap.size, 1, none⟩ = some (.int .i64 b0)) ∧ (W'.cell? ⟨ga, 0, none⟩ = some (.int .i64 A0) ∧ W'.cell? ⟨ga, 1, none⟩ = some (.int .i64 B0)) ∧ (W'.cell? ⟨gc, 0, none⟩ = some (.int .i64 A1) ∧ W'.cell? ⟨gc, 1, none⟩ = some (.int .i64 B1)))
          (first | exact SS | exact HK8.out _ _ hT7)
          (first | (go_at_call 43; refine HSA.out.mono ?_; rintro e w6 ⟨rfl, m, rfl⟩) | (go_at_call 44; refine (HFL.out _ (bel_drewN (Below.refl _ _) _)).mono ?_; rintro e w7 ⟨rfl, hT7⟩))
        go_wp2_with fail
        go_ret
        refine ⟨rfl, ?_⟩
        have h8 := bel_drewN (Below.refl wc.heap.size wc) (1 + m)
        exact bel_trans (bel_trans HTr.out HBr (Nat.le_refl _)) (bel_trans h8 hT7 (Nat.le_refl _)) (Nat.le_refl _)
    · exact absurd HPOS.out (by omega)
/-- a value that can't be: nothing is filled -/
theorem gFillNo {R : HP} {gb W H : Nat} {f : Nat → Nat → Int} {x0 y0 x1 y1 v : Int} (hR : ∀ w, Sat R w → GridAt w gb W H f) (hb : withinZ x0 y0 x1 y1 W H = 0) (hv : ¬ MayV v) : PureR Tryz.prog R 18 [.pointer (some ⟨gb, 0, none⟩), rectV x0 y0 x1 y1, .int .i64 v] (.int .i64 7) := by
  obtain ⟨_, a1, a2, a3, a4, a5, a6⟩ := within_zero hb
  exact PureR.of_below fun w s => by
    obtain ⟨sb, c, p, q, hO⟩ := hR w s
    exact gFill_no (F := fun _ => True) ⟨sb, c, p, q, hO, fun _ _ => ⟨trivial, fun _ _ => trivial⟩⟩ ⟨x0, y0, x1, y1⟩ v a1 a2 a3 a4 a5 a6 hv
/-- a rectangle that is none: nothing is filled -/
theorem gFillBad {R : HP} {gb W H : Nat} {f : Nat → Nat → Int} {x0 y0 x1 y1 v : Int} (hR : ∀ w, Sat R w → GridAt w gb W H f) (hb : withinZ x0 y0 x1 y1 W H ≠ 0) : PureR Tryz.prog R 18 [.pointer (some ⟨gb, 0, none⟩), rectV x0 y0 x1 y1, .int .i64 v] (.int .i64 (withinZ x0 y0 x1 y1 W H)) := by
  have hck := fun R' (h : ∀ w, Sat R' w → GridAt w gb W H f) => gCheckP (x0 := x0) (y0 := y0) (x1 := x1) (y1 := y1) h
  generalize withinZ x0 y0 x1 y1 W H = z at *
  refine fn_of_run0 false Tryz.func18 rfl hmix rfl fun w0 => ?_
  conv => whnf
  refine ⟨trivial, CallAt.pure (fun R' hR' => hck R' (fun w s => hR w (hR' w s))) ?_⟩
  conv => whnf
  refine iff_t (by simpa using hb) ?_
  conv => whnf
  exact ⟨trivial, fin_pure rfl rfl⟩
end Go.Proofs.YtlplbgbnojibmaaGreat

/-
  the document's land: Fill, Sum, Range; Live.Range.
-/
namespace Go.Proofs.YtlplbgbnojibmaaGreat
open Go.RowKit
open Sy
set_option linter.unusedVariables false
set_option linter.unusedSimpArgs false
set_option maxRecDepth 100000
set_option maxHeartbeats 4000000

theorem sMFillBad {R : HP} {A : Option Addr} {n c W H : Nat} {r : Q4} {v : Int} (hb : withinZ r.x0 r.y0 r.x1 r.y1 W H ≠ 0) :
    PureR Tryz.prog R 17 [modV W H A n c, r.v, .int .i64 v] (.tuple #[modV W H A n c, .int .i64 (withinZ r.x0 r.y0 r.x1 r.y1 W H)]) := by
  have hwi := fun R' => sRWithin r.x0 r.y0 r.x1 r.y1 W H R'
  generalize withinZ r.x0 r.y0 r.x1 r.y1 W H = z at *
  refine fn_of_run0 false Tryz.func17 rfl hmix rfl fun w0 => ?_
  refine run_cut fun B hB => ?_
  conv => whnf
  (rw [hB]; clear hB B; refine run_cut fun B hB => ?_; conv => whnf)
  refine ⟨trivial, CallAt.pure (fun R' hR' => hwi R') ?_⟩
  conv => whnf
  (rw [hB]; clear hB B; refine run_cut fun B hB => ?_; conv => whnf)
  refine iff_t (by simpa using hb) ?_
  conv => whnf
  exact ⟨trivial, fin_pure rfl rfl⟩
theorem sMFillNo {R : HP} {A : Option Addr} {n c W H : Nat} {r : Q4} {v : Int} (hb : withinZ r.x0 r.y0 r.x1 r.y1 W H = 0) (hv : ¬ MayV v) :
    PureR Tryz.prog R 17 [modV W H A n c, r.v, .int .i64 v] (.tuple #[modV W H A n c, .int .i64 7]) := by
  have hwi := fun R' => sRWithin r.x0 r.y0 r.x1 r.y1 W H R'
  rw [hb] at hwi
  have hm := fun R' => sMay v R'
  rw [decide_eq_false hv] at hm
  refine fn_of_run0 false Tryz.func17 rfl hmix rfl fun w0 => ?_
  refine run_cut fun B hB => ?_
  conv => whnf
  (rw [hB]; clear hB B; refine run_cut fun B hB => ?_; conv => whnf)
  refine ⟨trivial, CallAt.pure (fun R' hR' => hwi R') ?_⟩
  conv => whnf
  (rw [hB]; clear hB B; refine run_cut fun B hB => ?_; conv => whnf)
  refine iff_f rfl ?_
  conv => whnf
  (rw [hB]; clear hB B; refine run_cut fun B hB => ?_; conv => whnf)
  refine ⟨trivial, CallAt.pure (fun R' hR' => hm R') ?_⟩
  conv => whnf
  refine iff_t rfl ?_
  conv => whnf
  exact ⟨trivial, fin_pure rfl rfl⟩
theorem ints_getD {n : Nat} {l : List Int} (h : l.length = n) : ints l = ints (cellsL n fun k => l.getD k 0) := by
  apply List.ext_getElem?
  intro i
  by_cases c : i < n
  · rw [ints_cellsL c]
    simp [ints, List.getElem?_eq_getElem (show i < l.length by omega)]
  · rw [List.getElem?_eq_none (by simp [ints]; omega), List.getElem?_eq_none (by rw [ints_len]; omega)]
theorem sMFill {R : HP} {A : Option Addr} {n c W H : Nat} {l : List Int} {v : Int} (ha : Vs R A n l) (hn : W * H = n) (hW : W ≤ 1024) (hH : H ≤ 1024) (x0 y0 x1 y1 : Nat) (r2 : x0 ≤ x1) (r3 : x1 < W) (r5 : y0 ≤ y1) (r6 : y1 < H) (hv : MayV v) :
    FnR Tryz.prog R 17 [modV W H A n c, rectV x0 y0 x1 y1, .int .i64 v] [] fun r hs => ∃ B d, r = .tuple #[modV W H (some ⟨B, 0, none⟩) n d, .int .i64 0] ∧ hs = [rowH (.slice (some ⟨B, 0, none⟩) n d) n 2 1 (ints (cellsL n (fillK W x0 y0 x1 y1 v fun k => l.getD k 0)))] := by
  refine FnR.of_sat fun w hs => ?_
  obtain ⟨hl, sa⟩ := ha.spot hs
  clear hs sa
  have hn2 : n ≤ 1048576 := by rw [← hn]; exact Nat.mul_le_mul hW hH
  have hpos : 0 < n := by rw [← hn]; exact Nat.mul_pos (by omega) (by omega)
  have hw : withinZ x0 y0 x1 y1 W H = 0 := within_of ⟨by omega, by omega, by omega, by omega⟩ (by omega) (by omega) (by omega) (by omega) (by omega) (by omega)
  have hwi := fun R' => sRWithin x0 y0 x1 y1 W H R'
  rw [hw] at hwi
  have hm := fun R' => sMay v R'
  rw [decide_eq_true hv] at hm
  have hone : ∀ u ∈ ints l, u.oneCell' = true := ints_one l
  have hst := ints_getD hl
  have hs0 : ints (cellsL n (fillT W x0 y0 x1 v (fun k => l.getD k 0) (y0 + 0) x0)) = ints l := by
    rw [hst]
    exact congrArg ints (cellsL_eq.2 fun k _ => fillT_start k)
  refine fn_of_run0 false Tryz.func17 rfl hmix rfl fun w0 => ?_
  refine run_cut fun B hB => ?_
  conv => whnf
  (rw [hB]; clear hB B; refine run_cut fun B hB => ?_; conv => whnf)
  refine ⟨trivial, CallAt.pure (fun R' hR' => hwi R') ?_⟩
  conv => whnf
  (rw [hB]; clear hB B; refine run_cut fun B hB => ?_; conv => whnf)
  refine iff_f rfl ?_
  conv => whnf
  (rw [hB]; clear hB B; refine run_cut fun B hB => ?_; conv => whnf)
  refine ⟨trivial, CallAt.pure (fun R' hR' => hm R') ?_⟩
  conv => whnf
  refine iff_f rfl ?_
  conv => whnf
  (rw [hB]; clear hB B; refine run_cut fun B hB => ?_; conv => whnf)
  refine ⟨trivial, RegAt.trees [((Tr.T 0 (Tr.T 1 (Tr.T 2 (Tr.T 3 (Tr.T 5 (Tr.T 6 (Tr.C 4 (Tr.C 7 (Tr.T 8 (Tr.H 9 Tr.E)) 9 (Tr.H 7 (Tr.T 8 Tr.E))) 9 (Tr.H 4 (Tr.H 7 (Tr.T 8 Tr.E)))))))))), 10), ((Tr.H 10 Tr.E), 11)] hmix (by kernel_rfl) ?_⟩
  conv => whnf
  refine ⟨?_, ?_⟩
  · conv => whnf
    refine ⟨trivial, OpAt.lit [] 1 rfl rfl rfl rfl rfl (by decide) rfl rfl rfl (by simp) rfl (by decide) fun g => ?_⟩
    conv => whnf
    refine ⟨trivial, ⟨⟨rfl, rfl⟩, fun h s => sub_nil s⟩, ?_⟩
    conv => whnf
    refine ⟨?_, ?_⟩
    · conv => whnf
      refine ⟨trivial, OpAt.append1 (.slice (some ⟨g, 0, none⟩) 0 0) 0 1 8 [] (ints l) A n c [] rfl (fun h s => s) rfl rfl rfl rfl rfl rfl rfl rfl rfl (by decide) (fun w hw => ha w hw) hone (by simp only [maxLen]; omega) (by omega) (by omega) fun Q d => ?_⟩
      simp only [Nat.zero_add, List.nil_append]
      conv => whnf
      refine ⟨trivial, ⟨⟨rfl, rfl⟩, fun h s => sub_nil s⟩, ?_⟩
      conv => whnf
      refine ⟨trivial, ⟨⟨rfl, rfl⟩, fun h s => sub_nil s⟩, ?_⟩
      conv => whnf
      refine ⟨trivial, ?_⟩
      conv => whnf
      refine ⟨trivial, ?_⟩
      conv => whnf
      (rw [hB]; clear hB B; conv => whnf)
      refine ⟨trivial, LoopAt.heap (α := Nat) [2, 3, 4, 6, 9] (fun j => [(10, .v (.int .i64 ((y0 + j : Nat) : Int)))]) (fun j => [rowH (.slice (some ⟨Q, 0, none⟩) n d) n 2 1 (ints (cellsL n (fillT W x0 y0 x1 v (fun k => l.getD k 0) (y0 + j) x0)))]) (fun j => j ≤ y1 - y0 + 1) (fun j => y1 - y0 + 1 - j) 0 (Nat.zero_le _) rfl ⟨⟨rfl, rfl⟩, trivial⟩ ⟨⟨rfl, rfl⟩, ⟨rfl, rfl⟩, ⟨rfl, rfl⟩, ⟨rfl, rfl⟩, ⟨rfl, rfl⟩, trivial⟩ ⟨⟨rfl, rfl, rfl, rfl⟩, ⟨rfl, rfl, rfl, rfl⟩, ⟨rfl, rfl, rfl, rfl⟩, ⟨rfl, rfl, rfl, rfl⟩, trivial⟩ (fun h s => sub_same ?_) ?_⟩
      · rw [hs0]; exact s
      intro j hj
      conv => whnf
      refine ⟨fun h5 => ?_, fun h5 => ?_⟩
      · have g5 : y0 + j ≤ y1 := by have := of_decide_eq_true h5; omega
        conv => whnf
        refine ⟨trivial, LoopAt.heap (α := Nat) [2, 3, 4, 6, 9, 10] (fun i => [(11, .v (.int .i64 ((x0 + i : Nat) : Int)))]) (fun i => [rowH (.slice (some ⟨Q, 0, none⟩) n d) n 2 1 (ints (cellsL n (fillT W x0 y0 x1 v (fun k => l.getD k 0) (y0 + j) (x0 + i))))]) (fun i => i ≤ x1 - x0 + 1) (fun i => x1 - x0 + 1 - i) 0 (Nat.zero_le _) rfl ⟨⟨rfl, rfl⟩, trivial⟩ ⟨⟨rfl, rfl⟩, ⟨rfl, rfl⟩, ⟨rfl, rfl⟩, ⟨rfl, rfl⟩, ⟨rfl, rfl⟩, ⟨rfl, rfl⟩, trivial⟩ ⟨⟨rfl, rfl, rfl, rfl⟩, ⟨rfl, rfl, rfl, rfl⟩, ⟨rfl, rfl, rfl, rfl⟩, ⟨rfl, rfl, rfl, rfl⟩, trivial⟩ (fun h s => sub_same s) ?_⟩
        intro i hi
        conv => whnf
        refine ⟨fun h6 => ?_, fun h6 => ?_⟩
        · have g6 : x0 + i ≤ x1 := by have := of_decide_eq_true h6; omega
          have hx : x0 + i < W := by omega
          have hy : y0 + j < H := by omega
          have hidx := idx_lt hx hy
          rw [hn] at hidx
          have hmul : ((y0 + j : Nat) : Int) * (W : Int) = (((y0 + j) * W : Nat) : Int) := by simp
          have hput := cellsL_put (g := fillT W x0 y0 x1 v (fun k => l.getD k 0) (y0 + j) (x0 + i)) (g' := fillT W x0 y0 x1 v (fun k => l.getD k 0) (y0 + j) (x0 + i + 1)) (v := v) hidx (by rw [← fillT_step hx (by omega), if_pos rfl]) (fun m _ hm => by rw [← fillT_step hx (by omega), if_neg hm])
          have hadd : (((y0 + j : Nat) : Int) * (W : Int) + ((x0 + i : Nat) : Int)).toNat = (y0 + j) * W + (x0 + i) := by rw [hmul]; omega
          conv => whnf
          refine ⟨⟨⟨⟨trivial, by rw [hmul]; unfold rng; omega⟩, by rw [hmul]; unfold rng; omega⟩, by rw [hmul]; omega⟩, OpAt.store Q (0 + (((y0 + j : Nat) : Int) * (W : Int) + ((x0 + i : Nat) : Int)).toNat) (.int .i64 v) [] rfl (fun h s => s) rfl rfl rfl rfl rfl (by simp [Value.cells, Value.oneCell']) (fun h r => row_put (by rw [hadd]; simp [Value.cells]; omega) r) ?_⟩
          conv => whnf
          refine ⟨⟨trivial, by unfold rng; omega⟩, .mk (i + 1) (by omega) (by omega) (Le.of (Nat.le_of_ble_eq_true rfl) (Nat.zero_le _) ⟨⟨rfl, rfl⟩, ⟨rfl, rfl⟩, ⟨rfl, rfl⟩, ⟨rfl, rfl⟩, ⟨rfl, rfl⟩, ⟨rfl, rfl⟩, ⟨rfl, rfl⟩, trivial⟩ ⟨⟨rfl, rfl, rfl, rfl⟩, ⟨rfl, rfl, rfl, rfl⟩, ⟨rfl, rfl, rfl, rfl⟩, ⟨rfl, rfl, rfl, rfl⟩, trivial⟩ fun h s => sub_same ?_)⟩
          show sepL [rowH (.slice (some ⟨Q, 0, none⟩) n d) n 2 1 (ints (cellsL n (fillT W x0 y0 x1 v (fun k => l.getD k 0) (y0 + j) (x0 + i + 1))))] _ h
          rw [← hput]
          have e3 : (0 + (((y0 + j : Nat) : Int) * (W : Int) + ((x0 + i : Nat) : Int)).toNat) = (y0 + j) * W + (x0 + i) := by rw [hadd, Nat.zero_add]
          rw [← e3]
          exact s
        · have g6 : x0 + i = x1 + 1 := by have := of_decide_eq_false h6; omega
          have hrow : cellsL n (fillT W x0 y0 x1 v (fun k => l.getD k 0) (y0 + j) (x0 + i)) = cellsL n (fillT W x0 y0 x1 v (fun k => l.getD k 0) (y0 + (j + 1)) x0) := by
            rw [g6]
            exact cellsL_eq.2 fun k _ => fillT_row (by omega) k
          conv => whnf
          refine ⟨⟨trivial, by unfold rng; omega⟩, .mk (j + 1) (by omega) (by omega) (Le.of (Nat.le_of_ble_eq_true rfl) (Nat.zero_le _) ⟨⟨rfl, rfl⟩, ⟨rfl, rfl⟩, ⟨rfl, rfl⟩, ⟨rfl, rfl⟩, ⟨rfl, rfl⟩, ⟨rfl, rfl⟩, trivial⟩ ⟨⟨rfl, rfl, rfl, rfl⟩, ⟨rfl, rfl, rfl, rfl⟩, ⟨rfl, rfl, rfl, rfl⟩, ⟨rfl, rfl, rfl, rfl⟩, trivial⟩ fun h s => sub_same ?_)⟩
          show sepL [rowH (.slice (some ⟨Q, 0, none⟩) n d) n 2 1 (ints (cellsL n (fillT W x0 y0 x1 v (fun k => l.getD k 0) (y0 + (j + 1)) x0)))] _ h
          rw [← hrow]
          exact s
      · have g5 : y0 + j = y1 + 1 := by have := of_decide_eq_false h5; omega
        have hend : cellsL n (fillT W x0 y0 x1 v (fun k => l.getD k 0) (y0 + j) x0) = cellsL n (fillK W x0 y0 x1 y1 v (fun k => l.getD k 0)) := by
          rw [g5]
          exact cellsL_eq.2 fun k _ => fillT_end k
        conv => whnf
        rw [hend]
        exact ⟨trivial, .mk _ (fun w s => s) ⟨Q, d, rfl, rfl⟩⟩
    · conv => whnf
      refine ⟨trivial, ⟨⟨rfl, rfl⟩, fun h s => sub_nil s⟩, ?_⟩
      conv => whnf
      refine ⟨trivial, OpAt.append1 (.slice (some ⟨g, 0, none⟩) 0 0) 0 1 8 [] (ints l) A n c [] rfl (fun h s => s) rfl rfl rfl rfl rfl rfl rfl rfl rfl (by decide) (fun w hw => ha w hw) hone (by simp only [maxLen]; omega) (by omega) (by omega) fun Q d => ?_⟩
      simp only [Nat.zero_add, List.nil_append]
      conv => whnf
      refine ⟨trivial, ⟨⟨rfl, rfl⟩, fun h s => sub_nil s⟩, ?_⟩
      conv => whnf
      refine ⟨trivial, ?_⟩
      conv => whnf
      refine ⟨trivial, ?_⟩
      conv => whnf
      (rw [hB]; clear hB B; conv => whnf)
      refine ⟨trivial, LoopAt.heap (α := Nat) [2, 3, 4, 6, 9] (fun j => [(10, .v (.int .i64 ((y0 + j : Nat) : Int)))]) (fun j => [rowH (.slice (some ⟨Q, 0, none⟩) n d) n 2 1 (ints (cellsL n (fillT W x0 y0 x1 v (fun k => l.getD k 0) (y0 + j) x0)))]) (fun j => j ≤ y1 - y0 + 1) (fun j => y1 - y0 + 1 - j) 0 (Nat.zero_le _) rfl ⟨⟨rfl, rfl⟩, trivial⟩ ⟨⟨rfl, rfl⟩, ⟨rfl, rfl⟩, ⟨rfl, rfl⟩, ⟨rfl, rfl⟩, ⟨rfl, rfl⟩, trivial⟩ ⟨⟨rfl, rfl, rfl, rfl⟩, ⟨rfl, rfl, rfl, rfl⟩, ⟨rfl, rfl, rfl, rfl⟩, ⟨rfl, rfl, rfl, rfl⟩, trivial⟩ (fun h s => sub_same ?_) ?_⟩
      · rw [hs0]; exact s
      intro j hj
      conv => whnf
      refine ⟨fun h5 => ?_, fun h5 => ?_⟩
      · have g5 : y0 + j ≤ y1 := by have := of_decide_eq_true h5; omega
        conv => whnf
        refine ⟨trivial, LoopAt.heap (α := Nat) [2, 3, 4, 6, 9, 10] (fun i => [(11, .v (.int .i64 ((x0 + i : Nat) : Int)))]) (fun i => [rowH (.slice (some ⟨Q, 0, none⟩) n d) n 2 1 (ints (cellsL n (fillT W x0 y0 x1 v (fun k => l.getD k 0) (y0 + j) (x0 + i))))]) (fun i => i ≤ x1 - x0 + 1) (fun i => x1 - x0 + 1 - i) 0 (Nat.zero_le _) rfl ⟨⟨rfl, rfl⟩, trivial⟩ ⟨⟨rfl, rfl⟩, ⟨rfl, rfl⟩, ⟨rfl, rfl⟩, ⟨rfl, rfl⟩, ⟨rfl, rfl⟩, ⟨rfl, rfl⟩, trivial⟩ ⟨⟨rfl, rfl, rfl, rfl⟩, ⟨rfl, rfl, rfl, rfl⟩, ⟨rfl, rfl, rfl, rfl⟩, ⟨rfl, rfl, rfl, rfl⟩, trivial⟩ (fun h s => sub_same s) ?_⟩
        intro i hi
        conv => whnf
        refine ⟨fun h6 => ?_, fun h6 => ?_⟩
        · have g6 : x0 + i ≤ x1 := by have := of_decide_eq_true h6; omega
          have hx : x0 + i < W := by omega
          have hy : y0 + j < H := by omega
          have hidx := idx_lt hx hy
          rw [hn] at hidx
          have hmul : ((y0 + j : Nat) : Int) * (W : Int) = (((y0 + j) * W : Nat) : Int) := by simp
          have hput := cellsL_put (g := fillT W x0 y0 x1 v (fun k => l.getD k 0) (y0 + j) (x0 + i)) (g' := fillT W x0 y0 x1 v (fun k => l.getD k 0) (y0 + j) (x0 + i + 1)) (v := v) hidx (by rw [← fillT_step hx (by omega), if_pos rfl]) (fun m _ hm => by rw [← fillT_step hx (by omega), if_neg hm])
          have hadd : (((y0 + j : Nat) : Int) * (W : Int) + ((x0 + i : Nat) : Int)).toNat = (y0 + j) * W + (x0 + i) := by rw [hmul]; omega
          conv => whnf
          refine ⟨⟨⟨⟨trivial, by rw [hmul]; unfold rng; omega⟩, by rw [hmul]; unfold rng; omega⟩, by rw [hmul]; omega⟩, OpAt.store Q (0 + (((y0 + j : Nat) : Int) * (W : Int) + ((x0 + i : Nat) : Int)).toNat) (.int .i64 v) [] rfl (fun h s => s) rfl rfl rfl rfl rfl (by simp [Value.cells, Value.oneCell']) (fun h r => row_put (by rw [hadd]; simp [Value.cells]; omega) r) ?_⟩
          conv => whnf
          refine ⟨⟨trivial, by unfold rng; omega⟩, .mk (i + 1) (by omega) (by omega) (Le.of (Nat.le_of_ble_eq_true rfl) (Nat.zero_le _) ⟨⟨rfl, rfl⟩, ⟨rfl, rfl⟩, ⟨rfl, rfl⟩, ⟨rfl, rfl⟩, ⟨rfl, rfl⟩, ⟨rfl, rfl⟩, ⟨rfl, rfl⟩, trivial⟩ ⟨⟨rfl, rfl, rfl, rfl⟩, ⟨rfl, rfl, rfl, rfl⟩, ⟨rfl, rfl, rfl, rfl⟩, ⟨rfl, rfl, rfl, rfl⟩, trivial⟩ fun h s => sub_same ?_)⟩
          show sepL [rowH (.slice (some ⟨Q, 0, none⟩) n d) n 2 1 (ints (cellsL n (fillT W x0 y0 x1 v (fun k => l.getD k 0) (y0 + j) (x0 + i + 1))))] _ h
          rw [← hput]
          have e3 : (0 + (((y0 + j : Nat) : Int) * (W : Int) + ((x0 + i : Nat) : Int)).toNat) = (y0 + j) * W + (x0 + i) := by rw [hadd, Nat.zero_add]
          rw [← e3]
          exact s
        · have g6 : x0 + i = x1 + 1 := by have := of_decide_eq_false h6; omega
          have hrow : cellsL n (fillT W x0 y0 x1 v (fun k => l.getD k 0) (y0 + j) (x0 + i)) = cellsL n (fillT W x0 y0 x1 v (fun k => l.getD k 0) (y0 + (j + 1)) x0) := by
            rw [g6]
            exact cellsL_eq.2 fun k _ => fillT_row (by omega) k
          conv => whnf
          refine ⟨⟨trivial, by unfold rng; omega⟩, .mk (j + 1) (by omega) (by omega) (Le.of (Nat.le_of_ble_eq_true rfl) (Nat.zero_le _) ⟨⟨rfl, rfl⟩, ⟨rfl, rfl⟩, ⟨rfl, rfl⟩, ⟨rfl, rfl⟩, ⟨rfl, rfl⟩, ⟨rfl, rfl⟩, trivial⟩ ⟨⟨rfl, rfl, rfl, rfl⟩, ⟨rfl, rfl, rfl, rfl⟩, ⟨rfl, rfl, rfl, rfl⟩, ⟨rfl, rfl, rfl, rfl⟩, trivial⟩ fun h s => sub_same ?_)⟩
          show sepL [rowH (.slice (some ⟨Q, 0, none⟩) n d) n 2 1 (ints (cellsL n (fillT W x0 y0 x1 v (fun k => l.getD k 0) (y0 + (j + 1)) x0)))] _ h
          rw [← hrow]
          exact s
      · have g5 : y0 + j = y1 + 1 := by have := of_decide_eq_false h5; omega
        have hend : cellsL n (fillT W x0 y0 x1 v (fun k => l.getD k 0) (y0 + j) x0) = cellsL n (fillK W x0 y0 x1 y1 v (fun k => l.getD k 0)) := by
          rw [g5]
          exact cellsL_eq.2 fun k _ => fillT_end k
        conv => whnf
        rw [hend]
        exact ⟨trivial, .mk _ (fun w s => s) ⟨Q, d, rfl, rfl⟩⟩
  · conv => whnf
    refine ⟨trivial, ⟨⟨rfl, rfl⟩, fun h s => sub_nil s⟩, ?_⟩
    conv => whnf
    refine ⟨trivial, OpAt.lit [] 1 rfl rfl rfl rfl rfl (by decide) rfl rfl rfl (by simp) rfl (by decide) fun g => ?_⟩
    conv => whnf
    refine ⟨trivial, ⟨⟨rfl, rfl⟩, fun h s => sub_nil s⟩, ?_⟩
    conv => whnf
    refine ⟨trivial, OpAt.append1 (.slice (some ⟨g, 0, none⟩) 0 0) 0 1 8 [] (ints l) A n c [] rfl (fun h s => s) rfl rfl rfl rfl rfl rfl rfl rfl rfl (by decide) (fun w hw => ha w hw) hone (by simp only [maxLen]; omega) (by omega) (by omega) fun Q d => ?_⟩
    simp only [Nat.zero_add, List.nil_append]
    conv => whnf
    refine ⟨trivial, ⟨⟨rfl, rfl⟩, fun h s => sub_nil s⟩, ?_⟩
    conv => whnf
    refine ⟨trivial, ?_⟩
    conv => whnf
    refine ⟨trivial, ?_⟩
    conv => whnf
    (rw [hB]; clear hB B; conv => whnf)
    refine ⟨trivial, LoopAt.heap (α := Nat) [2, 3, 4, 6, 9] (fun j => [(10, .v (.int .i64 ((y0 + j : Nat) : Int)))]) (fun j => [rowH (.slice (some ⟨Q, 0, none⟩) n d) n 2 1 (ints (cellsL n (fillT W x0 y0 x1 v (fun k => l.getD k 0) (y0 + j) x0)))]) (fun j => j ≤ y1 - y0 + 1) (fun j => y1 - y0 + 1 - j) 0 (Nat.zero_le _) rfl ⟨⟨rfl, rfl⟩, trivial⟩ ⟨⟨rfl, rfl⟩, ⟨rfl, rfl⟩, ⟨rfl, rfl⟩, ⟨rfl, rfl⟩, ⟨rfl, rfl⟩, trivial⟩ ⟨⟨rfl, rfl, rfl, rfl⟩, ⟨rfl, rfl, rfl, rfl⟩, ⟨rfl, rfl, rfl, rfl⟩, ⟨rfl, rfl, rfl, rfl⟩, trivial⟩ (fun h s => sub_same ?_) ?_⟩
    · rw [hs0]; exact s
    intro j hj
    conv => whnf
    refine ⟨fun h5 => ?_, fun h5 => ?_⟩
    · have g5 : y0 + j ≤ y1 := by have := of_decide_eq_true h5; omega
      conv => whnf
      refine ⟨trivial, LoopAt.heap (α := Nat) [2, 3, 4, 6, 9, 10] (fun i => [(11, .v (.int .i64 ((x0 + i : Nat) : Int)))]) (fun i => [rowH (.slice (some ⟨Q, 0, none⟩) n d) n 2 1 (ints (cellsL n (fillT W x0 y0 x1 v (fun k => l.getD k 0) (y0 + j) (x0 + i))))]) (fun i => i ≤ x1 - x0 + 1) (fun i => x1 - x0 + 1 - i) 0 (Nat.zero_le _) rfl ⟨⟨rfl, rfl⟩, trivial⟩ ⟨⟨rfl, rfl⟩, ⟨rfl, rfl⟩, ⟨rfl, rfl⟩, ⟨rfl, rfl⟩, ⟨rfl, rfl⟩, ⟨rfl, rfl⟩, trivial⟩ ⟨⟨rfl, rfl, rfl, rfl⟩, ⟨rfl, rfl, rfl, rfl⟩, ⟨rfl, rfl, rfl, rfl⟩, ⟨rfl, rfl, rfl, rfl⟩, trivial⟩ (fun h s => sub_same s) ?_⟩
      intro i hi
      conv => whnf
      refine ⟨fun h6 => ?_, fun h6 => ?_⟩
      · have g6 : x0 + i ≤ x1 := by have := of_decide_eq_true h6; omega
        have hx : x0 + i < W := by omega
        have hy : y0 + j < H := by omega
        have hidx := idx_lt hx hy
        rw [hn] at hidx
        have hmul : ((y0 + j : Nat) : Int) * (W : Int) = (((y0 + j) * W : Nat) : Int) := by simp
        have hput := cellsL_put (g := fillT W x0 y0 x1 v (fun k => l.getD k 0) (y0 + j) (x0 + i)) (g' := fillT W x0 y0 x1 v (fun k => l.getD k 0) (y0 + j) (x0 + i + 1)) (v := v) hidx (by rw [← fillT_step hx (by omega), if_pos rfl]) (fun m _ hm => by rw [← fillT_step hx (by omega), if_neg hm])
        have hadd : (((y0 + j : Nat) : Int) * (W : Int) + ((x0 + i : Nat) : Int)).toNat = (y0 + j) * W + (x0 + i) := by rw [hmul]; omega
        conv => whnf
        refine ⟨⟨⟨⟨trivial, by rw [hmul]; unfold rng; omega⟩, by rw [hmul]; unfold rng; omega⟩, by rw [hmul]; omega⟩, OpAt.store Q (0 + (((y0 + j : Nat) : Int) * (W : Int) + ((x0 + i : Nat) : Int)).toNat) (.int .i64 v) [] rfl (fun h s => s) rfl rfl rfl rfl rfl (by simp [Value.cells, Value.oneCell']) (fun h r => row_put (by rw [hadd]; simp [Value.cells]; omega) r) ?_⟩
        conv => whnf
        refine ⟨⟨trivial, by unfold rng; omega⟩, .mk (i + 1) (by omega) (by omega) (Le.of (Nat.le_of_ble_eq_true rfl) (Nat.zero_le _) ⟨⟨rfl, rfl⟩, ⟨rfl, rfl⟩, ⟨rfl, rfl⟩, ⟨rfl, rfl⟩, ⟨rfl, rfl⟩, ⟨rfl, rfl⟩, ⟨rfl, rfl⟩, trivial⟩ ⟨⟨rfl, rfl, rfl, rfl⟩, ⟨rfl, rfl, rfl, rfl⟩, ⟨rfl, rfl, rfl, rfl⟩, ⟨rfl, rfl, rfl, rfl⟩, trivial⟩ fun h s => sub_same ?_)⟩
        show sepL [rowH (.slice (some ⟨Q, 0, none⟩) n d) n 2 1 (ints (cellsL n (fillT W x0 y0 x1 v (fun k => l.getD k 0) (y0 + j) (x0 + i + 1))))] _ h
        rw [← hput]
        have e3 : (0 + (((y0 + j : Nat) : Int) * (W : Int) + ((x0 + i : Nat) : Int)).toNat) = (y0 + j) * W + (x0 + i) := by rw [hadd, Nat.zero_add]
        rw [← e3]
        exact s
      · have g6 : x0 + i = x1 + 1 := by have := of_decide_eq_false h6; omega
        have hrow : cellsL n (fillT W x0 y0 x1 v (fun k => l.getD k 0) (y0 + j) (x0 + i)) = cellsL n (fillT W x0 y0 x1 v (fun k => l.getD k 0) (y0 + (j + 1)) x0) := by
          rw [g6]
          exact cellsL_eq.2 fun k _ => fillT_row (by omega) k
        conv => whnf
        refine ⟨⟨trivial, by unfold rng; omega⟩, .mk (j + 1) (by omega) (by omega) (Le.of (Nat.le_of_ble_eq_true rfl) (Nat.zero_le _) ⟨⟨rfl, rfl⟩, ⟨rfl, rfl⟩, ⟨rfl, rfl⟩, ⟨rfl, rfl⟩, ⟨rfl, rfl⟩, ⟨rfl, rfl⟩, trivial⟩ ⟨⟨rfl, rfl, rfl, rfl⟩, ⟨rfl, rfl, rfl, rfl⟩, ⟨rfl, rfl, rfl, rfl⟩, ⟨rfl, rfl, rfl, rfl⟩, trivial⟩ fun h s => sub_same ?_)⟩
        show sepL [rowH (.slice (some ⟨Q, 0, none⟩) n d) n 2 1 (ints (cellsL n (fillT W x0 y0 x1 v (fun k => l.getD k 0) (y0 + (j + 1)) x0)))] _ h
        rw [← hrow]
        exact s
    · have g5 : y0 + j = y1 + 1 := by have := of_decide_eq_false h5; omega
      have hend : cellsL n (fillT W x0 y0 x1 v (fun k => l.getD k 0) (y0 + j) x0) = cellsL n (fillK W x0 y0 x1 y1 v (fun k => l.getD k 0)) := by
        rw [g5]
        exact cellsL_eq.2 fun k _ => fillT_end k
      conv => whnf
      rw [hend]
      exact ⟨trivial, .mk _ (fun w s => s) ⟨Q, d, rfl, rfl⟩⟩
end Go.Proofs.YtlplbgbnojibmaaGreat

/-
  The sum of a list of a rectangle's values is the rectangle's sum.
-/
namespace Go.Proofs.YtlplbgbnojibmaaGreat
open Go.RowKit
open Sy
set_option linter.unusedVariables false
set_option linter.unusedSimpArgs false
set_option maxRecDepth 100000
set_option maxHeartbeats 4000000

def lsum : List Int → Int
  | [] => 0
  | a :: l => a + lsum l
theorem lsum_append (a b : List Int) : lsum (a ++ b) = lsum a + lsum b := by
  induction a with
  | nil => simp [lsum]
  | cons x a ih => simp [lsum, ih]; omega
theorem lsum_take {l : List Int} {i : Nat} (h : i < l.length) : lsum (l.take (i + 1)) = lsum (l.take i) + l[i] := by
  rw [List.take_succ_eq_append_getElem h, lsum_append]
  simp [lsum]
theorem lsum_bound {l : List Int} {M : Int} (hM : 0 ≤ M) (h : ∀ v ∈ l, -M ≤ v ∧ v ≤ M) : -(M * l.length) ≤ lsum l ∧ lsum l ≤ M * l.length := by
  induction l with
  | nil => simp [lsum]
  | cons a l ih =>
    have h1 := h a (by simp)
    have h2 := ih fun v hv => h v (by simp [hv])
    have e : M * ((a :: l).length : Int) = M * l.length + M := by
      rw [List.length_cons, Int.natCast_add, Int.mul_add]; simp
    simp only [lsum]
    omega
theorem lsum_vRow {W x0 y : Nat} {f : Nat → Nat → Int} : ∀ i, x0 + i ≤ W → lsum (vRow f x0 y i) = dot W (fun a => x0 ≤ a ∧ a < x0 + i) fun a => f a y
  | 0, _ => by
    rw [dot_none (fun a _ h => by omega)]
    simp [vRow, lsum]
  | i + 1, h => by
    have e : lsum (vRow f x0 y (i + 1)) = lsum (vRow f x0 y i) + f (x0 + i) y := by
      rw [vRow_succ, lsum_append]; simp [lsum]
    rw [e, lsum_vRow (W := W) i (by omega), dot_or (C := fun a => x0 ≤ a ∧ a < x0 + (i + 1)) (A := fun a => x0 ≤ a ∧ a < x0 + i) (B := fun a => a = x0 + i) (fun a _ => by omega) (fun a _ => by omega), dot_one (A := fun a => a = x0 + i) (k := x0 + i) (by omega) (fun a _ => Iff.rfl)]
theorem lsum_vRows {W H x0 y0 nx : Nat} {f : Nat → Nat → Int} (hx : x0 + nx ≤ W) : ∀ j, y0 + j ≤ H → lsum (vRows f x0 nx y0 j) = dot H (fun b => y0 ≤ b ∧ b < y0 + j) fun b => dot W (fun a => x0 ≤ a ∧ a < x0 + nx) fun a => f a b
  | 0, _ => by
    rw [dot_none (fun a _ h => by omega)]
    simp [vRows, lsum]
  | j + 1, h => by
    rw [vRows_succ, lsum_append, lsum_vRows (H := H) hx j (by omega), lsum_vRow nx hx, dot_or (C := fun b => y0 ≤ b ∧ b < y0 + (j + 1)) (A := fun b => y0 ≤ b ∧ b < y0 + j) (B := fun b => b = y0 + j) (fun a _ => by omega) (fun a _ => by omega), dot_one (A := fun b => b = y0 + j) (k := y0 + j) (by omega) (fun a _ => Iff.rfl)]
theorem lsum_RS {W H x0 y0 x1 y1 : Nat} {f : Nat → Nat → Int} (hx : x0 ≤ x1) (hx1 : x1 < W) (hy : y0 ≤ y1) (hy1 : y1 < H) : lsum (vRows f x0 (x1 - x0 + 1) y0 (y1 - y0 + 1)) = RS W H f x0 y0 x1 y1 := by
  rw [lsum_vRows (W := W) (H := H) (by omega) _ (by omega)]
  unfold RS
  exact dot_congr (fun b _ => by omega) fun b _ _ => dot_congr (fun a _ => by omega) fun a _ _ => rfl
end Go.Proofs.YtlplbgbnojibmaaGreat

/-
  the document's sums and ranges; Live.Range.
-/
namespace Go.Proofs.YtlplbgbnojibmaaGreat
open Go.RowKit
open Sy
set_option linter.unusedVariables false
set_option linter.unusedSimpArgs false
set_option maxRecDepth 100000
set_option maxHeartbeats 4000000

theorem sRValBad {R : HP} {A : Option Addr} {n c W H : Nat} {r : Q4} (hb : withinZ r.x0 r.y0 r.x1 r.y1 W H ≠ 0) :
    PureR Tryz.prog R 21 [modV W H A n c, r.v] (.tuple #[.slice none 0 0, .int .i64 (withinZ r.x0 r.y0 r.x1 r.y1 W H)]) := by
  have hwi := fun R' => sRWithin r.x0 r.y0 r.x1 r.y1 W H R'
  generalize withinZ r.x0 r.y0 r.x1 r.y1 W H = z at *
  refine fn_of_run0 false Tryz.func21 rfl hmix rfl fun w0 => ?_
  conv => whnf
  refine ⟨trivial, CallAt.pure (fun R' hR' => hwi R') ?_⟩
  conv => whnf
  refine iff_t (by simpa using hb) ?_
  conv => whnf
  exact ⟨trivial, fin_pure rfl rfl⟩
theorem sRValues_g {R : HP} {A : Option Addr} {n c W H : Nat} {l : List Int} (ha : Vs R A n l) (hn : W * H = n) (hW : W ≤ 1024) (hH : H ≤ 1024) (x0 y0 x1 y1 : Nat) (r2 : x0 ≤ x1) (r3 : x1 < W) (r5 : y0 ≤ y1) (r6 : y1 < H) :
    FnR Tryz.prog R 21 [modV W H A n c, rectV x0 y0 x1 y1] [] fun r hs => ∃ g d, r = .tuple #[.slice (some ⟨g, 0, none⟩) ((y1 - y0 + 1) * (x1 - x0 + 1)) d, .int .i64 0] ∧
      hs = [rowH (.slice (some ⟨g, 0, none⟩) ((y1 - y0 + 1) * (x1 - x0 + 1)) d) ((y1 - y0 + 1) * (x1 - x0 + 1)) 2 1 (ints (vRows (gv W l) x0 (x1 - x0 + 1) y0 (y1 - y0 + 1)))] := by
  have hlen := vRows_len (gv W l) x0 (x1 - x0 + 1) y0 (y1 - y0 + 1)
  have h := sRValues ha hn hW hH x0 y0 x1 y1 r2 r3 r5 r6 (c := c)
  rw [hlen] at h
  intro w s
  refine (h w s).mono ?_
  rintro e w' ⟨r, hs, rfl, ⟨A, d, rfl, rfl⟩, s', hw⟩
  obtain ⟨g, rfl, _⟩ := rowH_at (Sat.left s') (Nat.mul_pos (by omega) (by omega))
  exact ⟨_, _, rfl, ⟨g, d, rfl, rfl⟩, s', hw⟩
theorem sR19Sum {R : HP} {A : Option Addr} {n c W H : Nat} {l : List Int} (ha : Vs R A n l) (hn : W * H = n) (hW : W ≤ 1024) (hH : H ≤ 1024) (hf : Far W H (gv W l)) (r : Q4) :
    PureR Tryz.prog R 15 [modV W H A n c, r.v] (.tuple #[.int .i64 (sumZ W H (gv W l) r).1, .int .i64 (sumZ W H (gv W l) r).2]) := by
  have hwi := fun R' => sRWithin r.x0 r.y0 r.x1 r.y1 W H R'
  by_cases h : withinZ r.x0 r.y0 r.x1 r.y1 W H = 0
  · unfold sumZ
    rw [if_pos h]
    rw [h] at hwi
    obtain ⟨x0, y0, x1, y1, rfl, h1, h2, h3, h4⟩ := within_q h
    have hS := lsum_RS (f := gv W l) h1 h2 h3 h4
    simp only [Int.toNat_natCast]
    rw [← hS]
    have hval := fun R' (h : ∀ w, Sat R' w → Sat R w) => sRValues_g (R := R') (c := c) (ha.mono h) hn hW hH x0 y0 x1 y1 h1 h2 h3 h4
    have hlen := vRows_len (gv W l) x0 (x1 - x0 + 1) y0 (y1 - y0 + 1)
    have hN : (y1 - y0 + 1) * (x1 - x0 + 1) ≤ 1024 * 1024 := Nat.mul_le_mul (by omega) (by omega)
    have hbd : ∀ v ∈ vRows (gv W l) x0 (x1 - x0 + 1) y0 (y1 - y0 + 1), (-1099511627776 : Int) ≤ v ∧ v ≤ 1099511627776 := by
      intro v hv
      unfold vRows vRow at hv
      obtain ⟨j, hj, hv⟩ := List.mem_flatMap.1 hv
      obtain ⟨i, hi, rfl⟩ := List.mem_map.1 hv
      have := List.mem_range.1 hj
      have := List.mem_range.1 hi
      exact hf _ _ (by omega) (by omega)
    generalize vRows (gv W l) x0 (x1 - x0 + 1) y0 (y1 - y0 + 1) = V at *
    generalize (y1 - y0 + 1) * (x1 - x0 + 1) = N at *
    have hsb : ∀ i, i ≤ N → -1152921504606846976 ≤ lsum (V.take i) ∧ lsum (V.take i) ≤ 1152921504606846976 := fun i hi => by
      have h := lsum_bound (l := V.take i) (M := 1099511627776) (by decide) (fun v hv => hbd v (List.mem_of_mem_take hv))
      have e : (V.take i).length = i := by rw [List.length_take]; omega
      rw [e] at h
      omega
    have htk := fun i (h : i < V.length) => lsum_take h
    have hat := fun i (h : i < V.length) => ints_at V i h
    have hall : V.take N = V := List.take_of_length_le (by omega)
    clear hS hbd
    refine fn_of_run0 false Tryz.func15 rfl hmix rfl fun w0 => ?_
    conv => whnf
    refine ⟨trivial, CallAt.pure (fun R' hR' => hwi R') ?_⟩
    conv => whnf
    refine iff_f rfl ?_
    conv => whnf
    refine ⟨trivial, CallAt.fn (pre := []) _ (fun h s => s) (fun R' hR' => hval R' fun w s => hR' w s) ?_⟩
    rintro r hs ⟨vb, vc, rfl, rfl⟩
    conv => whnf
    refine ⟨trivial, LoopAt.keep (α := Nat) [7] (fun i => [(9, .v (.int .i64 (lsum (V.take i)))), (10, .v (.int .i64 (i : Int)))]) (fun i => i ≤ N) (fun i => N - i) 0 (Nat.zero_le _) rfl ⟨⟨rfl, rfl⟩, ⟨rfl, rfl⟩, trivial⟩ ⟨⟨rfl, rfl⟩, trivial⟩ ⟨⟨rfl, rfl, rfl, rfl⟩, ⟨rfl, rfl, rfl, rfl⟩, trivial⟩ ?_⟩
    intro i hi
    conv => whnf
    refine ⟨fun h5 => ?_, fun h5 => ?_⟩
    · have g5 : i < N := by simpa using h5
      have hv := hat i (by omega)
      have ht := htk i (by omega)
      have hb1 := hsb (i + 1) (by omega)
      conv => whnf
      refine ⟨⟨trivial, by omega⟩, LoadAt.cell (.int .i64 V[i]) rfl rfl (fun w hw => by
        have := row_at (hw.in_ 0 rfl) (by omega) hv
        rw [Int.toNat_natCast]; simpa using this) ?_⟩
      conv => whnf
      rw [← ht]
      refine ⟨⟨⟨trivial, by unfold rng; omega⟩, by unfold rng; omega⟩, .keep (i + 1) (by omega) (by omega) ⟨⟨rfl, rfl⟩, ⟨rfl, rfl⟩, trivial⟩ ⟨⟨rfl, rfl⟩, trivial⟩ ⟨⟨rfl, rfl, rfl, rfl⟩, ⟨rfl, rfl, rfl, rfl⟩, trivial⟩ rfl rfl rfl⟩
    · have g5 : i = N := by simp at h5; omega
      subst g5
      conv => whnf
      rw [hall]
      exact ⟨trivial, .mk [] (fun w ⟨h, hs, s⟩ => by obtain ⟨h', e, s'⟩ := sub_nil s; exact ⟨h', hs.mono e, s'⟩) ⟨rfl, rfl⟩⟩
  · unfold sumZ
    rw [if_neg h]
    generalize withinZ r.x0 r.y0 r.x1 r.y1 W H = z at *
    refine fn_of_run0 false Tryz.func15 rfl hmix rfl fun w0 => ?_
    conv => whnf
    refine ⟨trivial, CallAt.pure (fun R' hR' => hwi R') ?_⟩
    conv => whnf
    refine iff_t (by simpa using h) ?_
    conv => whnf
    exact ⟨trivial, fin_pure rfl rfl⟩
/-- the least and the greatest of a rectangle, and the code -/
def rngZ (W H : Nat) (f : Nat → Nat → Int) (r : Q4) : (Int × Int) × Int :=
  if withinZ r.x0 r.y0 r.x1 r.y1 W H = 0 then ((mnL (vRows f r.x0.toNat (r.x1.toNat - r.x0.toNat + 1) r.y0.toNat (r.y1.toNat - r.y0.toNat + 1)), mxL (vRows f r.x0.toNat (r.x1.toNat - r.x0.toNat + 1) r.y0.toNat (r.y1.toNat - r.y0.toNat + 1))), 0) else ((0, 0), withinZ r.x0 r.y0 r.x1 r.y1 W H)
theorem sR21Range {R : HP} {A : Option Addr} {n c W H : Nat} {l : List Int} (ha : Vs R A n l) (hn : W * H = n) (hW : W ≤ 1024) (hH : H ≤ 1024) (r : Q4) :
    PureR Tryz.prog R 16 [modV W H A n c, r.v] (.tuple #[rngV (rngZ W H (gv W l) r).1.1 (rngZ W H (gv W l) r).1.2, .int .i64 (rngZ W H (gv W l) r).2]) := by
  by_cases h : withinZ r.x0 r.y0 r.x1 r.y1 W H = 0
  · unfold rngZ
    rw [if_pos h]
    obtain ⟨x0, y0, x1, y1, rfl, h1, h2, h3, h4⟩ := within_q h
    simp only [Int.toNat_natCast]
    have hval := fun R' (h : ∀ w, Sat R' w → Sat R w) => sRValues_g (R := R') (c := c) (ha.mono h) hn hW hH x0 y0 x1 y1 h1 h2 h3 h4
    have hlen := vRows_len (gv W l) x0 (x1 - x0 + 1) y0 (y1 - y0 + 1)
    have hN : (y1 - y0 + 1) * (x1 - x0 + 1) ≤ 1024 * 1024 := Nat.mul_le_mul (by omega) (by omega)
    generalize vRows (gv W l) x0 (x1 - x0 + 1) y0 (y1 - y0 + 1) = V at *
    generalize (y1 - y0 + 1) * (x1 - x0 + 1) = N at *
    refine fn_of_run0 false Tryz.func16 rfl hmix rfl fun w0 => ?_
    conv => whnf
    refine ⟨trivial, CallAt.fn (pre := []) _ (fun h s => s) (fun R' hR' => hval R' fun w s => hR' w s) ?_⟩
    rintro r hs ⟨vb, vc, rfl, rfl⟩
    conv => whnf
    refine iff_f rfl ?_
    conv => whnf
    refine ⟨trivial, CallAt.pure (fun R' hR' => sRange (Vs.row fun w s => (hR' w s).in_ 0 rfl) (by omega)) ?_⟩
    conv => whnf
    exact ⟨trivial, .mk [] (fun w ⟨h, hs, s⟩ => by obtain ⟨h', e, s'⟩ := sub_nil s; exact ⟨h', hs.mono e, s'⟩) ⟨rfl, rfl⟩⟩
  · have hval := fun R' => sRValBad (R := R') (A := A) (n := n) (c := c) h
    unfold rngZ
    rw [if_neg h]
    generalize withinZ r.x0 r.y0 r.x1 r.y1 W H = z at *
    refine fn_of_run0 false Tryz.func16 rfl hmix rfl fun w0 => ?_
    conv => whnf
    refine ⟨trivial, CallAt.pure (fun R' hR' => hval R') ?_⟩
    conv => whnf
    refine iff_t (by simpa using h) ?_
    conv => whnf
    exact ⟨trivial, fin_pure rfl rfl⟩
theorem sPRangeAny {R : HP} {pb W H : Nat} {f : Nat → Nat → Int} (r : Q4) (hW : 1 ≤ W ∧ W ≤ 1024) (hH : 1 ≤ H ∧ H ≤ 1024) (hf : ∀ a b, a < W → b < H → MayV (f a b)) (hp : ∀ w, Sat R w → Sat (pyrH pb W H (Pf W H f)) w) :
    PureR Tryz.prog R 37 [.pointer (some ⟨pb, 0, none⟩), r.v] (.tuple #[rngV (rngZ W H f r).1.1 (rngZ W H f r).1.2, .int .i64 (rngZ W H f r).2]) := by
  by_cases h : withinZ r.x0 r.y0 r.x1 r.y1 W H = 0
  · have h0 := sPRange hW hH h hp
    unfold rngZ
    rw [if_pos h]
    obtain ⟨x0, y0, x1, y1, rfl, h1, h2, h3, h4⟩ := within_q h
    rw [rangeF_eq hW hH hf h1 h3 h2 h4] at h0
    simp only [Int.toNat_natCast]
    exact h0
  · unfold rngZ
    rw [if_neg h]
    exact sRangeBad hW hH h hp
theorem sLvRange {R : HP} {lb gb W H : Nat} {f : Nat → Nat → Int} {s : Value} {v : Int} {r : Q4} (hW : 1 ≤ W ∧ W ≤ 1024) (hH : 1 ≤ H ∧ H ≤ 1024) (hf : ∀ a b, a < W → b < H → MayV (f a b)) (hl : ∀ w, Sat R w → Sat (liveH lb gb W H f) w)
    (ho : ∀ R' : HP, (∀ w, Sat R' w → Sat R w) → PureR Tryz.prog R' 33 [.pointer (some ⟨lb, 0, none⟩), s, .int .i64 v] (.bool false)) :
    PureR Tryz.prog R 13 [.pointer (some ⟨lb, 0, none⟩), s, .int .i64 v, r.v] (.tuple #[rngV (rngZ W H f r).1.1 (rngZ W H f r).1.2, .bool false, .int .i64 (rngZ W H f r).2]) := by
  have hrg := fun pb R' (h : ∀ w, Sat R' w → Sat (pyrH pb W H (Pf W H f)) w) => sPRangeAny (pb := pb) r hW hH hf h
  generalize rngZ W H f r = q at *
  refine PureR.fix fun w hs' => ?_
  obtain ⟨fb, pb, c0, c1, c2, sf, sp⟩ := live_open (hl w hs')
  refine fn_of_run0 false Tryz.func13 rfl hmix rfl fun w0 => ?_
  conv => whnf
  refine ⟨trivial, CallAt.pure (fun R' hR' => ho R' (fun w s => was_sat hs' (hR' w s))) ?_⟩
  conv => whnf
  refine iff_f rfl ?_
  conv => whnf
  refine ⟨trivial, RegAt.joins [((Tr.T 0 (Tr.T 1 (Tr.T 2 (Tr.T 3 (Tr.T 4 (Tr.C 5 (Tr.T 6 (Tr.T 7 (Tr.T 8 (Tr.H 9 (Tr.H 10 Tr.E))))) 9 (Tr.H 5 (Tr.T 6 (Tr.T 7 (Tr.T 8 (Tr.H 10 Tr.E))))))))))), 11), ((Tr.T 11 Tr.E), 12)] [8] [(13, .p 2 0), (14, .v (.int .i64 q.2))] [(2, 44, [.v (.int .i64 q.1.1), .v (.int .i64 q.1.2)]), (1, 44, [.v (.int .i64 0), .v (.int .i64 0)])] 3 [] hmix (by kernel_rfl) ?_ ?_⟩
  · conv => whnf
    refine ⟨trivial, LoadAt.cell (.pointer (some ⟨pb, 0, none⟩)) rfl rfl (fun w hw => was_cell hw c2) ?_⟩
    conv => whnf
    refine ⟨?_, ?_⟩
    · refine ⟨trivial, CallAt.pure (fun R' hR' => hrg pb R' fun w s => was_sat sp (hR' w s)) ?_⟩
      conv => whnf
      refine ⟨trivial, ⟨⟨rfl, rfl⟩, fun h s => sub_same s⟩, ?_⟩
      conv => whnf
      refine ⟨trivial, ⟨⟨rfl, rfl⟩, fun h s => sub_same s⟩, ?_⟩
      conv => whnf
      refine ⟨trivial, ⟨⟨rfl, rfl⟩, fun h s => sub_same s⟩, ?_⟩
      conv => whnf
      refine ⟨trivial, Le.of (Nat.le_of_ble_eq_true rfl) (Nat.zero_le _) ⟨⟨rfl, rfl⟩, ⟨rfl, rfl⟩, ⟨rfl, rfl⟩, trivial⟩ ⟨⟨rfl, rfl, rfl, rfl⟩, ⟨rfl, rfl, rfl, rfl⟩, trivial⟩ fun h s => sub_same s⟩
    · refine ⟨trivial, ⟨⟨rfl, rfl⟩, fun h s => sub_same s⟩, ?_⟩
      conv => whnf
      refine ⟨trivial, CallAt.pure (fun R' hR' => hrg pb R' fun w s => was_sat sp (hR' w s)) ?_⟩
      conv => whnf
      refine ⟨trivial, ⟨⟨rfl, rfl⟩, fun h s => sub_same s⟩, ?_⟩
      conv => whnf
      refine ⟨trivial, ⟨⟨rfl, rfl⟩, fun h s => sub_same s⟩, ?_⟩
      conv => whnf
      refine ⟨trivial, Le.of (Nat.le_of_ble_eq_true rfl) (Nat.zero_le _) ⟨⟨rfl, rfl⟩, ⟨rfl, rfl⟩, ⟨rfl, rfl⟩, trivial⟩ ⟨⟨rfl, rfl, rfl, rfl⟩, ⟨rfl, rfl, rfl, rfl⟩, trivial⟩ fun h s => sub_same s⟩
  · conv => whnf
    exact ⟨trivial, fin_pure rfl rfl⟩
theorem sLvPyr {R : HP} {lb pb : Nat} (hl : ∀ w, Sat R w → w.cell? ⟨lb, 2, none⟩ = some (.pointer (some ⟨pb, 0, none⟩))) : PureR Tryz.prog R 24 [.pointer (some ⟨lb, 0, none⟩)] (.pointer (some ⟨pb, 0, none⟩)) := by
  refine fn_of_run0 false Tryz.func24 rfl hmix rfl fun w0 => ?_
  conv => whnf
  refine ⟨trivial, LoadAt.cell (.pointer (some ⟨pb, 0, none⟩)) rfl rfl (fun w hw => hl w hw) ?_⟩
  conv => whnf
  exact ⟨trivial, fin_pure rfl rfl⟩
end Go.Proofs.YtlplbgbnojibmaaGreat

/-
  A fill of the land, of its grid, and of what goes with it: whatever the rectangle and the value.
-/
namespace Go.Proofs.YtlplbgbnojibmaaGreat
open Go.RowKit
open Sy
set_option linter.unusedVariables false
set_option linter.unusedSimpArgs false
set_option maxRecDepth 100000
set_option maxHeartbeats 4000000

def codeF (W H : Nat) (r : Q4) (v : Int) : Int := if withinZ r.x0 r.y0 r.x1 r.y1 W H = 0 then (if MayV v then 0 else 7) else withinZ r.x0 r.y0 r.x1 r.y1 W H
def nextL (W H n : Nat) (r : Q4) (v : Int) (l : List Int) : List Int := if codeF W H r v = 0 then cellsL n (fillK W r.x0.toNat r.y0.toNat r.x1.toNat r.y1.toNat v fun k => l.getD k 0) else l
theorem codeF_zero {W H : Nat} {r : Q4} {v : Int} (h : codeF W H r v = 0) : withinZ r.x0 r.y0 r.x1 r.y1 W H = 0 ∧ MayV v := by
  unfold codeF at h
  split at h
  · rename_i h1
    split at h
    · rename_i h2
      exact ⟨h1, h2⟩
    · omega
  · rename_i h1
    exact absurd h h1
theorem nextL_len {W H n : Nat} {r : Q4} {v : Int} {l : List Int} (h : l.length = n) : (nextL W H n r v l).length = n := by
  unfold nextL
  split
  · exact cellsL_len _ _
  · exact h
theorem cellsL_getD {n k : Nat} {f : Nat → Int} (h : k < n) : (cellsL n f).getD k 0 = f k := by
  rw [List.getD_eq_getElem?_getD]
  simp [cellsL, h]
theorem nextL_may {W H n : Nat} {r : Q4} {v : Int} {l : List Int} (hl : l.length = n) (h : ∀ u ∈ l, MayV u) : ∀ u ∈ nextL W H n r v l, MayV u := by
  intro u hu
  unfold nextL at hu
  split at hu
  · rename_i hc
    obtain ⟨_, hv⟩ := codeF_zero hc
    unfold cellsL at hu
    obtain ⟨k, hk, rfl⟩ := List.mem_map.1 hu
    have hk := List.mem_range.1 hk
    unfold fillK
    split
    · exact hv
    · show MayV (l.getD k 0)
      rw [List.getD_eq_getElem?_getD, List.getElem?_eq_getElem (by omega)]
      exact h _ (List.getElem_mem _)
  · exact h u hu
/-- the cells behind a fill -/
theorem nextL_gv {W H n x0 y0 x1 y1 : Nat} {v : Int} {l : List Int} (hn : W * H = n) (hc : codeF W H ⟨x0, y0, x1, y1⟩ v = 0) {x y : Nat} (hx : x < W) (hy : y < H) : gv W (nextL W H n ⟨x0, y0, x1, y1⟩ v l) x y = fillG ⟨x0, y0, x1, y1⟩ v (gv W l) x y := by
  have hk := idx_lt hx hy
  rw [hn] at hk
  have hxy := (at_iff (sw := W) (k := y * W + x) (y := y) hx).1 rfl
  unfold nextL
  rw [if_pos hc]
  unfold gv
  rw [cellsL_getD hk]
  unfold fillK fillG
  simp only [Int.toNat_natCast]
  rw [hxy.1, hxy.2]
  by_cases c : x0 ≤ x ∧ x ≤ x1 ∧ y0 ≤ y ∧ y ≤ y1
  · rw [if_pos c, if_pos ((inR_iff _ _ _).2 (by simp only; omega))]
  · rw [if_neg c, if_neg (fun q => c (by have := (inR_iff _ _ _).1 q; simp only at this; omega))]
theorem far_of_may {W H : Nat} {f : Nat → Nat → Int} (h : ∀ x y, x < W → y < H → MayV (f x y)) : Far W H f := fun i j hi hj => by
  have := h i j hi hj
  unfold MayV at this
  omega
theorem gv_may {W H n : Nat} {l : List Int} (hn : W * H = n) (hl : l.length = n) (h : ∀ u ∈ l, MayV u) : ∀ x y, x < W → y < H → MayV (gv W l x y) := fun x y hx hy => by
  have hk := idx_lt hx hy
  unfold gv
  rw [List.getD_eq_getElem?_getD, List.getElem?_eq_getElem (by omega)]
  exact h _ (List.getElem_mem _)
/-- a land's values: a row of their own, or what was handed in -/
def mqH (C : Prop) (A : Option Addr) (n c : Nat) (l : List Int) : HP := fun h => rowH (.slice A n c) n 2 1 (ints l) h ∨ (h = (fun _ => none) ∧ C)
theorem mq_vs {R R' : HP} {A : Option Addr} {n c : Nat} {l : List Int} (h1 : ∀ w, Sat R' w → Sat (mqH (Vs R A n l) A n c l) w) (h2 : ∀ w, Sat R' w → Sat R w) : Vs R' A n l := fun w s => by
  obtain ⟨h, e, q⟩ := h1 w s
  rcases q with q | ⟨_, q⟩
  · exact rowH_reads rfl ⟨h, e, q⟩
  · exact q w (h2 w s)
theorem mq_nil {R : HP} {C : Prop} {A : Option Addr} {n c : Nat} {l : List Int} (hC : C) {L : List HP} {h : Hl} (s : sepL L R h) : sepL (mqH C A n c l :: L) R h := by
  refine ⟨fun _ => none, h, fun i => .inl rfl, ?_, .inr ⟨rfl, hC⟩, s⟩
  funext i; simp [un]
theorem sMFillAny {R R0 : HP} {A : Option Addr} {n c W H : Nat} {l : List Int} (r : Q4) (v : Int) (h0 : ∀ w, Sat R w → Sat R0 w) (hn : W * H = n) (hW : W ≤ 1024) (hH : H ≤ 1024) :
    FnR Tryz.prog R 17 [modV W H A n c, r.v, .int .i64 v] [mqH (Vs R0 A n l) A n c l] fun x hs => ∃ A' c', x = .tuple #[modV W H A' n c', .int .i64 (codeF W H r v)] ∧ hs = [mqH (Vs R0 A' n (nextL W H n r v l)) A' n c' (nextL W H n r v l)] := by
  by_cases hw : withinZ r.x0 r.y0 r.x1 r.y1 W H = 0
  · by_cases hv : MayV v
    · have hc : codeF W H r v = 0 := by unfold codeF; rw [if_pos hw, if_pos hv]
      obtain ⟨x0, y0, x1, y1, rfl, h1, h2, h3, h4⟩ := within_q hw
      intro w s
      have hvs : Vs (sepL [mqH (Vs R0 A n l) A n c l] R) A n l := mq_vs (fun w s => s.in_ 0 rfl) (fun w s => h0 w s.rest)
      refine (sMFill (c := c) hvs hn hW hH x0 y0 x1 y1 h1 h2 h3 h4 hv w s).mono ?_
      rintro e w' ⟨x, hs, rfl, ⟨B, d, rfl, rfl⟩, s', hw'⟩
      refine ⟨_, _, rfl, ⟨some ⟨B, 0, none⟩, d, by rw [hc], rfl⟩, ?_, hw'⟩
      have e2 : nextL W H n ⟨x0, y0, x1, y1⟩ v l = cellsL n (fillK W x0 y0 x1 y1 v fun k => l.getD k 0) := by
        unfold nextL
        rw [if_pos hc]
        simp only [Int.toNat_natCast]
      obtain ⟨h, g1, g2⟩ := s'
      obtain ⟨hh, e3, s3⟩ := sub_tail (sepL_pull 1 (show sepL [_, mqH (Vs R0 A n l) A n c l] R h from g2))
      refine ⟨hh, g1.mono e3, ?_⟩
      rw [e2]
      obtain ⟨a1, a2, a3, a4, a5, a6⟩ := s3
      exact ⟨a1, a2, a3, a4, .inl a5, a6⟩
    · have hc : codeF W H r v = 7 := by unfold codeF; rw [if_pos hw, if_neg hv]
      have e2 : nextL W H n r v l = l := by unfold nextL; rw [if_neg (by rw [hc]; decide)]
      rw [hc, e2]
      intro w s
      refine (sMFillNo (R := sepL [mqH (Vs R0 A n l) A n c l] R) (A := A) (n := n) (c := c) hw hv w s).mono ?_
      rintro e w' ⟨x, hs, rfl, ⟨rfl, rfl⟩, s', hw'⟩
      exact ⟨_, _, rfl, ⟨A, c, rfl, rfl⟩, s', hw'⟩
  · have hc : codeF W H r v = withinZ r.x0 r.y0 r.x1 r.y1 W H := by unfold codeF; rw [if_neg hw]
    have e2 : nextL W H n r v l = l := by unfold nextL; rw [if_neg (by rw [hc]; exact hw)]
    rw [hc, e2]
    intro w s
    refine (sMFillBad (R := sepL [mqH (Vs R0 A n l) A n c l] R) (A := A) (n := n) (c := c) (v := v) hw w s).mono ?_
    rintro e w' ⟨x, hs, rfl, ⟨rfl, rfl⟩, s', hw'⟩
    exact ⟨_, _, rfl, ⟨A, c, rfl, rfl⟩, s', hw'⟩
theorem gFillAny {R : HP} {gb W H n : Nat} {l : List Int} (r : Q4) (v : Int) (hn : W * H = n) :
    FnR Tryz.prog R 18 [.pointer (some ⟨gb, 0, none⟩), r.v, .int .i64 v] [gridH gb W H (gv W l)] fun x hs => x = .int .i64 (codeF W H r v) ∧ hs = [gridH gb W H (gv W (nextL W H n r v l))] := by
  by_cases hw : withinZ r.x0 r.y0 r.x1 r.y1 W H = 0
  · by_cases hv : MayV v
    · have hc : codeF W H r v = 0 := by unfold codeF; rw [if_pos hw, if_pos hv]
      obtain ⟨x0, y0, x1, y1, rfl, h1, h2, h3, h4⟩ := within_q hw
      intro w s
      refine (gFill_f (f := gv W l) ⟨x0, y0, x1, y1⟩ v (by simp only; omega) (by simp only; omega) (by simp only; omega) (by simp only; omega) (by simp only; omega) (by simp only; omega) hv w s).mono ?_
      rintro e w' ⟨x, hs, rfl, ⟨rfl, rfl⟩, s', hw'⟩
      refine ⟨_, _, rfl, ⟨by rw [hc], rfl⟩, ?_, hw'⟩
      obtain ⟨h, g1, a1, a2, a3, a4, a5, a6⟩ := s'
      exact ⟨h, g1, a1, a2, a3, a4, gridH_congr (fun x y hx hy => (nextL_gv hn hc hx hy).symm) a5, a6⟩
    · have hc : codeF W H r v = 7 := by unfold codeF; rw [if_pos hw, if_neg hv]
      have e2 : nextL W H n r v l = l := by unfold nextL; rw [if_neg (by rw [hc]; decide)]
      rw [hc, e2]
      intro w s
      refine (gFillNo (R := sepL [gridH gb W H (gv W l)] R) (gridAt_rest 0 rfl fun w s => s) hw hv w s).mono ?_
      rintro e w' ⟨x, hs, rfl, ⟨rfl, rfl⟩, s', hw'⟩
      exact ⟨_, _, rfl, ⟨rfl, rfl⟩, s', hw'⟩
  · have hc : codeF W H r v = withinZ r.x0 r.y0 r.x1 r.y1 W H := by unfold codeF; rw [if_neg hw]
    have e2 : nextL W H n r v l = l := by unfold nextL; rw [if_neg (by rw [hc]; exact hw)]
    rw [hc, e2]
    intro w s
    refine (gFillBad (R := sepL [gridH gb W H (gv W l)] R) (v := v) (gridAt_rest 0 rfl fun w s => s) hw w s).mono ?_
    rintro e w' ⟨x, hs, rfl, ⟨rfl, rfl⟩, s', hw'⟩
    exact ⟨_, _, rfl, ⟨rfl, rfl⟩, s', hw'⟩
theorem sRValAny {R : HP} {A : Option Addr} {n c W H : Nat} {l : List Int} (ha : Vs R A n l) (r : Q4) (hn : W * H = n) (hW : W ≤ 1024) (hH : H ≤ 1024) :
    FnR Tryz.prog R 21 [modV W H A n c, r.v] [] fun x hs => ∃ B k d, x = .tuple #[.slice B k d, .int .i64 (withinZ r.x0 r.y0 r.x1 r.y1 W H)] ∧ hs = [] := by
  by_cases hw : withinZ r.x0 r.y0 r.x1 r.y1 W H = 0
  · rw [hw]
    obtain ⟨x0, y0, x1, y1, rfl, h1, h2, h3, h4⟩ := within_q hw
    intro w s
    refine (sRValues_g (c := c) ha hn hW hH x0 y0 x1 y1 h1 h2 h3 h4 w s).mono ?_
    rintro e w' ⟨x, hs, rfl, ⟨B, d, rfl, rfl⟩, s', hw'⟩
    exact ⟨_, _, rfl, ⟨_, _, _, rfl, rfl⟩, s'.rest, hw'⟩
  · intro w s
    refine (sRValBad (A := A) (n := n) (c := c) hw w s).mono ?_
    rintro e w' ⟨x, hs, rfl, ⟨rfl, rfl⟩, s', hw'⟩
    exact ⟨_, _, rfl, ⟨none, 0, 0, rfl, rfl⟩, s', hw'⟩
theorem sChangedAny {R : HP} {lb gb W H n : Nat} {l : List Int} (r : Q4) (v : Int) (hn : W * H = n) (hl : l.length = n) (hm : ∀ u ∈ l, MayV u) (hR : ∀ w, Sat R w → GridAt w gb W H (gv W (nextL W H n r v l))) :
    FnR Tryz.prog R 19 [.pointer (some ⟨lb, 0, none⟩), r.v] [liveH lb gb W H (gv W l)] fun x hs => x = .int .i64 (withinZ r.x0 r.y0 r.x1 r.y1 W H) ∧ hs = [liveH lb gb W H (gv W (nextL W H n r v l))] := by
  have hf := far_of_may (gv_may hn hl hm)
  have hg := far_of_may (gv_may hn (nextL_len (W := W) (H := H) (r := r) (v := v) hl) (nextL_may hl hm))
  by_cases hw : withinZ r.x0 r.y0 r.x1 r.y1 W H = 0
  · rw [hw]
    obtain ⟨x0, y0, x1, y1, rfl, h1, h2, h3, h4⟩ := within_q hw
    refine sChanged hf hg hR h1 h3 h2 h4 fun a b ha hb => ?_
    unfold mergeG
    split
    · rfl
    · rename_i hnot
      by_cases hc : codeF W H ⟨x0, y0, x1, y1⟩ v = 0
      · rw [nextL_gv hn hc ha hb]
        unfold fillG
        rw [if_neg (fun q => hnot (by have := (inR_iff _ _ _).1 q; simp only at this; omega))]
      · unfold nextL
        rw [if_neg hc]
  · have hc : ¬ codeF W H r v = 0 := fun h => hw (codeF_zero h).1
    have e2 : nextL W H n r v l = l := by unfold nextL; rw [if_neg hc]
    rw [e2] at hR ⊢
    intro w s
    refine (sChangedBad (R := sepL [liveH lb gb W H (gv W l)] R) hw (fun w s => s.in_ 0 rfl) (fun w s => hR w s.rest) w s).mono ?_
    rintro e w' ⟨x, hs, rfl, ⟨rfl, rfl⟩, s', hw'⟩
    exact ⟨_, _, rfl, ⟨rfl, rfl⟩, s', hw'⟩
theorem sLvPyrU {R : HP} {lb gb W H : Nat} {f : Nat → Nat → Int} : FnR Tryz.prog R 24 [.pointer (some ⟨lb, 0, none⟩)] [liveH lb gb W H f] fun v hs => ∃ fb pb, v = .pointer (some ⟨pb, 0, none⟩) ∧ hs = liveP lb gb W H f (fb, pb) := by
  refine FnR.unbox fun ⟨fb, pb⟩ => ?_
  rw [List.append_nil]
  intro w s
  refine (sLvPyr (R := sepL (liveP lb gb W H f (fb, pb)) R) (lb := lb) (pb := pb) (fun w s => (blk_sat (s.in_ 0 rfl)).cell 2) w s).mono ?_
  rintro e w' ⟨x, hs, rfl, ⟨rfl, rfl⟩, s', hw'⟩
  exact ⟨_, _, rfl, ⟨fb, pb, rfl, rfl⟩, s', hw'⟩
end Go.Proofs.YtlplbgbnojibmaaGreat

/-
  Acts among the arguments.
-/
namespace Go.Proofs.YtlplbgbnojibmaaGreat
open Go.ChangeShapes Go.WideShapes Go.ChangeAt Go.RowKit Go.Joins Sy
set_option linter.unusedVariables false
set_option linter.unusedSimpArgs false
set_option maxRecDepth 100000
set_option maxHeartbeats 4000000

structure Act where
  r : Q4
  v : Int
def Act.ok (a : Act) : Prop := True
def actL (a : Act) : List Value := [.int .i64 a.r.x0, .int .i64 a.r.y0, .int .i64 a.r.x1, .int .i64 a.r.y1, .int .i64 a.v]
def acel (l : List Act) : List Value := l.flatMap actL
theorem acel_len (l : List Act) : (acel l).length = l.length * 5 := by
  induction l with
  | nil => rfl
  | cons a l ih =>
    have e : acel (a :: l) = actL a ++ acel l := rfl
    rw [e, List.length_append, ih]
    simp [actL]; omega
theorem acel_at : ∀ {l : List Act} {i j : Nat} (h : i < l.length), j < 5 → (acel l)[i * 5 + j]? = (actL l[i])[j]?
  | a :: l, 0, j, _, hj => by
    have e : acel (a :: l) = actL a ++ acel l := rfl
    rw [e, List.getElem?_append_left (by simp [actL]; omega)]
    simp
  | a :: l, i + 1, j, h, hj => by
    have e : acel (a :: l) = actL a ++ acel l := rfl
    rw [e, List.getElem?_append_right (by simp [actL]; omega)]
    have : (i + 1) * 5 + j - (actL a).length = i * 5 + j := by simp [actL]; omega
    rw [this, acel_at (by simpa using h) hj]
    simp
theorem act_leaf : ∀ j, j < 5 → leafK Tryz.prog 6 58 j = some .i64 := fun j hj => by rcases (show j = 0 ∨ j = 1 ∨ j = 2 ∨ j = 3 ∨ j = 4 by omega) with rfl | rfl | rfl | rfl | rfl <;> kernel_rfl
theorem open_acts {H : Type} {enc : TypeId × Value → H} {w : World} {base : Nat} {spare : Nat → Bool} {held : Bool} {a : Option Addr} {n c : Nat} {d : DataW H} {ps : List MemPlace} (h : DataW.Trod enc Tryz.prog w base spare held 49 (.slice a n c) d ps) :
    ∃ l, Reads w w.heap.size 5 a n (acel l) ∧ n ≤ maxLen := by
  obtain ⟨fuel, h⟩ := h
  rcases open_flat 5 (fun _ => .i64) Tryz.underlying49 (by kernel_rfl) act_leaf h with hcs | ⟨x, l, c, zs, hcs, hl, hm, hz⟩
  · simp [Value.cells] at hcs
    obtain ⟨rfl, rfl, rfl⟩ := hcs
    exact ⟨[], Reads.empty, by simp [maxLen]⟩
  · simp [Value.cells] at hcs
    obtain ⟨rfl, rfl, rfl⟩ := hcs
    refine ⟨(List.range n).map fun i => ⟨⟨zs i 0, zs i 1, zs i 2, zs i 3⟩, zs i 4⟩, reads_flat (by decide) hz (by rw [acel_len]; simp) (fun i j hi hj => ?_), Nat.le_trans hl hm⟩
    rw [acel_at (by simpa using hi) hj]
    simp only [List.getElem_map, List.getElem_range]
    rcases (show j = 0 ∨ j = 1 ∨ j = 2 ∨ j = 3 ∨ j = 4 by omega) with rfl | rfl | rfl | rfl | rfl <;> rfl
end Go.Proofs.YtlplbgbnojibmaaGreat

/-
  As it is: the indexes that go with a grid show what it holds.
-/
namespace Go.Proofs.YtlplbgbnojibmaaGreat
open Go.RowKit
open Sy
set_option linter.unusedVariables false
set_option linter.unusedSimpArgs false
set_option maxRecDepth 100000
set_option maxHeartbeats 4000000

structure FoS where
  i : Nat
  A : Option Addr
  c : Nat
  l : List Int
theorem SnapFollows_walk (W H : Int) (A : Option Addr) (n c : Nat) (l : List Int) (A2 : Option Addr) (n2 c2 : Nat) (la : List Act) (x0 y0 x1 y1 : Int) (w : World) (_ : -9223372036854775808 ≤ W) (_ : W ≤ 9223372036854775807) (_ : -9223372036854775808 ≤ H) (_ : H ≤ 9223372036854775807) (ha : Reads w w.heap.size 1 A n (ints l)) (hn : n ≤ maxLen)
    (ha2 : Reads w w.heap.size 5 A2 n2 (acel la)) (hn2 : n2 ≤ maxLen) (_ : -9223372036854775808 ≤ x0) (_ : x0 ≤ 9223372036854775807) (_ : -9223372036854775808 ≤ y0) (_ : y0 ≤ 9223372036854775807) (_ : -9223372036854775808 ≤ x1) (_ : x1 ≤ 9223372036854775807) (_ : -9223372036854775808 ≤ y1) (_ : y1 ≤ 9223372036854775807) :
    Calls Tryz.prog 5 #[.int .i64 W, .int .i64 H, .slice A n c, .slice A2 n2 c2, .agg #[.int .i64 x0, .int .i64 y0, .int .i64 x1, .int .i64 y1]] w fun e w' => e = .returned (.bool true) ∧ Below w.heap.size w w' := by
  refine PureR.below (args := [.int .i64 W, .int .i64 H, .slice A n c, .slice A2 n2 c2, Q4.v ⟨x0, y0, x1, y1⟩]) ?_
  refine PureR.of_sat fun wS hsat => ?_
  generalize (⟨x0, y0, x1, y1⟩ : Q4) = rr
  have hv := vs_of_reads ha
  have hs2 := sl_of_reads (by decide) ha2
  have hl : l.length = n := by have := ha.1; simpa [ints] using this
  have hla : la.length = n2 := by have := ha2.1; rw [acel_len] at this; omega
  obtain ⟨-, sp⟩ := hs2.spot (by decide) hsat
  clear hsat wS
  by_cases hok : LandOk W H 1000 n l
  · obtain ⟨W, H, rfl, rfl, w1, w2, h1, h2, hWH, hn0, hn1⟩ := land_nat hok (by decide)
    have hm := hok.2.2.2.2.2.2
    have hf0 := far_of_may (gv_may hWH hl hm)
    by_cases h40 : 40 < n2
    · refine fn_of_run0 false Tryz.func5 rfl hmix rfl fun w0 => ?_
      refine run_cut fun B hB => ?_
      conv => whnf
      (rw [hB]; clear hB B; refine run_cut fun B hB => ?_; conv => whnf)
      refine ⟨trivial, CallAt.pure (fun R' hR' => sAwake22 R') ?_⟩
      conv => whnf
      refine iff_f rfl ?_
      conv => whnf
      (rw [hB]; clear hB B; refine run_cut fun B hB => ?_; conv => whnf)
      refine ⟨trivial, CallAt.pure (fun R' hR' => sLandYes (hv.mono fun w s => hR' w s) (by decide) hn hok) ?_⟩
      conv => whnf
      (rw [hB]; clear hB B; refine run_cut fun B hB => ?_; conv => whnf)
      refine ⟨fun _ => ?_, fun h => absurd h (by decide)⟩
      conv => whnf
      refine iff_t (by simp; omega) ?_
      conv => whnf
      exact ⟨trivial, fin_pure rfl rfl⟩
    · refine fn_of_run0 false Tryz.func5 rfl hmix rfl fun w0 => ?_
      refine run_cut fun B hB => ?_
      conv => whnf
      (rw [hB]; clear hB B; refine run_cut fun B hB => ?_; conv => whnf)
      refine ⟨trivial, CallAt.pure (fun R' hR' => sAwake22 R') ?_⟩
      conv => whnf
      refine iff_f rfl ?_
      conv => whnf
      (rw [hB]; clear hB B; refine run_cut fun B hB => ?_; conv => whnf)
      refine ⟨trivial, CallAt.pure (fun R' hR' => sLandYes (hv.mono fun w s => hR' w s) (by decide) hn hok) ?_⟩
      conv => whnf
      (rw [hB]; clear hB B; refine run_cut fun B hB => ?_; conv => whnf)
      refine ⟨fun _ => ?_, fun h => absurd h (by decide)⟩
      conv => whnf
      refine iff_f (by simp; omega) ?_
      conv => whnf
      (rw [hB]; clear hB B; refine run_cut fun B hB => ?_; conv => whnf)
      refine ⟨trivial, CallAt.fn (pre := []) _ (fun h s => s) (fun R' hR' => sMadeV (hv.mono fun w s => hR' w s) w1 w2 h1 h2 hWH hm) ?_⟩
      rintro r hs ⟨gb, rfl, rfl⟩
      conv => whnf
      (rw [hB]; clear hB B; refine run_cut fun B hB => ?_; conv => whnf)
      refine ⟨trivial, CallAt.fn (pre := []) _ (fun h s => s) (fun R' hR' => sFollow hf0 (gridAt_rest 0 rfl hR')) ?_⟩
      rintro r hs ⟨lb, rfl, rfl⟩
      conv => whnf
      (rw [hB]; clear hB B; refine run_cut fun B hB => ?_; conv => whnf)
      repeat (first | (refine ⟨fun _ => ?_, fun h => absurd h (by decide)⟩; conv => whnf) | (refine ⟨fun h => absurd h (by decide), fun _ => ?_⟩; conv => whnf))
      (rw [hB]; clear hB B; refine run_cut fun B hB => ?_; conv => whnf)
      refine ⟨trivial, LoopAt.of (α := FoS) [3, 9, 11, 13, 14] (fun a => [(16, .v (.int .i64 (a.i : Int)))]) (fun a => [(1, 27, [.v (.int .i64 W), .v (.int .i64 H), .v (.slice a.A n a.c)]), (0, 24, [.v (.int .i64 rr.x0), .v (.int .i64 rr.y0), .v (.int .i64 rr.x1), .v (.int .i64 rr.y1)])])
        (fun a => [mqH (Vs (was w) a.A n a.l) a.A n a.c a.l, liveH lb gb W H (gv W a.l), gridH gb W H (gv W a.l)]) (fun a => a.i ≤ n2 ∧ a.l.length = n ∧ ∀ u ∈ a.l, MayV u) (fun a => n2 - a.i) ⟨0, A, c, l⟩ ⟨Nat.zero_le _, hl, hm⟩
        (Le.of (Nat.le_of_ble_eq_true rfl) (Nat.zero_le _) ⟨⟨rfl, rfl⟩, ⟨rfl, rfl⟩, ⟨rfl, rfl⟩, ⟨rfl, rfl⟩, ⟨rfl, rfl⟩, ⟨rfl, rfl⟩, trivial⟩ ⟨⟨rfl, rfl, rfl, rfl⟩, ⟨rfl, rfl, rfl, rfl⟩, trivial⟩ fun h s => sub_same (mq_nil hv s)) ?_⟩
      rintro ⟨i, A, c, l⟩ ⟨hi, hl, hm⟩
      simp only at hi hl hm
      conv => whnf
      refine ⟨fun h5 => ?_, fun h5 => ?_⟩
      · have g5 : i < n2 := by simpa using h5
        rcases sp with h0 | ⟨b2, off2, rfl, sa⟩
        · omega
        have hcell : ∀ j u, j < 5 → (actL (la[i]'(by omega)))[j]? = some u → ∀ w', Sat (was w) w' → w'.cell? ⟨b2, off2 + (i * 5 + j), none⟩ = some u := fun j u hj hu w' s => sa w' s _ u (by rw [acel_at (by omega) hj]; exact hu)
        generalize la[i]'(by omega) = ac at *
        obtain ⟨r, v⟩ := ac
        have hR4 : ∀ (w' : World), Sat (was w) w' → ∀ j u, [Value.int .i64 r.x0, .int .i64 r.y0, .int .i64 r.x1, .int .i64 r.y1][j]? = some u → ∀ o, o = off2 + (i * 5 + j) → w'.cell? ⟨b2, o, none⟩ = some u := fun w' s j u hj o ho => by
          subst ho
          have h4 : j < 4 := (List.getElem?_eq_some_iff.1 hj).1
          refine hcell j u (by omega) ?_ w' s
          rcases (show j = 0 ∨ j = 1 ∨ j = 2 ∨ j = 3 by omega) with rfl | rfl | rfl | rfl <;> exact hj
        have hVv : ∀ (w' : World), Sat (was w) w' → ∀ o, o = off2 + (i * 5 + 4) → w'.cell? ⟨b2, o, none⟩ = some (.int .i64 v) := fun w' s o ho => by
          subst ho
          exact hcell 4 _ (by omega) rfl w' s
        conv => whnf
        refine ⟨trivial, RegAt.trees0 [((Tr.T 0 (Tr.T 1 (Tr.T 2 (Tr.T 3 (Tr.T 4 (Tr.T 5 (Tr.T 6 (Tr.T 7 (Tr.T 8 (Tr.T 9 (Tr.T 10 (Tr.C 11 (Tr.T 12 (Tr.T 13 (Tr.T 14 (Tr.H 15 (Tr.H 16 Tr.E))))) 15 (Tr.H 11 (Tr.T 12 (Tr.T 13 (Tr.T 14 (Tr.H 16 Tr.E))))))))))))))))), 17), ((Tr.T 17 Tr.E), 18)] hmix (by kernel_rfl) ?_⟩
        conv => whnf
        refine ⟨⟨trivial, by simp only; omega⟩, LoadAt.agg [.int .i64 r.x0, .int .i64 r.y0, .int .i64 r.x1, .int .i64 r.y1] rfl rfl rfl (fun w' hw j u hj => hR4 w' hw.rest j u hj _ (by simp only [Int.toNat_natCast]; omega)) ?_⟩
        conv => whnf
        refine ⟨⟨trivial, by simp only; omega⟩, LoadAt.cell (.int .i64 v) rfl rfl (fun w' hw => hVv w' hw.rest _ (by simp only [Int.toNat_natCast]; omega)) ?_⟩
        conv => whnf
        refine ⟨?_, ?_⟩
        · conv => whnf
          refine ⟨trivial, CallAt.fn (pre := [mqH (Vs (was w) A n l) A n c l]) _ (fun h s => s) (fun R' hR' => sMFillAny (R0 := was w) r v (fun w s => (hR' w s).rest) hWH (by omega) (by omega)) ?_⟩
          rintro x hs ⟨A', c', rfl, rfl⟩
          conv => whnf
          refine ⟨trivial, ⟨⟨rfl, rfl⟩, fun h s => sub_nil s⟩, ?_⟩
          conv => whnf
          refine ⟨trivial, ⟨⟨rfl, rfl⟩, fun h s => sub_nil s⟩, ?_⟩
          conv => whnf
          refine ⟨trivial, ⟨⟨rfl, rfl⟩, fun h s => sub_nil s⟩, ?_⟩
          conv => whnf
          refine ⟨trivial, ?_⟩
          conv => whnf
          refine ⟨trivial, RegAt.groups0 [([.T 0, .T 1, .T 2, .T 3, .T 4, .T 5, .T 6, .T 7, .T 8, .T 9, .T 10, .T 12, .H 11], 13), ([.T 13], 14)] hmix (by kernel_rfl) ?_⟩
          conv => whnf
          refine ⟨⟨trivial, by simp only; omega⟩, LoadAt.agg [.int .i64 r.x0, .int .i64 r.y0, .int .i64 r.x1, .int .i64 r.y1] rfl rfl rfl (fun w' hw j u hj => hR4 w' hw.rest j u hj _ (by simp only [Int.toNat_natCast]; omega)) ?_⟩
          conv => whnf
          refine ⟨⟨trivial, by simp only; omega⟩, LoadAt.cell (.int .i64 v) rfl rfl (fun w' hw => hVv w' hw.rest _ (by simp only [Int.toNat_natCast]; omega)) ?_⟩
          conv => whnf
          refine ⟨trivial, CallAt.fn (pre := [gridH gb W H (gv W l)]) _ (fun h s => sepL_pull 2 s) (fun R' hR' => gFillAny r v hWH) ?_⟩
          rintro x hs ⟨rfl, rfl⟩
          conv => whnf
          refine ⟨trivial, ⟨⟨rfl, rfl⟩, fun h s => sub_nil s⟩, ?_⟩
          conv => whnf
          refine ⟨trivial, ?_⟩
          conv => whnf
          refine iff_f (by simp) ?_
          conv => whnf
          refine ⟨trivial, RegAt.segs [6] hmix (by kernel_rfl) ?_⟩
          conv => whnf
          refine ⟨⟨trivial, by simp only; omega⟩, LoadAt.agg [.int .i64 r.x0, .int .i64 r.y0, .int .i64 r.x1, .int .i64 r.y1] rfl rfl rfl (fun w' hw j u hj => hR4 w' hw.rest j u hj _ (by simp only [Int.toNat_natCast]; omega)) ?_⟩
          conv => whnf
          refine ⟨trivial, CallAt.fn (pre := []) _ (fun h s => s) (fun R' hR' => sRValAny (mq_vs (R := was w) (fun w s => (hR' w s).in_ 1 rfl) (fun w s => (hR' w s).rest)) r hWH (by omega) (by omega)) ?_⟩
          rintro x hs ⟨vB, vk, vd, rfl, rfl⟩
          conv => whnf
          refine ⟨trivial, ?_⟩
          conv => whnf
          refine ⟨⟨trivial, by simp only; omega⟩, LoadAt.agg [.int .i64 r.x0, .int .i64 r.y0, .int .i64 r.x1, .int .i64 r.y1] rfl rfl rfl (fun w' hw j u hj => hR4 w' hw.rest j u hj _ (by simp only [Int.toNat_natCast]; omega)) ?_⟩
          conv => whnf
          refine ⟨trivial, CallAt.fn (pre := [liveH lb gb W H (gv W l)]) _ (fun h s => sepL_pull 2 s) (fun R' hR' => sChangedAny r v hWH hl hm (gridAt_rest 0 rfl hR')) ?_⟩
          rintro x hs ⟨rfl, rfl⟩
          conv => whnf
          refine iff_f (by simp) ?_
          conv => whnf
          refine ⟨⟨trivial, by unfold rng; simp only; omega⟩, .mk ⟨i + 1, A', c', nextL W H n r v l⟩ ⟨by simp only; omega, nextL_len hl, nextL_may hl hm⟩ (by simp only; omega) (Le.of (Nat.le_of_ble_eq_true rfl) (Nat.zero_le _) ⟨⟨rfl, rfl⟩, ⟨rfl, rfl⟩, ⟨rfl, rfl⟩, ⟨rfl, rfl⟩, ⟨rfl, rfl⟩, ⟨rfl, rfl⟩, trivial⟩ ⟨⟨rfl, rfl, rfl, rfl⟩, ⟨rfl, rfl, rfl, rfl⟩, trivial⟩ fun h s => sub_same (sepL_pull 2 s))⟩
        · conv => whnf
          refine ⟨trivial, ⟨⟨rfl, rfl⟩, fun h s => sub_nil s⟩, ?_⟩
          conv => whnf
          refine ⟨trivial, CallAt.fn (pre := [mqH (Vs (was w) A n l) A n c l]) _ (fun h s => s) (fun R' hR' => sMFillAny (R0 := was w) r v (fun w s => (hR' w s).rest) hWH (by omega) (by omega)) ?_⟩
          rintro x hs ⟨A', c', rfl, rfl⟩
          conv => whnf
          refine ⟨trivial, ⟨⟨rfl, rfl⟩, fun h s => sub_nil s⟩, ?_⟩
          conv => whnf
          refine ⟨trivial, ⟨⟨rfl, rfl⟩, fun h s => sub_nil s⟩, ?_⟩
          conv => whnf
          refine ⟨trivial, ?_⟩
          conv => whnf
          refine ⟨trivial, RegAt.groups0 [([.T 0, .T 1, .T 2, .T 3, .T 4, .T 5, .T 6, .T 7, .T 8, .T 9, .T 10, .T 12, .H 11], 13), ([.T 13], 14)] hmix (by kernel_rfl) ?_⟩
          conv => whnf
          refine ⟨⟨trivial, by simp only; omega⟩, LoadAt.agg [.int .i64 r.x0, .int .i64 r.y0, .int .i64 r.x1, .int .i64 r.y1] rfl rfl rfl (fun w' hw j u hj => hR4 w' hw.rest j u hj _ (by simp only [Int.toNat_natCast]; omega)) ?_⟩
          conv => whnf
          refine ⟨⟨trivial, by simp only; omega⟩, LoadAt.cell (.int .i64 v) rfl rfl (fun w' hw => hVv w' hw.rest _ (by simp only [Int.toNat_natCast]; omega)) ?_⟩
          conv => whnf
          refine ⟨trivial, CallAt.fn (pre := [gridH gb W H (gv W l)]) _ (fun h s => sepL_pull 2 s) (fun R' hR' => gFillAny r v hWH) ?_⟩
          rintro x hs ⟨rfl, rfl⟩
          conv => whnf
          refine ⟨trivial, ⟨⟨rfl, rfl⟩, fun h s => sub_nil s⟩, ?_⟩
          conv => whnf
          refine ⟨trivial, ?_⟩
          conv => whnf
          refine iff_f (by simp) ?_
          conv => whnf
          refine ⟨trivial, RegAt.segs [6] hmix (by kernel_rfl) ?_⟩
          conv => whnf
          refine ⟨⟨trivial, by simp only; omega⟩, LoadAt.agg [.int .i64 r.x0, .int .i64 r.y0, .int .i64 r.x1, .int .i64 r.y1] rfl rfl rfl (fun w' hw j u hj => hR4 w' hw.rest j u hj _ (by simp only [Int.toNat_natCast]; omega)) ?_⟩
          conv => whnf
          refine ⟨trivial, CallAt.fn (pre := []) _ (fun h s => s) (fun R' hR' => sRValAny (mq_vs (R := was w) (fun w s => (hR' w s).in_ 1 rfl) (fun w s => (hR' w s).rest)) r hWH (by omega) (by omega)) ?_⟩
          rintro x hs ⟨vB, vk, vd, rfl, rfl⟩
          conv => whnf
          refine ⟨trivial, ?_⟩
          conv => whnf
          refine ⟨⟨trivial, by simp only; omega⟩, LoadAt.agg [.int .i64 r.x0, .int .i64 r.y0, .int .i64 r.x1, .int .i64 r.y1] rfl rfl rfl (fun w' hw j u hj => hR4 w' hw.rest j u hj _ (by simp only [Int.toNat_natCast]; omega)) ?_⟩
          conv => whnf
          refine ⟨trivial, CallAt.fn (pre := [liveH lb gb W H (gv W l)]) _ (fun h s => sepL_pull 2 s) (fun R' hR' => sChangedAny r v hWH hl hm (gridAt_rest 0 rfl hR')) ?_⟩
          rintro x hs ⟨rfl, rfl⟩
          conv => whnf
          refine iff_f (by simp) ?_
          conv => whnf
          refine ⟨⟨trivial, by unfold rng; simp only; omega⟩, .mk ⟨i + 1, A', c', nextL W H n r v l⟩ ⟨by simp only; omega, nextL_len hl, nextL_may hl hm⟩ (by simp only; omega) (Le.of (Nat.le_of_ble_eq_true rfl) (Nat.zero_le _) ⟨⟨rfl, rfl⟩, ⟨rfl, rfl⟩, ⟨rfl, rfl⟩, ⟨rfl, rfl⟩, ⟨rfl, rfl⟩, ⟨rfl, rfl⟩, trivial⟩ ⟨⟨rfl, rfl, rfl, rfl⟩, ⟨rfl, rfl, rfl, rfl⟩, trivial⟩ fun h s => sub_same (sepL_pull 2 s))⟩
      · have g5 : i = n2 := by simp at h5; omega
        have hfl := far_of_may (gv_may hWH hl hm)
        conv => whnf
        (rw [hB]; clear hB B; refine run_cut fun B hB => ?_; conv => whnf)
        refine ⟨trivial, CallAt.pure (fun R' hR' => sLvSum (r := rr) (s := .pointer none) (v := 0) hfl (by omega) (by omega) (fun w s => (hR' w s).in_ 1 rfl) (fun R2 k => sOldNo (fun R3 k3 => sFreshNil 0 R3))) ?_⟩
        conv => whnf
        (rw [hB]; clear hB B; refine run_cut fun B hB => ?_; conv => whnf)
        refine ⟨trivial, CallAt.pure (fun R' hR' => sR19Sum (mq_vs (R := was w) (fun w s => (hR' w s).in_ 0 rfl) (fun w s => (hR' w s).rest)) hWH (by omega) (by omega) hfl rr) ?_⟩
        conv => whnf
        (rw [hB]; clear hB B; refine run_cut fun B hB => ?_; conv => whnf)
        refine ⟨trivial, CallAt.pure (fun R' hR' => sLvRange (r := rr) (s := .pointer none) (v := 0) (by omega) (by omega) (gv_may hWH hl hm) (fun w s => (hR' w s).in_ 1 rfl) (fun R2 k => sOldNo (fun R3 k3 => sFreshNil 0 R3))) ?_⟩
        conv => whnf
        (rw [hB]; clear hB B; refine run_cut fun B hB => ?_; conv => whnf)
        refine ⟨trivial, CallAt.pure (fun R' hR' => sR21Range (mq_vs (R := was w) (fun w s => (hR' w s).in_ 0 rfl) (fun w s => (hR' w s).rest)) hWH (by omega) (by omega) rr) ?_⟩
        conv => whnf
        (rw [hB]; clear hB B; refine run_cut fun B hB => ?_; conv => whnf)
        refine ⟨trivial, CallAt.fn (pre := []) _ (fun h s => s) (fun R' hR' => sBuild (gridAt_rest 2 rfl hR')) ?_⟩
        rintro r hs ⟨pb, rfl, rfl⟩
        conv => whnf
        generalize sumZ W H (gv W l) rr = qs at *
        generalize rngZ W H (gv W l) rr = qr at *
        (rw [hB]; clear hB B; conv => whnf)
        repeat (refine ⟨fun _ => ?_, fun h => absurd h (by simp)⟩; conv => whnf)
        refine ⟨trivial, OpAt.aggEq rfl rfl rfl rfl (by kernel_rfl) (fun w => rng_eq _ _ _ _ w) ?_⟩
        conv => whnf
        repeat (refine ⟨fun _ => ?_, fun h => absurd h (by simp)⟩; conv => whnf)
        refine ⟨trivial, CallAt.fn (pre := [liveH lb gb W H (gv W l)]) _ (fun h s => sepL_pull 2 s) (fun R' hR' => sLvPyrU) ?_⟩
        rintro x hs ⟨fb, pb2, rfl, rfl⟩
        conv => whnf
        refine ⟨trivial, CallAt.pure (fun R' hR' => sPSame (r := true) (f := gv W l) (g := gv W l) ⟨fun _ => ⟨rfl, rfl, fun _ _ _ _ => rfl⟩, fun _ => rfl⟩ ⟨w1, w2⟩ ⟨h1, h2⟩ ⟨w1, w2⟩ ⟨h1, h2⟩ (fun w s => (hR' w s).in_ 2 rfl) (fun w s => (hR' w s).in_ 3 rfl)) ?_⟩
        conv => whnf
        exact ⟨trivial, .mk [] (fun w ⟨h, hs, s⟩ => by obtain ⟨h', e, s'⟩ := sub_nil s; exact ⟨h', hs.mono e, s'⟩) ⟨rfl, rfl⟩⟩
  · refine fn_of_run0 false Tryz.func5 rfl hmix rfl fun w0 => ?_
    refine run_cut fun B hB => ?_
    conv => whnf
    (rw [hB]; clear hB B; refine run_cut fun B hB => ?_; conv => whnf)
    refine ⟨trivial, CallAt.pure (fun R' hR' => sAwake22 R') ?_⟩
    conv => whnf
    refine iff_f rfl ?_
    conv => whnf
    (rw [hB]; clear hB B; refine run_cut fun B hB => ?_; conv => whnf)
    refine ⟨trivial, CallAt.pure (fun R' hR' => sLandNo (hv.mono fun w s => hR' w s) (by decide) hn hok) ?_⟩
    conv => whnf
    (rw [hB]; clear hB B; refine run_cut fun B hB => ?_; conv => whnf)
    repeat (first | (refine ⟨fun _ => ?_, fun h => absurd h (by decide)⟩; conv => whnf) | (refine ⟨fun h => absurd h (by decide), fun _ => ?_⟩; conv => whnf))
    exact ⟨trivial, fin_pure rfl rfl⟩
end Go.Proofs.YtlplbgbnojibmaaGreat

/-
  The statement of hachurelaw22.SnapFollows: for every input the call returns true, and each argument reads afterwards as it read before. The row's own frame round the walk 'SnapFollows_walk'.
-/
namespace Go.Proofs.YtlplbgbnojibmaaGreat.snapFollowsRow
open Go.Proofs.YtlplbgbnojibmaaGreat
open Go.ChangeShapes Go.WideShapes Go.ChangeAt Go.RowKit Go.Joins
set_option linter.unusedVariables false

theorem own : ownKnob Tryz.prog.godebug = none := by kernel_rfl
theorem laidOut : laidOutB Tryz.prog = true := by kernel_rfl


set_option maxRecDepth 100000 in
theorem lifted (os : Os) (started : os.Started) (H : Type) (enc : TypeId × Value → H) :
    ReturnsInHanded {} Tryz.checked os 5 .any (Rows.snapFollowsSpec.pre6 enc Tryz.prog Tryz.f5 Rows.snapFollowsRow.domain false) (Rows.snapFollowsSpec.post enc Tryz.prog Tryz.f5 false true false false) := by
  refine returnsInHanded_of_change (C := Tryz.checked) own started (by kernel_rfl) Tryz.func5
    (ChangeSpec.witness6 (enc := enc) (C := Tryz.checked) false ⟨#[], #[.int .i64 0, .int .i64 0, .slice none 0 0, .slice none 0 0, .agg #[.int .i64 0, .int .i64 0, .int .i64 0, .int .i64 0]], []⟩ 8 (by kernel_rfl) (by kernel_rfl) (by kernel_rfl) (by kernel_rfl)) ?_
  intro W base args ds gs before hval0 hW hcnd _
  have hval : ∀ (j : Nat) t v, Tryz.f5.params[j]? = some t → args[j]? = some v → Value.okWide Tryz.prog W .any base t v := hval0
  have hW' := hW
  obtain ⟨p, q, hA0, hV, rfl, hfz, hnd⟩ := hW
  have hA : DataW.TrodAll enc Tryz.prog W 0 (fun _ => true) true Tryz.f5.params.toList args.toList ds p := hA0
  rw [Tryz.params5] at hA hval
  obtain ⟨v0, vs0, d0, ds0, p0, q0, hargs, rfl, rfl, h0, r0⟩ := trodAll_cons hA
  obtain ⟨v1, vs1, d1, ds1, p1, q1, rfl, rfl, rfl, h1, r1⟩ := trodAll_cons r0
  obtain ⟨v2, vs2, d2, ds2, p2, q2, rfl, rfl, rfl, h2, r2⟩ := trodAll_cons r1
  obtain ⟨v3, vs3, d3, ds3, p3, q3, rfl, rfl, rfl, h3, r3⟩ := trodAll_cons r2
  obtain ⟨v4, vs4, d4, ds4, p4, q4, rfl, rfl, rfl, h4, r4⟩ := trodAll_cons r3
  obtain ⟨rfl, rfl, rfl⟩ := trodAll_nil r4
  obtain rfl : args = #[v0, v1, v2, v3, v4] := by cases args; simp_all
  obtain ⟨rfl, rfl⟩ := trodVars_none hV
  have k0 := h0
  have lt0 : ∀ x ∈ p0, x.block < W.heap.size := by obtain ⟨m, hm⟩ := k0; exact DataW.trod_lt m _ _ _ hm
  have k1 := h1
  have lt1 : ∀ x ∈ p1, x.block < W.heap.size := by obtain ⟨m, hm⟩ := k1; exact DataW.trod_lt m _ _ _ hm
  have k2 := h2
  have lt2 : ∀ x ∈ p2, x.block < W.heap.size := by obtain ⟨m, hm⟩ := k2; exact DataW.trod_lt m _ _ _ hm
  have k3 := h3
  have lt3 : ∀ x ∈ p3, x.block < W.heap.size := by obtain ⟨m, hm⟩ := k3; exact DataW.trod_lt m _ _ _ hm
  have k4 := h4
  have lt4 : ∀ x ∈ p4, x.block < W.heap.size := by obtain ⟨m, hm⟩ := k4; exact DataW.trod_lt m _ _ _ hm
  obtain ⟨a0, rfl, rfl, rfl, w0⟩ := open_int Tryz.underlying2 (hval 0 2 v0 rfl rfl) h0
  have b0 := bounds_i64 w0
  obtain ⟨a1, rfl, rfl, rfl, w1⟩ := open_int Tryz.underlying2 (hval 1 2 v1 rfl rfl) h1
  have b1 := bounds_i64 w1
  obtain ⟨a2, len2, cap2, rfl⟩ := okWide_slice Tryz.underlying22 (hval 2 22 v2 rfl rfl)
  obtain ⟨l2, hl2, hn2⟩ : ∃ l, Reads W W.heap.size 1 a2 len2 (ints l) ∧ len2 ≤ maxLen := by
    obtain ⟨fuel, hf⟩ := h2
    rcases open_ints Tryz.underlying22 Tryz.underlying2 (by kernel_rfl) hf with ⟨hcs, _⟩ | ⟨x, l, c, zs, hcs, _, hl, hm, hz, _, hcell, hwz⟩
    · simp [Value.cells] at hcs
      obtain ⟨rfl, rfl, rfl⟩ := hcs
      exact ⟨[], Reads.empty, by simp [maxLen]⟩
    · simp [Value.cells] at hcs
      obtain ⟨rfl, rfl, rfl⟩ := hcs
      obtain ⟨l, hl2⟩ := ints_of hl (by simpa using hz) hcell
      exact ⟨l, hl2, Nat.le_trans hl hm⟩
  obtain ⟨a3, len3, cap3, rfl⟩ := okWide_slice Tryz.underlying49 (hval 3 49 v3 rfl rfl)
  obtain ⟨l3, hl3, hn3⟩ := open_acts h3
  obtain ⟨ca4, cb4, cc4, cd4, ea4, eb4, ec4, ed4, em4, rfl, rfl, rfl, ha4, hb4, hc4, hd4⟩ := open_agg4 Tryz.underlying24 (by kernel_rfl) (by kernel_rfl) (hval 4 24 v4 rfl rfl) h4
  obtain ⟨x4, fx4, rfl, wx4⟩ := DataW.trod_int Tryz.underlying2 ha4
  obtain ⟨y4, fy4, rfl, wy4⟩ := DataW.trod_int Tryz.underlying2 hb4
  obtain ⟨z4, fz4, rfl, wz4⟩ := DataW.trod_int Tryz.underlying2 hc4
  obtain ⟨u4, fu4, rfl, wu4⟩ := DataW.trod_int Tryz.underlying2 hd4
  simp at fx4 fy4 fz4 fu4
  subst fx4 fy4 fz4 fu4
  have bx4 := bounds_i64 wx4
  have by4 := bounds_i64 wy4
  have bz4 := bounds_i64 wz4
  have bu4 := bounds_i64 wu4
  clear hA0 hval0
  refine (SnapFollows_walk a0 a1 a2 len2 cap2 l2 a3 len3 cap3 l3 x4 y4 z4 u4 W b0.1 b0.2 b1.1 b1.2 hl2 hn2 hl3 hn3 bx4.1 bx4.2 by4.1 by4.2 bz4.1 bz4.2 bu4.1 bu4.2).mono fun e W' ⟨he, bel⟩ => ?_
  subst he
  exact ⟨_, rfl, _, _, _, [], _, [], hW', trodAll_mk1 (shut_bool Tryz.underlying4 _), (trodAll_cons_mk (Below.trod laidOut (by kernel_rfl) (of_decide_eq_true (by kernel_rfl)) k0 bel lt0) (trodAll_cons_mk (Below.trod laidOut (by kernel_rfl) (of_decide_eq_true (by kernel_rfl)) k1 bel lt1) (trodAll_cons_mk (Below.trod laidOut (by kernel_rfl) (of_decide_eq_true (by kernel_rfl)) k2 bel lt2) (trodAll_cons_mk (Below.trod laidOut (by kernel_rfl) (of_decide_eq_true (by kernel_rfl)) k3 bel lt3) (trodAll_cons_mk (Below.trod laidOut (by kernel_rfl) (of_decide_eq_true (by kernel_rfl)) k4 bel lt4) trodAll_mk0))))), rfl, bel.frame _, fun h => by cases h⟩

theorem over : Rows.snapFollowsRow.holds Tryz.pinned (OpenSpec.ofChange Rows.snapFollowsSpec) :=
  OpenClaim.holds_of_wide 5 Tryz.f5 rfl rfl rfl rfl rfl rfl rfl ⟨rfl, rfl, rfl, rfl, rfl⟩ rfl rfl rfl rfl rfl (by kernel_rfl) Tryz.func5 (by kernel_rfl)
    (of_decide_eq_true (by kernel_rfl)) (by unfold Func.isWrapper; first | (rw [if_pos (by decide +kernel)]; kernel_rfl) | (rw [if_neg (by decide +kernel)]; exact ⟨rfl, rfl⟩))
    (fun os started H enc _ => lifted os started H enc)
end Go.Proofs.YtlplbgbnojibmaaGreat.snapFollowsRow
namespace Go.Proofs.YtlplbgbnojibmaaGreat

theorem snapFollows_holds : Rows.SnapFollowsSaid := snapFollowsRow.over
#print axioms snapFollows_holds
end Go.Proofs.YtlplbgbnojibmaaGreat

