/-
  The statement SnapChooses: for every input the call returns true. The texts: SnapI, SnapChoosesRow.
-/
import Derived.Test.YtgdbdebieghnkaaGreatPartT
import Derived.ProofKit
import Derived.OpenShut
import Derived.Lib.SmallJoins
/-
  Which one tells: the walk of SnapChooses.
-/
namespace Go.Proofs.YtgdbdebieghnkaaGreat
open Go.RowKit
open Sy
set_option linter.unusedVariables false
set_option linter.unusedSimpArgs false
set_option maxRecDepth 100000
set_option maxHeartbeats 4000000

theorem gdN {b : Bool} {A B : Prop} (h : b = false) (a : B) : (b = true → A) ∧ (b = (!true) → B) := ⟨(fun h' => by rw [h] at h'; cases h'), fun _ => a⟩
theorem SnapChooses_walk (W H : Int) (A : Option Addr) (n c : Nat) (l : List Int) (W' H' : Int) (A' : Option Addr) (n' c' : Nat) (l' : List Int) (st v : Int) (x0 y0 x1 y1 : Int) (w : World) (_ : -9223372036854775808 ≤ W) (_ : W ≤ 9223372036854775807) (_ : -9223372036854775808 ≤ H) (_ : H ≤ 9223372036854775807) (ha : Reads w w.heap.size 1 A n (ints l)) (hn : n ≤ maxLen)
    (_ : -9223372036854775808 ≤ W') (_ : W' ≤ 9223372036854775807) (_ : -9223372036854775808 ≤ H') (_ : H' ≤ 9223372036854775807) (ha' : Reads w w.heap.size 1 A' n' (ints l')) (hn' : n' ≤ maxLen) (_ : -9223372036854775808 ≤ st) (_ : st ≤ 9223372036854775807) (_ : -9223372036854775808 ≤ v) (_ : v ≤ 9223372036854775807)
    (_ : -9223372036854775808 ≤ x0) (_ : x0 ≤ 9223372036854775807) (_ : -9223372036854775808 ≤ y0) (_ : y0 ≤ 9223372036854775807) (_ : -9223372036854775808 ≤ x1) (_ : x1 ≤ 9223372036854775807) (_ : -9223372036854775808 ≤ y1) (_ : y1 ≤ 9223372036854775807) :
    Calls Tryz.prog 3 #[.int .i64 W, .int .i64 H, .slice A n c, .int .i64 W', .int .i64 H', .slice A' n' c', .int .i64 st, .int .i64 v, .agg #[.int .i64 x0, .int .i64 y0, .int .i64 x1, .int .i64 y1]] w fun e w' => e = .returned (.bool true) ∧ Below w.heap.size w w' := by
  refine PureR.below (args := [.int .i64 W, .int .i64 H, .slice A n c, .int .i64 W', .int .i64 H', .slice A' n' c', .int .i64 st, .int .i64 v, Q4.v ⟨x0, y0, x1, y1⟩]) ?_
  generalize (⟨x0, y0, x1, y1⟩ : Q4) = rr
  have hv := vs_of_reads ha
  have hv' := vs_of_reads ha'
  have hl : l.length = n := by have := ha.1; simpa [ints] using this
  have hl' : l'.length = n' := by have := ha'.1; simpa [ints] using this
  by_cases hok : LandOk W H 1000 n l
  · by_cases hok' : LandOk W' H' 1000 n' l'
    · obtain ⟨W, H, rfl, rfl, w1, w2, h1, h2, hWH, hn0, hn1⟩ := land_nat hok (by decide)
      obtain ⟨W', H', rfl, rfl, w1', w2', h1', h2', hWH', hn0', hn1'⟩ := land_nat hok' (by decide)
      have hm := hok.2.2.2.2.2.2
      have hm' := hok'.2.2.2.2.2.2
      have hmv := gv_may hWH hl hm
      have hf := far_of_may hmv
      have hf' := far_of_may (gv_may hWH' hl' hm')
      refine fn_of_run0 false Tryz.func3 rfl hmix rfl fun w0 => ?_
      refine run_cut fun B hB => ?_
      conv => whnf
      (rw [hB]; clear hB B; refine run_cut fun B hB => ?_; conv => whnf)
      refine ⟨trivial, CallAt.pure (fun R' hR' => sAwake22 R') ?_⟩
      conv => whnf
      refine iff_f rfl ?_
      conv => whnf
      (rw [hB]; clear hB B; refine run_cut fun B hB => ?_; conv => whnf)
      refine ⟨trivial, CallAt.pure (fun R' hR' => sLandYes (hv.mono fun w s => hR' w s) (by decide) hn hok) ?_⟩
      conv => whnf
      (rw [hB]; clear hB B; refine run_cut fun B hB => ?_; conv => whnf)
      refine ⟨trivial, CallAt.pure (fun R' hR' => sLandYes (hv'.mono fun w s => hR' w s) (by decide) hn' hok') ?_⟩
      conv => whnf
      (rw [hB]; clear hB B; refine run_cut fun B hB => ?_; conv => whnf)
      repeat (first | (refine ⟨fun _ => ?_, fun h => absurd h (by decide)⟩; conv => whnf) | (refine ⟨fun h => absurd h (by decide), fun _ => ?_⟩; conv => whnf))
      (rw [hB]; clear hB B; refine run_cut fun B hB => ?_; conv => whnf)
      refine ⟨trivial, CallAt.fn (pre := []) _ (fun h s => s) (fun R' hR' => sMadeV (hv.mono fun w s => hR' w s) w1 w2 h1 h2 hWH hm) ?_⟩
      rintro r hs ⟨gb, rfl, rfl⟩
      conv => whnf
      (rw [hB]; clear hB B; refine run_cut fun B hB => ?_; conv => whnf)
      refine ⟨trivial, CallAt.fn (pre := []) _ (fun h s => s) (fun R' hR' => sMadeV (hv'.mono fun w s => (hR' w s).rest) w1' w2' h1' h2' hWH' hm') ?_⟩
      rintro r hs ⟨gb', rfl, rfl⟩
      conv => whnf
      (rw [hB]; clear hB B; refine run_cut fun B hB => ?_; conv => whnf)
      refine ⟨trivial, CallAt.fn (pre := []) _ (fun h s => s) (fun R' hR' => sFollow hf (gridAt_rest 1 rfl hR')) ?_⟩
      rintro r hs ⟨lb, rfl, rfl⟩
      conv => whnf
      (rw [hB]; clear hB B; refine run_cut fun B hB => ?_; conv => whnf)
      refine ⟨trivial, CallAt.fn (pre := []) _ (fun h s => s) (fun R' hR' => sTakeQ st hf' (gridAt_rest 1 rfl hR')) ?_⟩
      rintro r hs ⟨sb, rfl, rfl⟩
      conv => whnf
      (rw [hB]; clear hB B; refine run_cut fun B hB => ?_; conv => whnf)
      repeat (first | (refine ⟨fun _ => ?_, fun h => absurd h (by decide)⟩; conv => whnf) | (refine ⟨fun h => absurd h (by decide), fun _ => ?_⟩; conv => whnf))
      (rw [hB]; clear hB B; refine run_cut fun B hB => ?_; conv => whnf)
      by_cases e1 : st = v
      · refine gdT (decide_eq_true e1) ?_
        conv => whnf
        by_cases e2 : W = W'
        · refine gdT (decide_eq_true (by omega)) ?_
          conv => whnf
          by_cases e3 : H = H'
          · have hT : tellsB st v W W' H H' = true := by
              unfold tellsB
              rw [decide_eq_true e1, decide_eq_true e2, decide_eq_true e3]
              rfl
            rw [@decide_eq_true _ _ (show (H : Int) = (H' : Int) by omega)]
            (rw [hB]; clear hB B; refine run_cut fun B hB => ?_; conv => whnf)
            refine ⟨trivial, CallAt.pure (fun R' hR' => sLvSumQ v rr hf (by omega) (by omega) hf' (by omega) (by omega) (fun w s => (hR' w s).in_ 1 rfl) (gridAt_rest 3 rfl hR') (fun w s => (hR' w s).in_ 0 rfl)) ?_⟩
            conv => whnf
            rw [hT]
            (rw [hB]; clear hB B; refine run_cut fun B hB => ?_; conv => whnf)
            refine ⟨trivial, CallAt.pure (fun R' hR' => sR22Sum (hv.mono fun w s => (hR' w s).rest) hWH (by omega) (by omega) hf (hv'.mono fun w s => (hR' w s).rest) hWH' (by omega) (by omega) hf' true rr) ?_⟩
            conv => whnf
            (rw [hB]; clear hB B; refine run_cut fun B hB => ?_; conv => whnf)
            refine ⟨trivial, CallAt.pure (fun R' hR' => sLvRangeQ v rr (by omega) (by omega) hmv (by omega) (by omega) (fun w s => (hR' w s).in_ 1 rfl) (gridAt_rest 3 rfl hR') (fun w s => (hR' w s).in_ 0 rfl)) ?_⟩
            conv => whnf
            rw [hT]
            (rw [hB]; clear hB B; refine run_cut fun B hB => ?_; conv => whnf)
            refine ⟨trivial, CallAt.pure (fun R' hR' => sR22Range (hv.mono fun w s => (hR' w s).rest) hWH (by omega) (by omega) (hv'.mono fun w s => (hR' w s).rest) hWH' (by omega) (by omega) true rr) ?_⟩
            conv => whnf
            generalize toldS true W H (gv W l) W' H' (gv W' l') rr = qs at *
            generalize toldR true W H (gv W l) W' H' (gv W' l') rr = qr at *
            generalize (true && decide (qs.2 = 0)) = fl at *
            generalize (true && decide (qr.2 = 0)) = fr at *
            cases fl
            · cases fr
              · (rw [hB]; clear hB B; conv => whnf)
                repeat (refine ⟨fun _ => ?_, fun h => absurd h (by simp)⟩; conv => whnf)
                refine ⟨trivial, OpAt.aggEq rfl rfl rfl rfl (by kernel_rfl) (fun w => rng_eq _ _ _ _ w) ?_⟩
                conv => whnf
                repeat (refine ⟨fun _ => ?_, fun h => absurd h (by simp)⟩; conv => whnf)
                exact ⟨trivial, fin_drop (by rw [@decide_eq_true _ _ (rfl : qr.2 = qr.2)]; rfl)⟩
              · (rw [hB]; clear hB B; conv => whnf)
                repeat (refine ⟨fun _ => ?_, fun h => absurd h (by simp)⟩; conv => whnf)
                refine ⟨trivial, OpAt.aggEq rfl rfl rfl rfl (by kernel_rfl) (fun w => rng_eq _ _ _ _ w) ?_⟩
                conv => whnf
                repeat (refine ⟨fun _ => ?_, fun h => absurd h (by simp)⟩; conv => whnf)
                exact ⟨trivial, fin_drop (by rw [@decide_eq_true _ _ (rfl : qr.2 = qr.2)]; rfl)⟩
            · cases fr
              · (rw [hB]; clear hB B; conv => whnf)
                repeat (refine ⟨fun _ => ?_, fun h => absurd h (by simp)⟩; conv => whnf)
                refine ⟨trivial, OpAt.aggEq rfl rfl rfl rfl (by kernel_rfl) (fun w => rng_eq _ _ _ _ w) ?_⟩
                conv => whnf
                repeat (refine ⟨fun _ => ?_, fun h => absurd h (by simp)⟩; conv => whnf)
                exact ⟨trivial, fin_drop (by rw [@decide_eq_true _ _ (rfl : qr.2 = qr.2)]; rfl)⟩
              · (rw [hB]; clear hB B; conv => whnf)
                repeat (refine ⟨fun _ => ?_, fun h => absurd h (by simp)⟩; conv => whnf)
                refine ⟨trivial, OpAt.aggEq rfl rfl rfl rfl (by kernel_rfl) (fun w => rng_eq _ _ _ _ w) ?_⟩
                conv => whnf
                repeat (refine ⟨fun _ => ?_, fun h => absurd h (by simp)⟩; conv => whnf)
                exact ⟨trivial, fin_drop (by rw [@decide_eq_true _ _ (rfl : qr.2 = qr.2)]; rfl)⟩
          · have hT : tellsB st v W W' H H' = false := by
              unfold tellsB
              rw [decide_eq_false e3]
              simp
            rw [@decide_eq_false _ _ (show ¬ (H : Int) = (H' : Int) by omega)]
            (rw [hB]; clear hB B; refine run_cut fun B hB => ?_; conv => whnf)
            refine ⟨trivial, CallAt.pure (fun R' hR' => sLvSumQ v rr hf (by omega) (by omega) hf' (by omega) (by omega) (fun w s => (hR' w s).in_ 1 rfl) (gridAt_rest 3 rfl hR') (fun w s => (hR' w s).in_ 0 rfl)) ?_⟩
            conv => whnf
            rw [hT]
            (rw [hB]; clear hB B; refine run_cut fun B hB => ?_; conv => whnf)
            refine ⟨trivial, CallAt.pure (fun R' hR' => sR22Sum (hv.mono fun w s => (hR' w s).rest) hWH (by omega) (by omega) hf (hv'.mono fun w s => (hR' w s).rest) hWH' (by omega) (by omega) hf' false rr) ?_⟩
            conv => whnf
            (rw [hB]; clear hB B; refine run_cut fun B hB => ?_; conv => whnf)
            refine ⟨trivial, CallAt.pure (fun R' hR' => sLvRangeQ v rr (by omega) (by omega) hmv (by omega) (by omega) (fun w s => (hR' w s).in_ 1 rfl) (gridAt_rest 3 rfl hR') (fun w s => (hR' w s).in_ 0 rfl)) ?_⟩
            conv => whnf
            rw [hT]
            (rw [hB]; clear hB B; refine run_cut fun B hB => ?_; conv => whnf)
            refine ⟨trivial, CallAt.pure (fun R' hR' => sR22Range (hv.mono fun w s => (hR' w s).rest) hWH (by omega) (by omega) (hv'.mono fun w s => (hR' w s).rest) hWH' (by omega) (by omega) false rr) ?_⟩
            conv => whnf
            generalize toldS false W H (gv W l) W' H' (gv W' l') rr = qs at *
            generalize toldR false W H (gv W l) W' H' (gv W' l') rr = qr at *
            generalize (false && decide (qs.2 = 0)) = fl at *
            generalize (false && decide (qr.2 = 0)) = fr at *
            cases fl
            · cases fr
              · (rw [hB]; clear hB B; conv => whnf)
                repeat (refine ⟨fun _ => ?_, fun h => absurd h (by simp)⟩; conv => whnf)
                refine ⟨trivial, OpAt.aggEq rfl rfl rfl rfl (by kernel_rfl) (fun w => rng_eq _ _ _ _ w) ?_⟩
                conv => whnf
                repeat (refine ⟨fun _ => ?_, fun h => absurd h (by simp)⟩; conv => whnf)
                exact ⟨trivial, fin_drop (by rw [@decide_eq_true _ _ (rfl : qr.2 = qr.2)]; rfl)⟩
              · (rw [hB]; clear hB B; conv => whnf)
                repeat (refine ⟨fun _ => ?_, fun h => absurd h (by simp)⟩; conv => whnf)
                refine ⟨trivial, OpAt.aggEq rfl rfl rfl rfl (by kernel_rfl) (fun w => rng_eq _ _ _ _ w) ?_⟩
                conv => whnf
                repeat (refine ⟨fun _ => ?_, fun h => absurd h (by simp)⟩; conv => whnf)
                exact ⟨trivial, fin_drop (by rw [@decide_eq_true _ _ (rfl : qr.2 = qr.2)]; rfl)⟩
            · cases fr
              · (rw [hB]; clear hB B; conv => whnf)
                repeat (refine ⟨fun _ => ?_, fun h => absurd h (by simp)⟩; conv => whnf)
                refine ⟨trivial, OpAt.aggEq rfl rfl rfl rfl (by kernel_rfl) (fun w => rng_eq _ _ _ _ w) ?_⟩
                conv => whnf
                repeat (refine ⟨fun _ => ?_, fun h => absurd h (by simp)⟩; conv => whnf)
                exact ⟨trivial, fin_drop (by rw [@decide_eq_true _ _ (rfl : qr.2 = qr.2)]; rfl)⟩
              · (rw [hB]; clear hB B; conv => whnf)
                repeat (refine ⟨fun _ => ?_, fun h => absurd h (by simp)⟩; conv => whnf)
                refine ⟨trivial, OpAt.aggEq rfl rfl rfl rfl (by kernel_rfl) (fun w => rng_eq _ _ _ _ w) ?_⟩
                conv => whnf
                repeat (refine ⟨fun _ => ?_, fun h => absurd h (by simp)⟩; conv => whnf)
                exact ⟨trivial, fin_drop (by rw [@decide_eq_true _ _ (rfl : qr.2 = qr.2)]; rfl)⟩
        · have hT : tellsB st v W W' H H' = false := by
            unfold tellsB
            rw [decide_eq_false e2]
            simp
          refine gdN (decide_eq_false (by omega)) ?_
          conv => whnf
          (rw [hB]; clear hB B; refine run_cut fun B hB => ?_; conv => whnf)
          refine ⟨trivial, CallAt.pure (fun R' hR' => sLvSumQ v rr hf (by omega) (by omega) hf' (by omega) (by omega) (fun w s => (hR' w s).in_ 1 rfl) (gridAt_rest 3 rfl hR') (fun w s => (hR' w s).in_ 0 rfl)) ?_⟩
          conv => whnf
          rw [hT]
          (rw [hB]; clear hB B; refine run_cut fun B hB => ?_; conv => whnf)
          refine ⟨trivial, CallAt.pure (fun R' hR' => sR22Sum (hv.mono fun w s => (hR' w s).rest) hWH (by omega) (by omega) hf (hv'.mono fun w s => (hR' w s).rest) hWH' (by omega) (by omega) hf' false rr) ?_⟩
          conv => whnf
          (rw [hB]; clear hB B; refine run_cut fun B hB => ?_; conv => whnf)
          refine ⟨trivial, CallAt.pure (fun R' hR' => sLvRangeQ v rr (by omega) (by omega) hmv (by omega) (by omega) (fun w s => (hR' w s).in_ 1 rfl) (gridAt_rest 3 rfl hR') (fun w s => (hR' w s).in_ 0 rfl)) ?_⟩
          conv => whnf
          rw [hT]
          (rw [hB]; clear hB B; refine run_cut fun B hB => ?_; conv => whnf)
          refine ⟨trivial, CallAt.pure (fun R' hR' => sR22Range (hv.mono fun w s => (hR' w s).rest) hWH (by omega) (by omega) (hv'.mono fun w s => (hR' w s).rest) hWH' (by omega) (by omega) false rr) ?_⟩
          conv => whnf
          generalize toldS false W H (gv W l) W' H' (gv W' l') rr = qs at *
          generalize toldR false W H (gv W l) W' H' (gv W' l') rr = qr at *
          generalize (false && decide (qs.2 = 0)) = fl at *
          generalize (false && decide (qr.2 = 0)) = fr at *
          cases fl
          · cases fr
            · (rw [hB]; clear hB B; conv => whnf)
              repeat (refine ⟨fun _ => ?_, fun h => absurd h (by simp)⟩; conv => whnf)
              refine ⟨trivial, OpAt.aggEq rfl rfl rfl rfl (by kernel_rfl) (fun w => rng_eq _ _ _ _ w) ?_⟩
              conv => whnf
              repeat (refine ⟨fun _ => ?_, fun h => absurd h (by simp)⟩; conv => whnf)
              exact ⟨trivial, fin_drop (by rw [@decide_eq_true _ _ (rfl : qr.2 = qr.2)]; rfl)⟩
            · (rw [hB]; clear hB B; conv => whnf)
              repeat (refine ⟨fun _ => ?_, fun h => absurd h (by simp)⟩; conv => whnf)
              refine ⟨trivial, OpAt.aggEq rfl rfl rfl rfl (by kernel_rfl) (fun w => rng_eq _ _ _ _ w) ?_⟩
              conv => whnf
              repeat (refine ⟨fun _ => ?_, fun h => absurd h (by simp)⟩; conv => whnf)
              exact ⟨trivial, fin_drop (by rw [@decide_eq_true _ _ (rfl : qr.2 = qr.2)]; rfl)⟩
          · cases fr
            · (rw [hB]; clear hB B; conv => whnf)
              repeat (refine ⟨fun _ => ?_, fun h => absurd h (by simp)⟩; conv => whnf)
              refine ⟨trivial, OpAt.aggEq rfl rfl rfl rfl (by kernel_rfl) (fun w => rng_eq _ _ _ _ w) ?_⟩
              conv => whnf
              repeat (refine ⟨fun _ => ?_, fun h => absurd h (by simp)⟩; conv => whnf)
              exact ⟨trivial, fin_drop (by rw [@decide_eq_true _ _ (rfl : qr.2 = qr.2)]; rfl)⟩
            · (rw [hB]; clear hB B; conv => whnf)
              repeat (refine ⟨fun _ => ?_, fun h => absurd h (by simp)⟩; conv => whnf)
              refine ⟨trivial, OpAt.aggEq rfl rfl rfl rfl (by kernel_rfl) (fun w => rng_eq _ _ _ _ w) ?_⟩
              conv => whnf
              repeat (refine ⟨fun _ => ?_, fun h => absurd h (by simp)⟩; conv => whnf)
              exact ⟨trivial, fin_drop (by rw [@decide_eq_true _ _ (rfl : qr.2 = qr.2)]; rfl)⟩
      · have hT : tellsB st v W W' H H' = false := by
          unfold tellsB
          rw [decide_eq_false e1]
          rfl
        refine gdN (decide_eq_false e1) ?_
        conv => whnf
        repeat (first | (refine ⟨fun _ => ?_, fun h => absurd h (by decide)⟩; conv => whnf) | (refine ⟨fun h => absurd h (by decide), fun _ => ?_⟩; conv => whnf))
        (rw [hB]; clear hB B; refine run_cut fun B hB => ?_; conv => whnf)
        refine ⟨trivial, CallAt.pure (fun R' hR' => sLvSumQ v rr hf (by omega) (by omega) hf' (by omega) (by omega) (fun w s => (hR' w s).in_ 1 rfl) (gridAt_rest 3 rfl hR') (fun w s => (hR' w s).in_ 0 rfl)) ?_⟩
        conv => whnf
        rw [hT]
        (rw [hB]; clear hB B; refine run_cut fun B hB => ?_; conv => whnf)
        refine ⟨trivial, CallAt.pure (fun R' hR' => sR22Sum (hv.mono fun w s => (hR' w s).rest) hWH (by omega) (by omega) hf (hv'.mono fun w s => (hR' w s).rest) hWH' (by omega) (by omega) hf' false rr) ?_⟩
        conv => whnf
        (rw [hB]; clear hB B; refine run_cut fun B hB => ?_; conv => whnf)
        refine ⟨trivial, CallAt.pure (fun R' hR' => sLvRangeQ v rr (by omega) (by omega) hmv (by omega) (by omega) (fun w s => (hR' w s).in_ 1 rfl) (gridAt_rest 3 rfl hR') (fun w s => (hR' w s).in_ 0 rfl)) ?_⟩
        conv => whnf
        rw [hT]
        (rw [hB]; clear hB B; refine run_cut fun B hB => ?_; conv => whnf)
        refine ⟨trivial, CallAt.pure (fun R' hR' => sR22Range (hv.mono fun w s => (hR' w s).rest) hWH (by omega) (by omega) (hv'.mono fun w s => (hR' w s).rest) hWH' (by omega) (by omega) false rr) ?_⟩
        conv => whnf
        generalize toldS false W H (gv W l) W' H' (gv W' l') rr = qs at *
        generalize toldR false W H (gv W l) W' H' (gv W' l') rr = qr at *
        generalize (false && decide (qs.2 = 0)) = fl at *
        generalize (false && decide (qr.2 = 0)) = fr at *
        cases fl
        · cases fr
          · (rw [hB]; clear hB B; conv => whnf)
            repeat (refine ⟨fun _ => ?_, fun h => absurd h (by simp)⟩; conv => whnf)
            refine ⟨trivial, OpAt.aggEq rfl rfl rfl rfl (by kernel_rfl) (fun w => rng_eq _ _ _ _ w) ?_⟩
            conv => whnf
            repeat (refine ⟨fun _ => ?_, fun h => absurd h (by simp)⟩; conv => whnf)
            exact ⟨trivial, fin_drop (by rw [@decide_eq_true _ _ (rfl : qr.2 = qr.2)]; rfl)⟩
          · (rw [hB]; clear hB B; conv => whnf)
            repeat (refine ⟨fun _ => ?_, fun h => absurd h (by simp)⟩; conv => whnf)
            refine ⟨trivial, OpAt.aggEq rfl rfl rfl rfl (by kernel_rfl) (fun w => rng_eq _ _ _ _ w) ?_⟩
            conv => whnf
            repeat (refine ⟨fun _ => ?_, fun h => absurd h (by simp)⟩; conv => whnf)
            exact ⟨trivial, fin_drop (by rw [@decide_eq_true _ _ (rfl : qr.2 = qr.2)]; rfl)⟩
        · cases fr
          · (rw [hB]; clear hB B; conv => whnf)
            repeat (refine ⟨fun _ => ?_, fun h => absurd h (by simp)⟩; conv => whnf)
            refine ⟨trivial, OpAt.aggEq rfl rfl rfl rfl (by kernel_rfl) (fun w => rng_eq _ _ _ _ w) ?_⟩
            conv => whnf
            repeat (refine ⟨fun _ => ?_, fun h => absurd h (by simp)⟩; conv => whnf)
            exact ⟨trivial, fin_drop (by rw [@decide_eq_true _ _ (rfl : qr.2 = qr.2)]; rfl)⟩
          · (rw [hB]; clear hB B; conv => whnf)
            repeat (refine ⟨fun _ => ?_, fun h => absurd h (by simp)⟩; conv => whnf)
            refine ⟨trivial, OpAt.aggEq rfl rfl rfl rfl (by kernel_rfl) (fun w => rng_eq _ _ _ _ w) ?_⟩
            conv => whnf
            repeat (refine ⟨fun _ => ?_, fun h => absurd h (by simp)⟩; conv => whnf)
            exact ⟨trivial, fin_drop (by rw [@decide_eq_true _ _ (rfl : qr.2 = qr.2)]; rfl)⟩
    · refine fn_of_run0 false Tryz.func3 rfl hmix rfl fun w0 => ?_
      refine run_cut fun B hB => ?_
      conv => whnf
      (rw [hB]; clear hB B; refine run_cut fun B hB => ?_; conv => whnf)
      refine ⟨trivial, CallAt.pure (fun R' hR' => sAwake22 R') ?_⟩
      conv => whnf
      refine iff_f rfl ?_
      conv => whnf
      (rw [hB]; clear hB B; refine run_cut fun B hB => ?_; conv => whnf)
      refine ⟨trivial, CallAt.pure (fun R' hR' => sLandYes (hv.mono fun w s => hR' w s) (by decide) hn hok) ?_⟩
      conv => whnf
      (rw [hB]; clear hB B; refine run_cut fun B hB => ?_; conv => whnf)
      refine ⟨trivial, CallAt.pure (fun R' hR' => sLandNo (hv'.mono fun w s => hR' w s) (by decide) hn' hok') ?_⟩
      conv => whnf
      (rw [hB]; clear hB B; refine run_cut fun B hB => ?_; conv => whnf)
      repeat (first | (refine ⟨fun _ => ?_, fun h => absurd h (by decide)⟩; conv => whnf) | (refine ⟨fun h => absurd h (by decide), fun _ => ?_⟩; conv => whnf))
      exact ⟨trivial, fin_pure rfl rfl⟩
  · by_cases hok' : LandOk W' H' 1000 n' l'
    · refine fn_of_run0 false Tryz.func3 rfl hmix rfl fun w0 => ?_
      refine run_cut fun B hB => ?_
      conv => whnf
      (rw [hB]; clear hB B; refine run_cut fun B hB => ?_; conv => whnf)
      refine ⟨trivial, CallAt.pure (fun R' hR' => sAwake22 R') ?_⟩
      conv => whnf
      refine iff_f rfl ?_
      conv => whnf
      (rw [hB]; clear hB B; refine run_cut fun B hB => ?_; conv => whnf)
      refine ⟨trivial, CallAt.pure (fun R' hR' => sLandNo (hv.mono fun w s => hR' w s) (by decide) hn hok) ?_⟩
      conv => whnf
      (rw [hB]; clear hB B; refine run_cut fun B hB => ?_; conv => whnf)
      refine ⟨trivial, CallAt.pure (fun R' hR' => sLandYes (hv'.mono fun w s => hR' w s) (by decide) hn' hok') ?_⟩
      conv => whnf
      (rw [hB]; clear hB B; refine run_cut fun B hB => ?_; conv => whnf)
      repeat (first | (refine ⟨fun _ => ?_, fun h => absurd h (by decide)⟩; conv => whnf) | (refine ⟨fun h => absurd h (by decide), fun _ => ?_⟩; conv => whnf))
      exact ⟨trivial, fin_pure rfl rfl⟩
    · refine fn_of_run0 false Tryz.func3 rfl hmix rfl fun w0 => ?_
      refine run_cut fun B hB => ?_
      conv => whnf
      (rw [hB]; clear hB B; refine run_cut fun B hB => ?_; conv => whnf)
      refine ⟨trivial, CallAt.pure (fun R' hR' => sAwake22 R') ?_⟩
      conv => whnf
      refine iff_f rfl ?_
      conv => whnf
      (rw [hB]; clear hB B; refine run_cut fun B hB => ?_; conv => whnf)
      refine ⟨trivial, CallAt.pure (fun R' hR' => sLandNo (hv.mono fun w s => hR' w s) (by decide) hn hok) ?_⟩
      conv => whnf
      (rw [hB]; clear hB B; refine run_cut fun B hB => ?_; conv => whnf)
      refine ⟨trivial, CallAt.pure (fun R' hR' => sLandNo (hv'.mono fun w s => hR' w s) (by decide) hn' hok') ?_⟩
      conv => whnf
      (rw [hB]; clear hB B; refine run_cut fun B hB => ?_; conv => whnf)
      repeat (first | (refine ⟨fun _ => ?_, fun h => absurd h (by decide)⟩; conv => whnf) | (refine ⟨fun h => absurd h (by decide), fun _ => ?_⟩; conv => whnf))
      exact ⟨trivial, fin_pure rfl rfl⟩
end Go.Proofs.YtgdbdebieghnkaaGreat

/-
  The statement of hachurelaw22.SnapChooses: for every input the call returns true, and each argument reads afterwards as it read before. The row's own frame round the walk 'SnapChooses_walk'.
-/
namespace Go.Proofs.YtgdbdebieghnkaaGreat.snapChoosesRow
open Go.Proofs.YtgdbdebieghnkaaGreat
open Go.ChangeShapes Go.WideShapes Go.ChangeAt Go.RowKit Go.Joins
set_option linter.unusedVariables false

theorem own : ownKnob Tryz.prog.godebug = none := by kernel_rfl
theorem laidOut : laidOutB Tryz.prog = true := by kernel_rfl


set_option maxRecDepth 100000 in
theorem lifted (os : Os) (started : os.Started) (H : Type) (enc : TypeId × Value → H) :
    ReturnsInHanded {} Tryz.checked os 3 .any (Rows.snapChoosesSpec.pre6 enc Tryz.prog Tryz.f3 Rows.snapChoosesRow.domain false) (Rows.snapChoosesSpec.post enc Tryz.prog Tryz.f3 false true false false) := by
  refine returnsInHanded_of_change (C := Tryz.checked) own started (by kernel_rfl) Tryz.func3
    (ChangeSpec.witness6 (enc := enc) (C := Tryz.checked) false ⟨#[], #[.int .i64 0, .int .i64 0, .slice none 0 0, .int .i64 0, .int .i64 0, .slice none 0 0, .int .i64 0, .int .i64 0, .agg #[.int .i64 0, .int .i64 0, .int .i64 0, .int .i64 0]], []⟩ 8 (by kernel_rfl) (by kernel_rfl) (by kernel_rfl) (by kernel_rfl)) ?_
  intro W base args ds gs before hval0 hW hcnd _
  have hval : ∀ (j : Nat) t v, Tryz.f3.params[j]? = some t → args[j]? = some v → Value.okWide Tryz.prog W .any base t v := hval0
  have hW' := hW
  obtain ⟨p, q, hA0, hV, rfl, hfz, hnd⟩ := hW
  have hA : DataW.TrodAll enc Tryz.prog W 0 (fun _ => true) true Tryz.f3.params.toList args.toList ds p := hA0
  rw [Tryz.params3] at hA hval
  obtain ⟨v0, vs0, d0, ds0, p0, q0, hargs, rfl, rfl, h0, r0⟩ := trodAll_cons hA
  obtain ⟨v1, vs1, d1, ds1, p1, q1, rfl, rfl, rfl, h1, r1⟩ := trodAll_cons r0
  obtain ⟨v2, vs2, d2, ds2, p2, q2, rfl, rfl, rfl, h2, r2⟩ := trodAll_cons r1
  obtain ⟨v3, vs3, d3, ds3, p3, q3, rfl, rfl, rfl, h3, r3⟩ := trodAll_cons r2
  obtain ⟨v4, vs4, d4, ds4, p4, q4, rfl, rfl, rfl, h4, r4⟩ := trodAll_cons r3
  obtain ⟨v5, vs5, d5, ds5, p5, q5, rfl, rfl, rfl, h5, r5⟩ := trodAll_cons r4
  obtain ⟨v6, vs6, d6, ds6, p6, q6, rfl, rfl, rfl, h6, r6⟩ := trodAll_cons r5
  obtain ⟨v7, vs7, d7, ds7, p7, q7, rfl, rfl, rfl, h7, r7⟩ := trodAll_cons r6
  obtain ⟨v8, vs8, d8, ds8, p8, q8, rfl, rfl, rfl, h8, r8⟩ := trodAll_cons r7
  obtain ⟨rfl, rfl, rfl⟩ := trodAll_nil r8
  obtain rfl : args = #[v0, v1, v2, v3, v4, v5, v6, v7, v8] := by cases args; simp_all
  obtain ⟨rfl, rfl⟩ := trodVars_none hV
  have k0 := h0
  have lt0 : ∀ x ∈ p0, x.block < W.heap.size := by obtain ⟨m, hm⟩ := k0; exact DataW.trod_lt m _ _ _ hm
  have k1 := h1
  have lt1 : ∀ x ∈ p1, x.block < W.heap.size := by obtain ⟨m, hm⟩ := k1; exact DataW.trod_lt m _ _ _ hm
  have k2 := h2
  have lt2 : ∀ x ∈ p2, x.block < W.heap.size := by obtain ⟨m, hm⟩ := k2; exact DataW.trod_lt m _ _ _ hm
  have k3 := h3
  have lt3 : ∀ x ∈ p3, x.block < W.heap.size := by obtain ⟨m, hm⟩ := k3; exact DataW.trod_lt m _ _ _ hm
  have k4 := h4
  have lt4 : ∀ x ∈ p4, x.block < W.heap.size := by obtain ⟨m, hm⟩ := k4; exact DataW.trod_lt m _ _ _ hm
  have k5 := h5
  have lt5 : ∀ x ∈ p5, x.block < W.heap.size := by obtain ⟨m, hm⟩ := k5; exact DataW.trod_lt m _ _ _ hm
  have k6 := h6
  have lt6 : ∀ x ∈ p6, x.block < W.heap.size := by obtain ⟨m, hm⟩ := k6; exact DataW.trod_lt m _ _ _ hm
  have k7 := h7
  have lt7 : ∀ x ∈ p7, x.block < W.heap.size := by obtain ⟨m, hm⟩ := k7; exact DataW.trod_lt m _ _ _ hm
  have k8 := h8
  have lt8 : ∀ x ∈ p8, x.block < W.heap.size := by obtain ⟨m, hm⟩ := k8; exact DataW.trod_lt m _ _ _ hm
  obtain ⟨a0, rfl, rfl, rfl, w0⟩ := open_int Tryz.underlying2 (hval 0 2 v0 rfl rfl) h0
  have b0 := bounds_i64 w0
  obtain ⟨a1, rfl, rfl, rfl, w1⟩ := open_int Tryz.underlying2 (hval 1 2 v1 rfl rfl) h1
  have b1 := bounds_i64 w1
  obtain ⟨a2, len2, cap2, rfl⟩ := okWide_slice Tryz.underlying22 (hval 2 22 v2 rfl rfl)
  obtain ⟨l2, hl2, hn2⟩ : ∃ l, Reads W W.heap.size 1 a2 len2 (ints l) ∧ len2 ≤ maxLen := by
    obtain ⟨fuel, hf⟩ := h2
    rcases open_ints Tryz.underlying22 Tryz.underlying2 (by kernel_rfl) hf with ⟨hcs, _⟩ | ⟨x, l, c, zs, hcs, _, hl, hm, hz, _, hcell, hwz⟩
    · simp [Value.cells] at hcs
      obtain ⟨rfl, rfl, rfl⟩ := hcs
      exact ⟨[], Reads.empty, by simp [maxLen]⟩
    · simp [Value.cells] at hcs
      obtain ⟨rfl, rfl, rfl⟩ := hcs
      obtain ⟨l, hl2⟩ := ints_of hl (by simpa using hz) hcell
      exact ⟨l, hl2, Nat.le_trans hl hm⟩
  obtain ⟨a3, rfl, rfl, rfl, w3⟩ := open_int Tryz.underlying2 (hval 3 2 v3 rfl rfl) h3
  have b3 := bounds_i64 w3
  obtain ⟨a4, rfl, rfl, rfl, w4⟩ := open_int Tryz.underlying2 (hval 4 2 v4 rfl rfl) h4
  have b4 := bounds_i64 w4
  obtain ⟨a5, len5, cap5, rfl⟩ := okWide_slice Tryz.underlying22 (hval 5 22 v5 rfl rfl)
  obtain ⟨l5, hl5, hn5⟩ : ∃ l, Reads W W.heap.size 1 a5 len5 (ints l) ∧ len5 ≤ maxLen := by
    obtain ⟨fuel, hf⟩ := h5
    rcases open_ints Tryz.underlying22 Tryz.underlying2 (by kernel_rfl) hf with ⟨hcs, _⟩ | ⟨x, l, c, zs, hcs, _, hl, hm, hz, _, hcell, hwz⟩
    · simp [Value.cells] at hcs
      obtain ⟨rfl, rfl, rfl⟩ := hcs
      exact ⟨[], Reads.empty, by simp [maxLen]⟩
    · simp [Value.cells] at hcs
      obtain ⟨rfl, rfl, rfl⟩ := hcs
      obtain ⟨l, hl2⟩ := ints_of hl (by simpa using hz) hcell
      exact ⟨l, hl2, Nat.le_trans hl hm⟩
  obtain ⟨a6, rfl, rfl, rfl, w6⟩ := open_int Tryz.underlying2 (hval 6 2 v6 rfl rfl) h6
  have b6 := bounds_i64 w6
  obtain ⟨a7, rfl, rfl, rfl, w7⟩ := open_int Tryz.underlying2 (hval 7 2 v7 rfl rfl) h7
  have b7 := bounds_i64 w7
  obtain ⟨ca8, cb8, cc8, cd8, ea8, eb8, ec8, ed8, em8, rfl, rfl, rfl, ha8, hb8, hc8, hd8⟩ := open_agg4 Tryz.underlying24 (by kernel_rfl) (by kernel_rfl) (hval 8 24 v8 rfl rfl) h8
  obtain ⟨x8, fx8, rfl, wx8⟩ := DataW.trod_int Tryz.underlying2 ha8
  obtain ⟨y8, fy8, rfl, wy8⟩ := DataW.trod_int Tryz.underlying2 hb8
  obtain ⟨z8, fz8, rfl, wz8⟩ := DataW.trod_int Tryz.underlying2 hc8
  obtain ⟨u8, fu8, rfl, wu8⟩ := DataW.trod_int Tryz.underlying2 hd8
  simp at fx8 fy8 fz8 fu8
  subst fx8 fy8 fz8 fu8
  have bx8 := bounds_i64 wx8
  have by8 := bounds_i64 wy8
  have bz8 := bounds_i64 wz8
  have bu8 := bounds_i64 wu8
  clear hA0 hval0
  refine (SnapChooses_walk a0 a1 a2 len2 cap2 l2 a3 a4 a5 len5 cap5 l5 a6 a7 x8 y8 z8 u8 W b0.1 b0.2 b1.1 b1.2 hl2 hn2 b3.1 b3.2 b4.1 b4.2 hl5 hn5 b6.1 b6.2 b7.1 b7.2 bx8.1 bx8.2 by8.1 by8.2 bz8.1 bz8.2 bu8.1 bu8.2).mono fun e W' ⟨he, bel⟩ => ?_
  subst he
  exact ⟨_, rfl, _, _, _, [], _, [], hW', trodAll_mk1 (shut_bool Tryz.underlying4 _), (trodAll_cons_mk (Below.trod laidOut (by kernel_rfl) (of_decide_eq_true (by kernel_rfl)) k0 bel lt0) (trodAll_cons_mk (Below.trod laidOut (by kernel_rfl) (of_decide_eq_true (by kernel_rfl)) k1 bel lt1) (trodAll_cons_mk (Below.trod laidOut (by kernel_rfl) (of_decide_eq_true (by kernel_rfl)) k2 bel lt2) (trodAll_cons_mk (Below.trod laidOut (by kernel_rfl) (of_decide_eq_true (by kernel_rfl)) k3 bel lt3) (trodAll_cons_mk (Below.trod laidOut (by kernel_rfl) (of_decide_eq_true (by kernel_rfl)) k4 bel lt4) (trodAll_cons_mk (Below.trod laidOut (by kernel_rfl) (of_decide_eq_true (by kernel_rfl)) k5 bel lt5) (trodAll_cons_mk (Below.trod laidOut (by kernel_rfl) (of_decide_eq_true (by kernel_rfl)) k6 bel lt6) (trodAll_cons_mk (Below.trod laidOut (by kernel_rfl) (of_decide_eq_true (by kernel_rfl)) k7 bel lt7) (trodAll_cons_mk (Below.trod laidOut (by kernel_rfl) (of_decide_eq_true (by kernel_rfl)) k8 bel lt8) trodAll_mk0))))))))), rfl, bel.frame _, fun h => by cases h⟩

theorem over : Rows.snapChoosesRow.holds Tryz.pinned (OpenSpec.ofChange Rows.snapChoosesSpec) :=
  OpenClaim.holds_of_wide 3 Tryz.f3 rfl rfl rfl rfl rfl rfl rfl ⟨rfl, rfl, rfl, rfl, rfl⟩ rfl rfl rfl rfl rfl (by kernel_rfl) Tryz.func3 (by kernel_rfl)
    (of_decide_eq_true (by kernel_rfl)) (by unfold Func.isWrapper; first | (rw [if_pos (by decide +kernel)]; kernel_rfl) | (rw [if_neg (by decide +kernel)]; exact ⟨rfl, rfl⟩))
    (fun os started H enc _ => lifted os started H enc)
end Go.Proofs.YtgdbdebieghnkaaGreat.snapChoosesRow
namespace Go.Proofs.YtgdbdebieghnkaaGreat

theorem snapChooses_holds : Rows.SnapChoosesSaid := snapChoosesRow.over
#print axioms snapChooses_holds
end Go.Proofs.YtgdbdebieghnkaaGreat

