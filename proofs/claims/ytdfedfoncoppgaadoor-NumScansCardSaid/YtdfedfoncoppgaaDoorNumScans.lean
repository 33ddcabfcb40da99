/-
  NumScans.
-/
import Derived.Test.YtdfedfoncoppgaaDoorNumRefP
namespace Go.Proofs.YtdfedfoncoppgaaDoor
open Go.RowKit
open Sy
set_option linter.unusedVariables false
set_option linter.unusedSimpArgs false
set_option maxRecDepth 100000
set_option maxHeartbeats 4000000

theorem sAwake {R : HP} (hN : ∀ w, Sat R w → NumW w) : PureR Tryd.prog R 6 [] (.bool true) := by
  have e1 : read [45, 57, 50, 50, 51, 51, 55, 50, 48, 51, 54, 56, 53, 52, 55, 55, 53, 56, 48, 56] = (-9223372036854775808, 0) := by kernel_rfl
  have e2 : scan [97, 45, 48, 55] 1 = (0, 0, 12) := by kernel_rfl
  refine fn_of_run0 true Tryd.func6 rfl hmix rfl fun w0 => ?_
  conv => whnf
  refine ⟨trivial, CallAt.pure (v := .tuple #[.int .i64 (-9223372036854775808), .int .i64 0]) (fun R' hR' => by
    have := sRead (fun w hw => hN w (sat_base (hR' w hw))) [45, 57, 50, 50, 51, 51, 55, 50, 48, 51, 54, 56, 53, 52, 55, 55, 53, 56, 48, 56] (by decide)
    rw [e1] at this; exact this) ?_⟩
  conv => whnf
  refine ⟨trivial, CallAt.pure (v := scanV (0, 0, 12)) (fun R' hR' => by
    have := sScan (fun w hw => hN w (sat_base (hR' w hw))) [97, 45, 48, 55] (by decide) 1
    rw [e2] at this; exact this) ?_⟩
  conv => whnf
  refine iff_t rfl ?_
  conv => whnf
  refine iff_t rfl ?_
  conv => whnf
  exact ⟨trivial, fin_drop rfl⟩
theorem sNumScans {R : HP} (hN : ∀ w, Sat R w → NumW w) (l : List UInt8) (at' : Int) (hl : l.length ≤ 9223372036854775807) : PureR Tryd.prog R 3 [.string (bs l), .int .i64 at'] (.bool true) := by
  refine fn_of_run0 true Tryd.func3 rfl hmix rfl fun w0 => ?_
  conv => whnf
  refine ⟨trivial, CallAt.pure (fun R' hR' => sAwake fun w hw => hN w (sat_base (hR' w hw))) ?_⟩
  conv => whnf
  refine iff_f rfl ?_
  conv => whnf
  refine ⟨fun h => ?_, fun h => ?_⟩
  · conv => whnf
    exact ⟨trivial, fin_drop rfl⟩
  · have h := of_decide_eq_false h
    rw [bs_size] at h
    have h400 : l.length ≤ 1048576 := by omega
    generalize hx : scan l at' = x
    conv => whnf
    refine ⟨trivial, CallAt.pure (v := scanV x) (fun R' hR' => by rw [← hx]; exact sScan (fun w hw => hN w (sat_base (hR' w hw))) l h400 at') ?_⟩
    conv => whnf
    refine ⟨trivial, CallAt.pure (v := scanV x) (fun R' hR' => by rw [← hx]; exact sRefScan l h400 at') ?_⟩
    obtain ⟨a, b, c⟩ := x
    conv => whnf
    refine iff_t (decide_eq_true rfl) ?_
    conv => whnf
    refine iff_t (decide_eq_true rfl) ?_
    conv => whnf
    refine ⟨trivial, fin_drop ?_⟩
    show Value.bool (decide (c = c)) = _
    rw [decide_eq_true rfl]
end Go.Proofs.YtdfedfoncoppgaaDoor
