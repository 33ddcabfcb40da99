/-
  The statement PyrParts: for every input the call returns true. The texts: PyrBuilds, PyrParts, PyrPartsRow.
-/
import Derived.Test.YtccpgalpahfpaaaPartK
import Derived.ProofKit
import Derived.OpenShut
import Derived.Lib.SmallJoins
/-
  The least and the greatest below.
-/
namespace Go.Proofs.Ytccpgalpahfpaaa
open Go.RowKit
open Sy
set_option linter.unusedVariables false
set_option linter.unusedSimpArgs false
set_option maxRecDepth 100000
set_option maxHeartbeats 4000000
set_option pp.deepTerms.threshold 6
set_option pp.maxSteps 3000

theorem sAwake16 (R : HP) : PureR Try.prog R 11 [] (.bool true) := by
  have hv : ((1 : Int), (3 : Int)) = Pf 3 1 (gv 3 [3, 1, 2]) 2 (0 * halfN 3 2 + 0) := by decide
  have hlv : levN ((3 : Nat) : Int) ((1 : Nat) : Int) = 3 := by decide
  have hat := fun (pb : Nat) (R' : HP) hR' => sPAt (R := R') (pb := pb) (W := 3) (H := 1) (k := 2) (F := Pf 3 1 (gv 3 [3, 1, 2])) (x := 0) (y := 0) (v := (1, 3)) (e := 0) (by omega) (by omega) hR' (by rw [hlv]; omega) (.inl ⟨0, 0, rfl, rfl, by decide, by decide, hv, rfl⟩)
  have hle := fun (pb : Nat) (R' : HP) hR' => sPLevels (R := R') (pb := pb) (W := 3) (H := 1) (F := Pf 3 1 (gv 3 [3, 1, 2])) hR'
  rw [hlv] at hle
  refine fn_of_run0 false Try.func11 rfl hmix rfl fun w0 => ?_
  conv => whnf
  refine ⟨trivial, OpAt.lit [.int .i64 3, .int .i64 1, .int .i64 2] 1 rfl rfl rfl rfl rfl (by decide) rfl rfl rfl (by simp [Value.cells]) rfl (by decide) fun g => ?_⟩
  conv => whnf
  refine ⟨trivial, CallAt.fn (pre := []) _ (fun h s => s) (fun R' hR' => sFrom (W := 3) (H := 1) (l := [3, 1, 2]) (Vs.row fun w s => (hR' w s).in_ 0 rfl) (by simp [MayV]) (by decide) (by decide) (by decide) (by decide) rfl) ?_⟩
  rintro r hs ⟨gb, rfl, rfl⟩
  conv => whnf
  refine ⟨trivial, CallAt.fn (pre := []) _ (fun h s => s) (fun R' hR' => sBuild (gridAt_rest 0 rfl hR')) ?_⟩
  rintro r hs ⟨pb, rfl, rfl⟩
  conv => whnf
  refine ⟨trivial, CallAt.pure (fun R' hR' => hat pb R' fun w s => (hR' w s).in_ 0 rfl) ?_⟩
  conv => whnf
  iterate 3
    refine ⟨fun _ => ?_, fun h => absurd h (by decide)⟩
    conv => whnf
  refine ⟨trivial, CallAt.pure (fun R' hR' => hle pb R' fun w s => (hR' w s).in_ 0 rfl) ?_⟩
  conv => whnf
  refine ⟨fun _ => ?_, fun h => absurd h (by decide)⟩
  conv => whnf
  refine ⟨trivial, OpAt.aggEq rfl rfl rfl rfl (by kernel_rfl) (fun w => rng_eq _ _ _ _ w) ?_⟩
  conv => whnf
  exact ⟨trivial, .mk [] (fun w s => s.rest) ⟨rfl, rfl⟩⟩

theorem PyrBuilds_walk (W H : Int) (A : Option Addr) (n c : Nat) (l : List Int) (k x y : Int) (w : World) (_ : -9223372036854775808 ≤ W) (_ : W ≤ 9223372036854775807) (_ : -9223372036854775808 ≤ H) (_ : H ≤ 9223372036854775807) (ha : Reads w w.heap.size 1 A n (ints l)) (hn : n ≤ maxLen)
    (_ : -9223372036854775808 ≤ k) (_ : k ≤ 9223372036854775807) (_ : -9223372036854775808 ≤ x) (_ : x ≤ 9223372036854775807) (_ : -9223372036854775808 ≤ y) (_ : y ≤ 9223372036854775807) :
    Calls Try.prog 3 #[.int .i64 W, .int .i64 H, .slice A n c, .int .i64 k, .agg #[.int .i64 x, .int .i64 y]] w fun e w' => e = .returned (.bool true) ∧ Below w.heap.size w w' := by
  refine PureR.below (args := [.int .i64 W, .int .i64 H, .slice A n c, .int .i64 k, .agg #[.int .i64 x, .int .i64 y]]) ?_
  have hv := vs_of_reads ha
  have hl : l.length = n := by have := ha.1; simpa [ints] using this
  by_cases hok : LandOk W H 1000 n l
  · obtain ⟨W, H, rfl, rfl, w1, w2, h1, h2, hWH, hn0, hn1⟩ := land_nat hok (by decide)
    have hm := hok.2.2.2.2.2.2
    have hsz : SizeOk (W : Int) (H : Int) := ⟨by omega, by omega, by omega, by omega⟩
    obtain ⟨v, e, hp, hr⟩ : ∃ (v : Int × Int) (e : Int), (∀ (pb : Nat) (R' : HP), (∀ w, Sat R' w → Sat (pyrH pb W H (Pf W H (gv W l))) w) → PureR Try.prog R' 16 [.pointer (some ⟨pb, 0, none⟩), .int .i64 k, cellV x y] (.tuple #[rngV v.1 v.2, .int .i64 e])) ∧
        (∀ R', Vs R' A n l → PureR Try.prog R' 17 [modV W H A n c, .int .i64 k, cellV x y] (.tuple #[rngV v.1 v.2, .int .i64 e])) := by
      by_cases hk : k < 0 ∨ (levN W H : Int) ≤ k
      · exact ⟨(0, 0), 11, fun pb R' hR' => sPAtArg hR' hk, fun R' hR' => sRAtArg hsz hk⟩
      · obtain ⟨K, rfl⟩ : ∃ K : Nat, k = K := ⟨k.toNat, by omega⟩
        have hK : K < levN W H := by omega
        by_cases hc : x < 0 ∨ (halfN W K : Int) ≤ x ∨ y < 0 ∨ (halfN H K : Int) ≤ y
        · exact ⟨(0, 0), 4, fun pb R' hR' => sPAt ⟨w1, w2⟩ ⟨h1, h2⟩ hR' hK (.inr ⟨hc, rfl, rfl⟩), fun R' hR' => sRAt hR' hWH hsz hK (.inr ⟨hc, rfl, rfl⟩)⟩
        · obtain ⟨X, rfl⟩ : ∃ X : Nat, x = X := ⟨x.toNat, by omega⟩
          obtain ⟨Y, rfl⟩ : ∃ Y : Nat, y = Y := ⟨y.toNat, by omega⟩
          have hX : X < halfN W K := by omega
          have hY : Y < halfN H K := by omega
          refine ⟨(lv mnL W H K (gv W l) X Y, lv mxL W H K (gv W l) X Y), 0, fun pb R' hR' => sPAt ⟨w1, w2⟩ ⟨h1, h2⟩ hR' hK (.inl ⟨X, Y, rfl, rfl, hX, hY, ?_, rfl⟩), fun R' hR' => sRAt hR' hWH hsz hK (.inl ⟨X, Y, rfl, rfl, hX, hY, rfl, rfl⟩)⟩
          unfold Pf
          rw [(xy_mod hX).1, (xy_mod hX).2]
    obtain ⟨v1, v2⟩ := v
    refine fn_of_run0 false Try.func3 rfl hmix rfl fun w0 => ?_
    conv => whnf
    refine ⟨trivial, CallAt.pure (fun R' hR' => sAwake16 R') ?_⟩
    conv => whnf
    refine iff_f (by decide) ?_
    conv => whnf
    refine ⟨trivial, CallAt.pure (fun R' hR' => sLandYes (hv.mono fun w s => hR' w s) (by decide) hn hok) ?_⟩
    conv => whnf
    refine iff_f (by decide) ?_
    conv => whnf
    refine ⟨trivial, CallAt.fn (pre := []) _ (fun h s => s) (fun R' hR' => sMadeV (hv.mono fun w s => hR' w s) w1 w2 h1 h2 hWH hm) ?_⟩
    rintro r hs ⟨gb, rfl, rfl⟩
    conv => whnf
    refine ⟨trivial, CallAt.fn (pre := []) _ (fun h s => s) (fun R' hR' => sBuild (gridAt_rest 0 rfl hR')) ?_⟩
    rintro r hs ⟨pb, rfl, rfl⟩
    conv => whnf
    iterate 2
      refine ⟨fun _ => ?_, fun h => absurd h (by decide)⟩
      conv => whnf
    refine ⟨trivial, CallAt.pure (fun R' hR' => sOver (fun w s => (hR' w s).in_ 0 rfl) (hv.mono fun w s => (hR' w s).rest) hWH hsz (fun _ _ _ _ => rfl)) ?_⟩
    conv => whnf
    refine iff_f (by decide) ?_
    conv => whnf
    refine ⟨trivial, CallAt.pure (fun R' hR' => hp pb R' fun w s => (hR' w s).in_ 0 rfl) ?_⟩
    conv => whnf
    refine ⟨trivial, CallAt.pure (fun R' hR' => hr R' (hv.mono fun w s => (hR' w s).rest)) ?_⟩
    conv => whnf
    refine ⟨trivial, CallAt.pure (fun R' hR' => gAll_p (gridAt_rest 1 rfl hR')) ?_⟩
    conv => whnf
    refine ⟨trivial, CallAt.fn [pyrH pb W H (Pf W H (gv W l))] (fun h s => sepL_pull 1 s) (fun R' hR' => gFill_i ⟨0, 0, (W : Int) - 1, (H : Int) - 1⟩ rfl (by omega) (by omega) (by omega) (by omega) (by omega) (by omega) (by unfold MayV; omega)) ?_⟩
    rintro r hs ⟨rfl, rfl⟩
    conv => whnf
    refine ⟨trivial, OpAt.aggEq rfl rfl rfl rfl (by kernel_rfl) (fun w => rng_eq _ _ _ _ w) ?_⟩
    conv => whnf
    refine ⟨fun _ => ?_, fun h => absurd h (by simp)⟩
    conv => whnf
    refine ⟨fun _ => ?_, fun h => absurd h (by simp)⟩
    conv => whnf
    refine ⟨trivial, CallAt.pure (fun R' hR' => sOver (fun w s => (hR' w s).in_ 1 rfl) (hv.mono fun w s => (hR' w s).rest) hWH hsz (fun _ _ _ _ => rfl)) ?_⟩
    conv => whnf
    exact ⟨trivial, .mk [] (fun w s => s.rest) ⟨rfl, rfl⟩⟩
  · refine fn_of_run0 false Try.func3 rfl hmix rfl fun w0 => ?_
    conv => whnf
    refine ⟨trivial, CallAt.pure (fun R' hR' => sAwake16 R') ?_⟩
    conv => whnf
    refine iff_f (by decide) ?_
    conv => whnf
    refine ⟨trivial, CallAt.pure (fun R' hR' => sLandNo (hv.mono fun w s => hR' w s) (by decide) hn hok) ?_⟩
    conv => whnf
    refine iff_t (by decide) ?_
    conv => whnf
    exact ⟨trivial, fin_pure rfl rfl⟩
end Go.Proofs.Ytccpgalpahfpaaa

/-
  Only what is told.
-/
namespace Go.Proofs.Ytccpgalpahfpaaa
open Go.RowKit
open Sy
set_option linter.unusedVariables false
set_option linter.unusedSimpArgs false
set_option maxRecDepth 100000
set_option maxHeartbeats 4000000
set_option pp.deepTerms.threshold 6
set_option pp.maxSteps 3000

theorem sRight {x0 y0 x1 y1 : Nat} (hx : x0 ≤ x1) (hy : y0 ≤ y1) (hx1 : x1 < 1024) (hy1 : y1 < 1024) (R : HP) : PureR Try.prog R 52 [rectV x0 y0 x1 y1] (.bool true) := by
  refine fn_of_run0 false Try.func52 rfl hmix rfl fun w0 => ?_
  conv => whnf
  iterate 5
    refine ⟨fun _ => ?_, fun h => absurd h (by simp; try omega)⟩
    conv => whnf
  exact ⟨trivial, fin_pure rfl (by simp [mkRes]; omega)⟩
theorem sHas {x0 y0 x1 y1 x y : Nat} {r : Bool} (hr : r = decide (x0 ≤ x ∧ x ≤ x1 ∧ y0 ≤ y ∧ y ≤ y1)) (hx : x0 ≤ x1) (hy : y0 ≤ y1) (hx1 : x1 < 1024) (hy1 : y1 < 1024) (R : HP) : PureR Try.prog R 22 [rectV x0 y0 x1 y1, cellV x y] (.bool r) := by
  refine fn_of_run0 false Try.func22 rfl hmix rfl fun w0 => ?_
  conv => whnf
  refine ⟨trivial, CallAt.pure (fun R' hR' => sRight hx hy hx1 hy1 R') ?_⟩
  conv => whnf
  refine ⟨fun _ => ?_, fun h => absurd h (by decide)⟩
  conv => whnf
  refine ⟨fun g1 => ?_, fun g1 => ?_⟩
  · conv => whnf
    refine ⟨fun g2 => ?_, fun g2 => ?_⟩
    · conv => whnf
      refine ⟨fun g3 => ?_, fun g3 => ?_⟩
      · conv => whnf
        refine ⟨trivial, fin_pure rfl ?_⟩
        simp at g1 g2 g3
        rw [hr]
        simp [mkRes, g1, g2, g3]
      · conv => whnf
        refine ⟨trivial, fin_pure rfl ?_⟩
        simp at g3
        rw [hr, decide_eq_false (by omega)]; rfl
    · conv => whnf
      refine ⟨trivial, fin_pure rfl ?_⟩
      simp at g2
      rw [hr, decide_eq_false (by omega)]; rfl
  · conv => whnf
    refine ⟨trivial, fin_pure rfl ?_⟩
    simp at g1
    rw [hr, decide_eq_false (by omega)]; rfl
theorem within_inv {x0 y0 x1 y1 a b : Int} (h : withinZ x0 y0 x1 y1 a b = 0) : 0 ≤ x0 ∧ x0 ≤ x1 ∧ x1 < a ∧ 0 ≤ y0 ∧ y0 ≤ y1 ∧ y1 < b := by
  unfold withinZ InP at h
  split at h
  · omega
  · split at h
    · omega
    · split at h
      · omega
      · rename_i h2 h3
        have h2 := Classical.not_not.1 h2
        omega

def mergL (x0 y0 x1 y1 W : Nat) (u v : List Int) (k : Nat) : List Int := (List.range k).map fun j => if x0 ≤ j % W ∧ j % W ≤ x1 ∧ y0 ≤ j / W ∧ j / W ≤ y1 then u.getD j 0 else v.getD j 0
theorem mergL_len (x0 y0 x1 y1 W : Nat) (u v : List Int) (k : Nat) : (mergL x0 y0 x1 y1 W u v k).length = k := by simp [mergL]
theorem mergL_yes {x0 y0 x1 y1 W k : Nat} {u v : List Int} (h : x0 ≤ k % W ∧ k % W ≤ x1 ∧ y0 ≤ k / W ∧ k / W ≤ y1) : mergL x0 y0 x1 y1 W u v (k + 1) = mergL x0 y0 x1 y1 W u v k ++ [u.getD k 0] := by
  unfold mergL; rw [List.range_succ, List.map_append]; simp only [List.map_cons, List.map_nil, if_pos h]
theorem mergL_no {x0 y0 x1 y1 W k : Nat} {u v : List Int} (h : ¬ (x0 ≤ k % W ∧ k % W ≤ x1 ∧ y0 ≤ k / W ∧ k / W ≤ y1)) : mergL x0 y0 x1 y1 W u v (k + 1) = mergL x0 y0 x1 y1 W u v k ++ [v.getD k 0] := by
  unfold mergL; rw [List.range_succ, List.map_append]; simp only [List.map_cons, List.map_nil, if_neg h]
theorem mergL_gv {x0 y0 x1 y1 W H x y : Nat} {u v : List Int} (hx : x < W) (hy : y < H) : mergeG x0 y0 x1 y1 (gv W u) (gv W v) x y = gv W (mergL x0 y0 x1 y1 W u v (W * H)) x y := by
  have hi := idx_lt hx hy
  unfold mergeG gv
  rw [List.getD_eq_getElem?_getD (l := mergL x0 y0 x1 y1 W u v (W * H))]
  unfold mergL
  rw [List.getElem?_map, List.getElem?_range hi]
  simp only [Option.map_some, Option.getD_some]
  rw [(xy_mod hx).1, (xy_mod hx).2]

theorem PyrParts_walk (W H : Int) (A : Option Addr) (n c : Nat) (l : List Int) (A2 : Option Addr) (n2 c2 : Nat) (l2 : List Int) (x0 y0 x1 y1 : Int) (w : World) (_ : -9223372036854775808 ≤ W) (_ : W ≤ 9223372036854775807) (_ : -9223372036854775808 ≤ H) (_ : H ≤ 9223372036854775807) (ha : Reads w w.heap.size 1 A n (ints l)) (hn : n ≤ maxLen) (ha2 : Reads w w.heap.size 1 A2 n2 (ints l2)) (hn2 : n2 ≤ maxLen)
    (_ : -9223372036854775808 ≤ x0) (_ : x0 ≤ 9223372036854775807) (_ : -9223372036854775808 ≤ y0) (_ : y0 ≤ 9223372036854775807) (_ : -9223372036854775808 ≤ x1) (_ : x1 ≤ 9223372036854775807) (_ : -9223372036854775808 ≤ y1) (_ : y1 ≤ 9223372036854775807) :
    Calls Try.prog 4 #[.int .i64 W, .int .i64 H, .slice A n c, .slice A2 n2 c2, .agg #[.int .i64 x0, .int .i64 y0, .int .i64 x1, .int .i64 y1]] w fun e w' => e = .returned (.bool true) ∧ Below w.heap.size w w' := by
  refine PureR.below (args := [.int .i64 W, .int .i64 H, .slice A n c, .slice A2 n2 c2, .agg #[.int .i64 x0, .int .i64 y0, .int .i64 x1, .int .i64 y1]]) ?_
  have hv := vs_of_reads ha
  have hv2 := vs_of_reads ha2
  have hl : l.length = n := by have := ha.1; simpa [ints] using this
  have hl2 : l2.length = n2 := by have := ha2.1; simpa [ints] using this
  by_cases hok : LandOk W H 1000 n l
  · by_cases hok2 : LandOk W H 1000 n2 l2
    · by_cases hwi : withinZ x0 y0 x1 y1 W H = 0
      · obtain ⟨W, H, rfl, rfl, w1, w2, h1, h2, hWH, hn0, hn1⟩ := land_nat hok (by decide)
        have hWH2 : W * H = n2 := by
          have := hok2.2.2.2.2.2.1
          rw [← Int.natCast_mul] at this
          omega
        obtain ⟨i1, i2, i3, i4, i5, i6⟩ := within_inv hwi
        obtain ⟨x0, rfl⟩ : ∃ X : Nat, x0 = X := ⟨x0.toNat, by omega⟩
        obtain ⟨y0, rfl⟩ : ∃ X : Nat, y0 = X := ⟨y0.toNat, by omega⟩
        obtain ⟨x1, rfl⟩ : ∃ X : Nat, x1 = X := ⟨x1.toNat, by omega⟩
        obtain ⟨y1, rfl⟩ : ∃ X : Nat, y1 = X := ⟨y1.toNat, by omega⟩
        have hm := hok.2.2.2.2.2.2
        have hm2 := hok2.2.2.2.2.2.2
        have hsz : SizeOk (W : Int) (H : Int) := ⟨by omega, by omega, by omega, by omega⟩
        have hwas : Sat (was w) w := ⟨_, fun i o e => e, rfl⟩
        obtain ⟨_, sa⟩ := hv.spot hwas
        obtain ⟨_, sb⟩ := hv2.spot hwas
        rcases sa with sa | ⟨ab, ao, rfl, sa⟩
        · omega
        rcases sb with sb | ⟨bb, bo, rfl, sb⟩
        · omega
        have hhas := fun (i : Nat) (r : Bool) hr R' => sHas (x0 := x0) (y0 := y0) (x1 := x1) (y1 := y1) (x := i % W) (y := i / W) (r := r) hr (by omega) (by omega) (by omega) (by omega) R'
        have hyes := fun k => @mergL_yes x0 y0 x1 y1 W k l2 l
        have hno := fun k => @mergL_no x0 y0 x1 y1 W k l2 l
        have hlen := mergL_len x0 y0 x1 y1 W l2 l
        have hover := fun x y (hx : x < W) (hy : y < H) => @mergL_gv x0 y0 x1 y1 W H x y l2 l hx hy
        rw [hWH] at hover
        have hM0 : mergL x0 y0 x1 y1 W l2 l 0 = [] := rfl
        obtain ⟨M, hM⟩ : ∃ M, mergL x0 y0 x1 y1 W l2 l = M := ⟨_, rfl⟩
        rw [hM] at hyes hno hlen hover hM0
        have z1 : (W : Int) * (H : Int) = (n : Int) := by rw [← hWH]; simp
        refine fn_of_run0 false Try.func4 rfl hmix rfl fun w0 => ?_
        conv => whnf
        refine ⟨trivial, CallAt.pure (fun R' hR' => sAwake16 R') ?_⟩
        conv => whnf
        refine iff_f (by decide) ?_
        conv => whnf
        refine ⟨trivial, CallAt.pure (fun R' hR' => sLandYes (hv.mono fun w s => hR' w s) (by decide) hn hok) ?_⟩
        conv => whnf
        refine ⟨trivial, CallAt.pure (fun R' hR' => sLandYes (hv2.mono fun w s => hR' w s) (by decide) hn2 hok2) ?_⟩
        conv => whnf
        refine ⟨fun _ => ?_, fun h => absurd h (by decide)⟩
        conv => whnf
        refine ⟨fun _ => ?_, fun h => absurd h (by decide)⟩
        conv => whnf
        refine ⟨trivial, CallAt.pure (fun R' hR' => sRWithin x0 y0 x1 y1 W H R') ?_⟩
        conv => whnf
        refine iff_f (by rw [hwi]; decide) ?_
        conv => whnf
        refine ⟨trivial, CallAt.fn (pre := []) _ (fun h s => s) (fun R' hR' => sMadeV (hv.mono fun w s => hR' w s) w1 w2 h1 h2 hWH hm) ?_⟩
        rintro r hs ⟨ga, rfl, rfl⟩
        conv => whnf
        refine ⟨trivial, CallAt.fn (pre := []) _ (fun h s => s) (fun R' hR' => sMadeV (hv2.mono fun w s => (hR' w s).rest) w1 w2 h1 h2 hWH2 hm2) ?_⟩
        rintro r hs ⟨gb, rfl, rfl⟩
        conv => whnf
        refine ⟨trivial, CallAt.fn (pre := []) _ (fun h s => s) (fun R' hR' => sBuild (gridAt_rest 1 rfl hR')) ?_⟩
        rintro r hs ⟨pb, rfl, rfl⟩
        conv => whnf
        iterate 3
          refine ⟨fun _ => ?_, fun h => absurd h (by decide)⟩
          conv => whnf
        refine ⟨trivial, CallAt.fn [gridH gb W H (gv W l2), gridH ga W H (gv W l)] (fun h s => s) (fun R' hR' => sRepairP (gridAt_rest 0 rfl hR') x0 y0 x1 y1 (by omega) (by omega) (by omega) (by omega)) ?_⟩
        rintro r hs ⟨rfl, rfl⟩
        conv => whnf
        refine iff_f (by decide) ?_
        conv => whnf
        refine ⟨trivial, LoopAt.of (α := Nat × Option Addr × Nat) [0, 1, 3, 9, 11, 19, 21] (fun a => [(22, .v (.int .i64 (a.1 : Int)))]) (fun a => [(3, 27, [.v (.int .i64 (W : Int)), .v (.int .i64 (H : Int)), .v (.slice a.2.1 a.1 a.2.2)]), (1, 27, [.v (.int .i64 (W : Int)), .v (.int .i64 (H : Int)), .v (.slice (some ⟨ab, ao, none⟩) n c)]), (0, 45, [.v (.int .i64 (x0 : Int)), .v (.int .i64 (y0 : Int)), .v (.int .i64 (x1 : Int)), .v (.int .i64 (y1 : Int))])])
          (fun a => [rowH (.slice a.2.1 a.1 a.2.2) a.1 2 1 (ints (M a.1)), pyrH pb W H (Pf W H (mergeG x0 y0 x1 y1 (gv W l2) (gv W l))), gridH gb W H (gv W l2), gridH ga W H (gv W l)]) (fun a => a.1 ≤ n) (fun a => n - a.1) (0, none, 0) (Nat.zero_le _)
          (Le.of (Nat.le_of_ble_eq_true rfl) (Nat.zero_le _) ⟨⟨rfl, rfl⟩, ⟨rfl, rfl⟩, ⟨rfl, rfl⟩, ⟨rfl, rfl⟩, ⟨rfl, rfl⟩, ⟨rfl, rfl⟩, ⟨rfl, rfl⟩, ⟨rfl, rfl⟩, trivial⟩ ⟨⟨rfl, rfl, rfl, rfl⟩, ⟨rfl, rfl, rfl, rfl⟩, ⟨rfl, rfl, rfl, rfl⟩, trivial⟩ fun h s => sub_same (by simp only [hM0]; exact row_nil _ _ s)) ?_⟩
        rintro ⟨i, B, d⟩ hi
        simp only at hi
        conv => whnf
        rw [z1]
        refine ⟨fun h3 => ?_, fun h3 => ?_⟩
        · have g3 : i < n := Int.ofNat_lt.1 (of_dt h3)
          have zr : (i : Int) % (W : Int) = ((i % W : Nat) : Int) := by simp
          have zq : (i : Int) / (W : Int) = ((i / W : Nat) : Int) := by simp
          have hq : i / W ≤ i := Nat.div_le_self _ _
          have hh := hhas i _ rfl
          by_cases hin : x0 ≤ i % W ∧ i % W ≤ x1 ∧ y0 ≤ i / W ∧ i / W ≤ y1
          all_goals
            first | rw [decide_eq_true hin] at hh | rw [decide_eq_false hin] at hh
            conv => whnf
            refine ⟨?_, RegAt.quiet hmix (by kernel_rfl) ?_⟩
            · repeat' apply And.intro
              all_goals first | exact True.intro | (unfold rng; omega) | omega
            conv => whnf
            rw [zr, zq]
            refine ⟨?_, CallQ.pure (fun R' _ => hh R') ?_⟩
            · generalize i / W = q at *
              generalize i % W = m at *
              repeat' apply And.intro
              all_goals first | exact True.intro | (unfold rng; omega) | omega
            conv => whnf
            refine ⟨trivial, ?_⟩
            conv => whnf
          all_goals first | refine iff_t rfl ?_ | refine iff_f rfl ?_
          · skip
            have hgd : l2.getD i 0 = l2[i]'(by omega) := getD_at (by omega)
            have hst := hyes i (by assumption)
            rw [hgd] at hst
            conv => whnf
            refine ⟨?_, RegAt.groups [([.T 0, .T 1, .T 2, .T 3, .T 4, .T 5, .H 6], 7), ([.H 7], 8), ([.T 8], 9), ([.H 9], 10)] hmix (by kernel_rfl) ?_⟩
            · repeat' apply And.intro
              all_goals first | exact True.intro | (unfold rng; omega) | omega
            conv => whnf
            refine ⟨⟨trivial, by omega⟩, LoadAt.cell (.int .i64 (l2[i]'(by omega))) rfl rfl (fun w hw => sb w hw.rest i (by omega)) ?_⟩
            conv => whnf
            refine ⟨trivial, OpAt.lit [.int .i64 (l2[i]'(by omega))] 1 rfl rfl rfl rfl rfl (by decide) rfl rfl rfl (by simp [Value.cells]) rfl (by decide) fun g2 => ?_⟩
            conv => whnf
            refine ⟨trivial, ⟨⟨rfl, rfl⟩, fun h s => sub_tail s⟩, ?_⟩
            conv => whnf
            refine ⟨trivial, OpAt.append (.slice B i d) i 1 8 (ints (M i)) [.int .i64 (l2[i]'(by omega))] (some ⟨g2, 0, none⟩) 1 1 _ rfl (fun h s => sepL_pull 1 s) rfl rfl rfl rfl rfl rfl rfl rfl rfl (by decide) (fun w hw => rowH_reads rfl (Sat.left hw)) (ints_one [_]) (by simp only [maxLen]; omega) (by omega) fun B' d' => ?_⟩
            conv => whnf
            refine ⟨trivial, ?_⟩
            conv => whnf
            refine ⟨⟨trivial, by unfold rng; omega⟩, .mk (i + 1, B', d') (by simp only; omega) (by simp only; omega) ?_⟩
            refine Le.of (Nat.le_of_ble_eq_true rfl) (Nat.zero_le _) ⟨⟨rfl, rfl⟩, ⟨rfl, rfl⟩, ⟨rfl, rfl⟩, ⟨rfl, rfl⟩, ⟨rfl, rfl⟩, ⟨rfl, rfl⟩, ⟨rfl, rfl⟩, ⟨rfl, rfl⟩, trivial⟩ ⟨⟨rfl, rfl, rfl, rfl⟩, ⟨rfl, rfl, rfl, rfl⟩, ⟨rfl, rfl, rfl, rfl⟩, trivial⟩ fun h s => ?_
            obtain ⟨h', e, s'⟩ := sub_drop1 s
            refine ⟨h', e, ?_⟩
            show sepL (rowH (.slice B' (i + 1) d') (i + 1) 2 1 (ints (M (i + 1))) :: _) _ h'
            rw [hst, ints_append]
            exact s'
          · skip
            have hgd : l.getD i 0 = l[i]'(by omega) := getD_at (by omega)
            have hst := hno i (by assumption)
            rw [hgd] at hst
            conv => whnf
            refine ⟨?_, RegAt.groups [([.T 0, .T 1, .T 2, .T 3, .T 4, .T 5, .T 6, .H 7], 8), ([.H 8], 9), ([.T 9], 10), ([.H 10], 11)] hmix (by kernel_rfl) ?_⟩
            · repeat' apply And.intro
              all_goals first | exact True.intro | (unfold rng; omega) | omega
            conv => whnf
            refine ⟨⟨trivial, by omega⟩, LoadAt.cell (.int .i64 (l[i]'(by omega))) rfl rfl (fun w hw => sa w hw.rest i (by omega)) ?_⟩
            conv => whnf
            refine ⟨trivial, OpAt.lit [.int .i64 (l[i]'(by omega))] 1 rfl rfl rfl rfl rfl (by decide) rfl rfl rfl (by simp [Value.cells]) rfl (by decide) fun g2 => ?_⟩
            conv => whnf
            refine ⟨trivial, ⟨⟨rfl, rfl⟩, fun h s => sub_tail s⟩, ?_⟩
            conv => whnf
            refine ⟨trivial, OpAt.append (.slice B i d) i 1 8 (ints (M i)) [.int .i64 (l[i]'(by omega))] (some ⟨g2, 0, none⟩) 1 1 _ rfl (fun h s => sepL_pull 1 s) rfl rfl rfl rfl rfl rfl rfl rfl rfl (by decide) (fun w hw => rowH_reads rfl (Sat.left hw)) (ints_one [_]) (by simp only [maxLen]; omega) (by omega) fun B' d' => ?_⟩
            conv => whnf
            refine ⟨trivial, ?_⟩
            conv => whnf
            refine ⟨⟨trivial, by unfold rng; omega⟩, .mk (i + 1, B', d') (by simp only; omega) (by simp only; omega) ?_⟩
            refine Le.of (Nat.le_of_ble_eq_true rfl) (Nat.zero_le _) ⟨⟨rfl, rfl⟩, ⟨rfl, rfl⟩, ⟨rfl, rfl⟩, ⟨rfl, rfl⟩, ⟨rfl, rfl⟩, ⟨rfl, rfl⟩, ⟨rfl, rfl⟩, ⟨rfl, rfl⟩, trivial⟩ ⟨⟨rfl, rfl, rfl, rfl⟩, ⟨rfl, rfl, rfl, rfl⟩, ⟨rfl, rfl, rfl, rfl⟩, trivial⟩ fun h s => ?_
            obtain ⟨h', e, s'⟩ := sub_drop1 s
            refine ⟨h', e, ?_⟩
            show sepL (rowH (.slice B' (i + 1) d') (i + 1) 2 1 (ints (M (i + 1))) :: _) _ h'
            rw [hst, ints_append]
            exact s'
        · have g3 : i = n := by have := of_df h3; omega
          subst g3
          conv => whnf
          refine ⟨⟨trivial, by unfold rng; omega⟩, CallAt.pure (fun R' hR' => sOver (fun w s => (hR' w s).in_ 1 rfl) (Vs.row fun w s => (hR' w s).in_ 0 rfl) hWH hsz hover) ?_⟩
          conv => whnf
          exact ⟨trivial, .mk [] (fun w s => s.rest) ⟨rfl, rfl⟩⟩
      · refine fn_of_run0 false Try.func4 rfl hmix rfl fun w0 => ?_
        conv => whnf
        refine ⟨trivial, CallAt.pure (fun R' hR' => sAwake16 R') ?_⟩
        conv => whnf
        refine iff_f (by decide) ?_
        conv => whnf
        refine ⟨trivial, CallAt.pure (fun R' hR' => sLandYes (hv.mono fun w s => hR' w s) (by decide) hn hok) ?_⟩
        conv => whnf
        refine ⟨trivial, CallAt.pure (fun R' hR' => sLandYes (hv2.mono fun w s => hR' w s) (by decide) hn2 hok2) ?_⟩
        conv => whnf
        refine ⟨fun _ => ?_, fun h => absurd h (by decide)⟩
        conv => whnf
        refine ⟨fun _ => ?_, fun h => absurd h (by decide)⟩
        conv => whnf
        refine ⟨trivial, CallAt.pure (fun R' hR' => sRWithin x0 y0 x1 y1 W H R') ?_⟩
        conv => whnf
        refine iff_t (by simp [hwi]) ?_
        conv => whnf
        exact ⟨trivial, fin_pure rfl rfl⟩
    · refine fn_of_run0 false Try.func4 rfl hmix rfl fun w0 => ?_
      conv => whnf
      refine ⟨trivial, CallAt.pure (fun R' hR' => sAwake16 R') ?_⟩
      conv => whnf
      refine iff_f (by decide) ?_
      conv => whnf
      refine ⟨trivial, CallAt.pure (fun R' hR' => sLandYes (hv.mono fun w s => hR' w s) (by decide) hn hok) ?_⟩
      conv => whnf
      refine ⟨trivial, CallAt.pure (fun R' hR' => sLandNo (hv2.mono fun w s => hR' w s) (by decide) hn2 hok2) ?_⟩
      conv => whnf
      refine ⟨fun _ => ?_, fun h => absurd h (by decide)⟩
      conv => whnf
      refine ⟨fun h => absurd h (by decide), fun _ => ?_⟩
      conv => whnf
      exact ⟨trivial, fin_pure rfl rfl⟩
  · by_cases hok2 : LandOk W H 1000 n2 l2
    · refine fn_of_run0 false Try.func4 rfl hmix rfl fun w0 => ?_
      conv => whnf
      refine ⟨trivial, CallAt.pure (fun R' hR' => sAwake16 R') ?_⟩
      conv => whnf
      refine iff_f (by decide) ?_
      conv => whnf
      refine ⟨trivial, CallAt.pure (fun R' hR' => sLandNo (hv.mono fun w s => hR' w s) (by decide) hn hok) ?_⟩
      conv => whnf
      refine ⟨trivial, CallAt.pure (fun R' hR' => sLandYes (hv2.mono fun w s => hR' w s) (by decide) hn2 hok2) ?_⟩
      conv => whnf
      refine ⟨fun h => absurd h (by decide), fun _ => ?_⟩
      conv => whnf
      exact ⟨trivial, fin_pure rfl rfl⟩
    · refine fn_of_run0 false Try.func4 rfl hmix rfl fun w0 => ?_
      conv => whnf
      refine ⟨trivial, CallAt.pure (fun R' hR' => sAwake16 R') ?_⟩
      conv => whnf
      refine iff_f (by decide) ?_
      conv => whnf
      refine ⟨trivial, CallAt.pure (fun R' hR' => sLandNo (hv.mono fun w s => hR' w s) (by decide) hn hok) ?_⟩
      conv => whnf
      refine ⟨trivial, CallAt.pure (fun R' hR' => sLandNo (hv2.mono fun w s => hR' w s) (by decide) hn2 hok2) ?_⟩
      conv => whnf
      refine ⟨fun h => absurd h (by decide), fun _ => ?_⟩
      conv => whnf
      exact ⟨trivial, fin_pure rfl rfl⟩
end Go.Proofs.Ytccpgalpahfpaaa

/-
  The statement of hachurelaw16.PyrParts: for every input the call returns true, and each argument reads afterwards as it read before. The row's own frame round the walk 'PyrParts_walk'.
-/
namespace Go.Proofs.Ytccpgalpahfpaaa.pyrPartsRow
open Go.Proofs.Ytccpgalpahfpaaa
open Go.ChangeShapes Go.WideShapes Go.ChangeAt Go.RowKit Go.Joins
set_option linter.unusedVariables false

theorem own : ownKnob Try.prog.godebug = none := by kernel_rfl
theorem laidOut : laidOutB Try.prog = true := by kernel_rfl


set_option maxRecDepth 100000 in
theorem lifted (os : Os) (started : os.Started) (H : Type) (enc : TypeId × Value → H) :
    ReturnsInHanded {} Try.checked os 4 .any (Rows.pyrPartsSpec.pre6 enc Try.prog Try.f4 Rows.pyrPartsRow.domain false) (Rows.pyrPartsSpec.post enc Try.prog Try.f4 false true false false) := by
  refine returnsInHanded_of_change (C := Try.checked) own started (by kernel_rfl) Try.func4
    (ChangeSpec.witness6 (enc := enc) (C := Try.checked) false ⟨#[], #[.int .i64 0, .int .i64 0, .slice none 0 0, .slice none 0 0, .agg #[.int .i64 0, .int .i64 0, .int .i64 0, .int .i64 0]], []⟩ 8 (by kernel_rfl) (by kernel_rfl) (by kernel_rfl) (by kernel_rfl)) ?_
  intro W base args ds gs before hval0 hW hcnd _
  have hval : ∀ (j : Nat) t v, Try.f4.params[j]? = some t → args[j]? = some v → Value.okWide Try.prog W .any base t v := hval0
  have hW' := hW
  obtain ⟨p, q, hA0, hV, rfl, hfz, hnd⟩ := hW
  have hA : DataW.TrodAll enc Try.prog W 0 (fun _ => true) true Try.f4.params.toList args.toList ds p := hA0
  rw [Try.params4] at hA hval
  obtain ⟨v0, vs0, d0, ds0, p0, q0, hargs, rfl, rfl, h0, r0⟩ := trodAll_cons hA
  obtain ⟨v1, vs1, d1, ds1, p1, q1, rfl, rfl, rfl, h1, r1⟩ := trodAll_cons r0
  obtain ⟨v2, vs2, d2, ds2, p2, q2, rfl, rfl, rfl, h2, r2⟩ := trodAll_cons r1
  obtain ⟨v3, vs3, d3, ds3, p3, q3, rfl, rfl, rfl, h3, r3⟩ := trodAll_cons r2
  obtain ⟨v4, vs4, d4, ds4, p4, q4, rfl, rfl, rfl, h4, r4⟩ := trodAll_cons r3
  obtain ⟨rfl, rfl, rfl⟩ := trodAll_nil r4
  obtain rfl : args = #[v0, v1, v2, v3, v4] := by cases args; simp_all
  obtain ⟨rfl, rfl⟩ := trodVars_none hV
  have k0 := h0
  have lt0 : ∀ x ∈ p0, x.block < W.heap.size := by obtain ⟨m, hm⟩ := k0; exact DataW.trod_lt m _ _ _ hm
  have k1 := h1
  have lt1 : ∀ x ∈ p1, x.block < W.heap.size := by obtain ⟨m, hm⟩ := k1; exact DataW.trod_lt m _ _ _ hm
  have k2 := h2
  have lt2 : ∀ x ∈ p2, x.block < W.heap.size := by obtain ⟨m, hm⟩ := k2; exact DataW.trod_lt m _ _ _ hm
  have k3 := h3
  have lt3 : ∀ x ∈ p3, x.block < W.heap.size := by obtain ⟨m, hm⟩ := k3; exact DataW.trod_lt m _ _ _ hm
  have k4 := h4
  have lt4 : ∀ x ∈ p4, x.block < W.heap.size := by obtain ⟨m, hm⟩ := k4; exact DataW.trod_lt m _ _ _ hm
  obtain ⟨a0, rfl, rfl, rfl, w0⟩ := open_int Try.underlying2 (hval 0 2 v0 rfl rfl) h0
  have b0 := bounds_i64 w0
  obtain ⟨a1, rfl, rfl, rfl, w1⟩ := open_int Try.underlying2 (hval 1 2 v1 rfl rfl) h1
  have b1 := bounds_i64 w1
  obtain ⟨a2, len2, cap2, rfl⟩ := okWide_slice Try.underlying22 (hval 2 22 v2 rfl rfl)
  obtain ⟨l2, hl2, hn2⟩ : ∃ l, Reads W W.heap.size 1 a2 len2 (ints l) ∧ len2 ≤ maxLen := by
    obtain ⟨fuel, hf⟩ := h2
    rcases open_ints Try.underlying22 Try.underlying2 (by kernel_rfl) hf with ⟨hcs, _⟩ | ⟨x, l, c, zs, hcs, _, hl, hm, hz, _, hcell, hwz⟩
    · simp [Value.cells] at hcs
      obtain ⟨rfl, rfl, rfl⟩ := hcs
      exact ⟨[], Reads.empty, by simp [maxLen]⟩
    · simp [Value.cells] at hcs
      obtain ⟨rfl, rfl, rfl⟩ := hcs
      obtain ⟨l, hl2⟩ := ints_of hl (by simpa using hz) hcell
      exact ⟨l, hl2, Nat.le_trans hl hm⟩
  obtain ⟨a3, len3, cap3, rfl⟩ := okWide_slice Try.underlying22 (hval 3 22 v3 rfl rfl)
  obtain ⟨l3, hl3, hn3⟩ : ∃ l, Reads W W.heap.size 1 a3 len3 (ints l) ∧ len3 ≤ maxLen := by
    obtain ⟨fuel, hf⟩ := h3
    rcases open_ints Try.underlying22 Try.underlying2 (by kernel_rfl) hf with ⟨hcs, _⟩ | ⟨x, l, c, zs, hcs, _, hl, hm, hz, _, hcell, hwz⟩
    · simp [Value.cells] at hcs
      obtain ⟨rfl, rfl, rfl⟩ := hcs
      exact ⟨[], Reads.empty, by simp [maxLen]⟩
    · simp [Value.cells] at hcs
      obtain ⟨rfl, rfl, rfl⟩ := hcs
      obtain ⟨l, hl2⟩ := ints_of hl (by simpa using hz) hcell
      exact ⟨l, hl2, Nat.le_trans hl hm⟩
  obtain ⟨ca4, cb4, cc4, cd4, ea4, eb4, ec4, ed4, rfl, rfl, rfl, ha4, hb4, hc4, hd4⟩ := open_agg4 Try.underlying45 (by kernel_rfl) (by kernel_rfl) (hval 4 45 v4 rfl rfl) h4
  obtain ⟨x4, fx4, rfl, wx4⟩ := DataW.trod_int Try.underlying2 ha4
  obtain ⟨y4, fy4, rfl, wy4⟩ := DataW.trod_int Try.underlying2 hb4
  obtain ⟨z4, fz4, rfl, wz4⟩ := DataW.trod_int Try.underlying2 hc4
  obtain ⟨u4, fu4, rfl, wu4⟩ := DataW.trod_int Try.underlying2 hd4
  simp at fx4 fy4 fz4 fu4
  subst fx4 fy4 fz4 fu4
  have bx4 := bounds_i64 wx4
  have by4 := bounds_i64 wy4
  have bz4 := bounds_i64 wz4
  have bu4 := bounds_i64 wu4
  clear hA0 hval0
  refine (PyrParts_walk a0 a1 a2 len2 cap2 l2 a3 len3 cap3 l3 x4 y4 z4 u4 W b0.1 b0.2 b1.1 b1.2 hl2 hn2 hl3 hn3 bx4.1 bx4.2 by4.1 by4.2 bz4.1 bz4.2 bu4.1 bu4.2).mono fun e W' ⟨he, bel⟩ => ?_
  subst he
  exact ⟨_, rfl, _, _, _, [], _, [], hW', trodAll_mk1 (shut_bool Try.underlying4 _), (trodAll_cons_mk (Below.trod laidOut (by kernel_rfl) (of_decide_eq_true (by kernel_rfl)) k0 bel lt0) (trodAll_cons_mk (Below.trod laidOut (by kernel_rfl) (of_decide_eq_true (by kernel_rfl)) k1 bel lt1) (trodAll_cons_mk (Below.trod laidOut (by kernel_rfl) (of_decide_eq_true (by kernel_rfl)) k2 bel lt2) (trodAll_cons_mk (Below.trod laidOut (by kernel_rfl) (of_decide_eq_true (by kernel_rfl)) k3 bel lt3) (trodAll_cons_mk (Below.trod laidOut (by kernel_rfl) (of_decide_eq_true (by kernel_rfl)) k4 bel lt4) trodAll_mk0))))), rfl, bel.frame _, fun h => by cases h⟩

theorem over : Rows.pyrPartsRow.holds Try.pinned (OpenSpec.ofChange Rows.pyrPartsSpec) :=
  OpenClaim.holds_of_wide 4 Try.f4 rfl rfl rfl rfl rfl rfl rfl ⟨rfl, rfl, rfl, rfl, rfl⟩ rfl rfl rfl rfl rfl (by kernel_rfl) Try.func4 (by kernel_rfl)
    (of_decide_eq_true (by kernel_rfl)) (by unfold Func.isWrapper; first | (rw [if_pos (by decide +kernel)]; kernel_rfl) | (rw [if_neg (by decide +kernel)]; exact ⟨rfl, rfl⟩))
    (fun os started H enc _ => lifted os started H enc)
end Go.Proofs.Ytccpgalpahfpaaa.pyrPartsRow
namespace Go.Proofs.Ytccpgalpahfpaaa

theorem pyrParts_holds : Rows.PyrPartsSaid := pyrPartsRow.over
#print axioms pyrParts_holds
end Go.Proofs.Ytccpgalpahfpaaa

