/-
  The statement PyrSame: for every input the call returns true. The texts: PyrSame, PyrSameRow.
-/
import Derived.Test.YtccpgalpahfpaaaPartL
import Derived.ProofKit
import Derived.OpenShut
import Derived.Lib.SmallJoins
/-
  The same by size and values.
-/
namespace Go.Proofs.Ytccpgalpahfpaaa
open Go.RowKit
open Sy
set_option linter.unusedVariables false
set_option linter.unusedSimpArgs false
set_option maxRecDepth 100000
set_option maxHeartbeats 4000000

theorem sBuildNil (R : HP) : PureR Try.prog R 14 [.pointer none] (.tuple #[.pointer none, .int .i64 1]) := by
  refine fn_of_run0 false Try.func14 rfl hmix rfl fun w0 => ?_
  conv => whnf
  exact ⟨trivial, fin_pure rfl rfl⟩
theorem sPAtNil (k x y : Int) (R : HP) : PureR Try.prog R 16 [.pointer none, .int .i64 k, cellV x y] (.tuple #[rngV 0 0, .int .i64 1]) := by
  refine fn_of_run0 false Try.func16 rfl hmix rfl fun w0 => ?_
  conv => whnf
  exact ⟨trivial, fin_pure rfl rfl⟩
theorem sPSizeNil (R : HP) : PureR Try.prog R 32 [.pointer none] (.tuple #[.int .i64 0, .int .i64 0]) := by
  refine fn_of_run0 false Try.func32 rfl hmix rfl fun w0 => ?_
  conv => whnf
  exact ⟨trivial, fin_pure rfl rfl⟩
theorem sPLevelsNil (R : HP) : PureR Try.prog R 33 [.pointer none] (.int .i64 0) := by
  refine fn_of_run0 false Try.func33 rfl hmix rfl fun w0 => ?_
  conv => whnf
  exact ⟨trivial, fin_pure rfl rfl⟩
theorem sRepairNil1 (g : Nat) (u0 v0 u1 v1 : Int) (R : HP) : PureR Try.prog R 21 [.pointer none, .pointer (some ⟨g, 0, none⟩), rectV u0 v0 u1 v1] (.int .i64 1) := by
  refine fn_of_run0 false Try.func21 rfl hmix rfl fun w0 => ?_
  conv => whnf
  exact ⟨trivial, fin_pure rfl rfl⟩
theorem sRepairNil2 (p : Nat) (u0 v0 u1 v1 : Int) (R : HP) : PureR Try.prog R 21 [.pointer (some ⟨p, 0, none⟩), .pointer none, rectV u0 v0 u1 v1] (.int .i64 1) := by
  refine fn_of_run0 false Try.func21 rfl hmix rfl fun w0 => ?_
  conv => whnf
  exact ⟨trivial, fin_pure rfl rfl⟩
theorem sPSameNN (R : HP) : PureR Try.prog R 30 [.pointer none, .pointer none] (.bool true) := by
  refine fn_of_run0 false Try.func30 rfl hmix rfl fun w0 => ?_
  conv => whnf
  exact ⟨trivial, fin_pure rfl rfl⟩
theorem sPSamePN (p : Nat) (R : HP) : PureR Try.prog R 30 [.pointer (some ⟨p, 0, none⟩), .pointer none] (.bool false) := by
  refine fn_of_run0 false Try.func30 rfl hmix rfl fun w0 => ?_
  conv => whnf
  exact ⟨trivial, fin_pure rfl rfl⟩
theorem sPSameNP (p : Nat) (R : HP) : PureR Try.prog R 30 [.pointer none, .pointer (some ⟨p, 0, none⟩)] (.bool false) := by
  refine fn_of_run0 false Try.func30 rfl hmix rfl fun w0 => ?_
  conv => whnf
  exact ⟨trivial, fin_pure rfl rfl⟩

theorem PyrSame_walk (W H : Int) (A : Option Addr) (n c : Nat) (l : List Int) (X Y : Int) (A2 : Option Addr) (n2 c2 : Nat) (l2 : List Int) (x y u0 v0 u1 v1 : Int) (w : World) (_ : -9223372036854775808 ≤ W) (_ : W ≤ 9223372036854775807) (_ : -9223372036854775808 ≤ H) (_ : H ≤ 9223372036854775807) (ha : Reads w w.heap.size 1 A n (ints l)) (hn : n ≤ maxLen)
    (_ : -9223372036854775808 ≤ X) (_ : X ≤ 9223372036854775807) (_ : -9223372036854775808 ≤ Y) (_ : Y ≤ 9223372036854775807) (ha2 : Reads w w.heap.size 1 A2 n2 (ints l2)) (hn2 : n2 ≤ maxLen) (_ : -9223372036854775808 ≤ x) (_ : x ≤ 9223372036854775807) (_ : -9223372036854775808 ≤ y) (_ : y ≤ 9223372036854775807)
    (_ : -9223372036854775808 ≤ u0) (_ : u0 ≤ 9223372036854775807) (_ : -9223372036854775808 ≤ v0) (_ : v0 ≤ 9223372036854775807) (_ : -9223372036854775808 ≤ u1) (_ : u1 ≤ 9223372036854775807) (_ : -9223372036854775808 ≤ v1) (_ : v1 ≤ 9223372036854775807) :
    Calls Try.prog 8 #[.int .i64 W, .int .i64 H, .slice A n c, .int .i64 X, .int .i64 Y, .slice A2 n2 c2, .agg #[.int .i64 x, .int .i64 y], .agg #[.int .i64 u0, .int .i64 v0, .int .i64 u1, .int .i64 v1]] w fun e w' => e = .returned (.bool true) ∧ Below w.heap.size w w' := by
  refine PureR.below (args := [.int .i64 W, .int .i64 H, .slice A n c, .int .i64 X, .int .i64 Y, .slice A2 n2 c2, .agg #[.int .i64 x, .int .i64 y], .agg #[.int .i64 u0, .int .i64 v0, .int .i64 u1, .int .i64 v1]]) ?_
  have hv := vs_of_reads ha
  have hv2 := vs_of_reads ha2
  by_cases hok : LandOk W H 1000 n l
  · by_cases hok2 : LandOk X Y 1000 n2 l2
    · obtain ⟨W, H, rfl, rfl, w1, w2, h1, h2, hWH, hn0, hn1⟩ := land_nat hok (by decide)
      obtain ⟨X, Y, rfl, rfl, w3, w4, h3, h4, hXY, hm0, hm1⟩ := land_nat hok2 (by decide)
      have hm := hok.2.2.2.2.2.2
      have hm2 := hok2.2.2.2.2.2.2
      obtain ⟨rr, hrr⟩ : ∃ rr : Bool, rr = true ↔ (W = X ∧ H = Y ∧ ∀ x y, x < W → y < H → gv W l x y = gv X l2 x y) := by
        classical
        exact ⟨decide (W = X ∧ H = Y ∧ ∀ x y, x < W → y < H → gv W l x y = gv X l2 x y), decide_eq_true_iff⟩
      refine fn_of_run0 false Try.func8 rfl hmix rfl fun w0 => ?_
      conv => whnf
      refine ⟨trivial, CallAt.pure (fun R' hR' => sAwake16 R') ?_⟩
      conv => whnf
      refine iff_f (by decide) ?_
      conv => whnf
      refine ⟨trivial, CallAt.pure (fun R' hR' => sLandYes (hv.mono fun w s => hR' w s) (by decide) hn hok) ?_⟩
      conv => whnf
      refine ⟨trivial, CallAt.pure (fun R' hR' => sLandYes (hv2.mono fun w s => hR' w s) (by decide) hn2 hok2) ?_⟩
      conv => whnf
      refine ⟨fun _ => ?_, fun h => absurd h (by decide)⟩
      conv => whnf
      refine iff_f (by decide) ?_
      conv => whnf
      refine ⟨trivial, CallAt.fn (pre := []) _ (fun h s => s) (fun R' hR' => sMadeV (hv.mono fun w s => hR' w s) w1 w2 h1 h2 hWH hm) ?_⟩
      rintro r hs ⟨ga, rfl, rfl⟩
      conv => whnf
      refine ⟨trivial, CallAt.fn (pre := []) _ (fun h s => s) (fun R' hR' => sMadeV (hv2.mono fun w s => (hR' w s).rest) w3 w4 h3 h4 hXY hm2) ?_⟩
      rintro r hs ⟨gb, rfl, rfl⟩
      conv => whnf
      refine ⟨trivial, CallAt.fn (pre := []) _ (fun h s => s) (fun R' hR' => sBuild (gridAt_rest 1 rfl hR')) ?_⟩
      rintro r hs ⟨pb, rfl, rfl⟩
      conv => whnf
      refine ⟨trivial, CallAt.fn (pre := []) _ (fun h s => s) (fun R' hR' => sBuild (gridAt_rest 1 rfl hR')) ?_⟩
      rintro r hs ⟨qb, rfl, rfl⟩
      conv => whnf
      iterate 4
        refine ⟨fun _ => ?_, fun h => absurd h (by decide)⟩
        conv => whnf
      refine ⟨trivial, CallAt.pure (fun R' hR' => sPSame hrr ⟨w1, w2⟩ ⟨h1, h2⟩ ⟨w3, w4⟩ ⟨h3, h4⟩ (fun w s => (hR' w s).in_ 1 rfl) (fun w s => (hR' w s).in_ 0 rfl)) ?_⟩
      conv => whnf
      refine ⟨trivial, CallAt.pure (fun R' hR' => sGridSame hrr (gridAt_rest 3 rfl hR') (gridAt_rest 2 rfl hR')) ?_⟩
      conv => whnf
      refine iff_f (by simp) ?_
      conv => whnf
      by_cases hsame : W = X ∧ H = Y
      · obtain ⟨rfl, rfl⟩ := hsame
        refine ⟨fun _ => ?_, fun h => absurd h (by simp)⟩
        conv => whnf
        refine ⟨fun h => absurd h (by simp), fun _ => ?_⟩
        conv => whnf
        refine ⟨trivial, CallAt.pure (fun R' hR' => sBuildNil R') ?_⟩
        conv => whnf
        refine ⟨trivial, CallAt.pure (fun R' hR' => sPAtNil 0 x y R') ?_⟩
        conv => whnf
        refine ⟨trivial, CallAt.pure (fun R' hR' => sPSizeNil R') ?_⟩
        conv => whnf
        refine ⟨fun _ => ?_, fun h => absurd h (by decide)⟩
        conv => whnf
        refine ⟨trivial, OpAt.aggEq rfl rfl rfl rfl (by kernel_rfl) (fun w => rng_eq _ _ _ _ w) ?_⟩
        conv => whnf
        refine ⟨fun _ => ?_, fun h => absurd h (by decide)⟩
        conv => whnf
        refine ⟨fun _ => ?_, fun h => absurd h (by decide)⟩
        conv => whnf
        refine ⟨fun _ => ?_, fun h => absurd h (by decide)⟩
        conv => whnf
        refine ⟨fun _ => ?_, fun h => absurd h (by decide)⟩
        conv => whnf
        refine ⟨trivial, CallAt.pure (fun R' hR' => sPLevelsNil R') ?_⟩
        conv => whnf
        refine ⟨fun _ => ?_, fun h => absurd h (by decide)⟩
        conv => whnf
        refine ⟨trivial, CallAt.pure (fun R' hR' => sRepairNil1 ga u0 v0 u1 v1 R') ?_⟩
        conv => whnf
        refine ⟨fun _ => ?_, fun h => absurd h (by decide)⟩
        conv => whnf
        refine ⟨trivial, CallAt.pure (fun R' hR' => sRepairNil2 pb u0 v0 u1 v1 R') ?_⟩
        conv => whnf
        refine ⟨fun _ => ?_, fun h => absurd h (by decide)⟩
        conv => whnf
        refine ⟨trivial, CallAt.pure (fun R' hR' => sPSameNN R') ?_⟩
        conv => whnf
        refine ⟨fun _ => ?_, fun h => absurd h (by decide)⟩
        conv => whnf
        refine ⟨trivial, CallAt.pure (fun R' hR' => sPSamePN pb R') ?_⟩
        conv => whnf
        refine ⟨fun _ => ?_, fun h => absurd h (by decide)⟩
        conv => whnf
        refine ⟨trivial, CallAt.pure (fun R' hR' => sPSameNP pb R') ?_⟩
        conv => whnf
        exact ⟨trivial, .mk [] (fun w s => s.rest) ⟨rfl, rfl⟩⟩
      · refine ⟨fun g1 => ?_, fun g1 => ?_⟩
        · conv => whnf
          refine ⟨fun _ => ?_, fun h => absurd h (by simp at g1 ⊢; omega)⟩
          conv => whnf
          refine ⟨trivial, CallAt.fn [pyrH qb X Y (Pf X Y (gv X l2)), gridH gb X Y (gv X l2), gridH ga W H (gv W l)] (fun h s => sepL_pull 1 s) (fun R' hR' => sRepairSize (gridAt_rest 1 rfl hR') w1 h1 (by omega)) ?_⟩
          rintro r hs ⟨rfl, rfl⟩
          conv => whnf
          refine iff_f (by decide) ?_
          conv => whnf
          refine ⟨trivial, CallAt.pure (fun R' hR' => sBuildNil R') ?_⟩
          conv => whnf
          refine ⟨trivial, CallAt.pure (fun R' hR' => sPAtNil 0 x y R') ?_⟩
          conv => whnf
          refine ⟨trivial, CallAt.pure (fun R' hR' => sPSizeNil R') ?_⟩
          conv => whnf
          refine ⟨fun _ => ?_, fun h => absurd h (by decide)⟩
          conv => whnf
          refine ⟨trivial, OpAt.aggEq rfl rfl rfl rfl (by kernel_rfl) (fun w => rng_eq _ _ _ _ w) ?_⟩
          conv => whnf
          refine ⟨fun _ => ?_, fun h => absurd h (by decide)⟩
          conv => whnf
          refine ⟨fun _ => ?_, fun h => absurd h (by decide)⟩
          conv => whnf
          refine ⟨fun _ => ?_, fun h => absurd h (by decide)⟩
          conv => whnf
          refine ⟨fun _ => ?_, fun h => absurd h (by decide)⟩
          conv => whnf
          refine ⟨trivial, CallAt.pure (fun R' hR' => sPLevelsNil R') ?_⟩
          conv => whnf
          refine ⟨fun _ => ?_, fun h => absurd h (by decide)⟩
          conv => whnf
          refine ⟨trivial, CallAt.pure (fun R' hR' => sRepairNil1 ga u0 v0 u1 v1 R') ?_⟩
          conv => whnf
          refine ⟨fun _ => ?_, fun h => absurd h (by decide)⟩
          conv => whnf
          refine ⟨trivial, CallAt.pure (fun R' hR' => sRepairNil2 pb u0 v0 u1 v1 R') ?_⟩
          conv => whnf
          refine ⟨fun _ => ?_, fun h => absurd h (by decide)⟩
          conv => whnf
          refine ⟨trivial, CallAt.pure (fun R' hR' => sPSameNN R') ?_⟩
          conv => whnf
          refine ⟨fun _ => ?_, fun h => absurd h (by decide)⟩
          conv => whnf
          refine ⟨trivial, CallAt.pure (fun R' hR' => sPSamePN pb R') ?_⟩
          conv => whnf
          refine ⟨fun _ => ?_, fun h => absurd h (by decide)⟩
          conv => whnf
          refine ⟨trivial, CallAt.pure (fun R' hR' => sPSameNP pb R') ?_⟩
          conv => whnf
          exact ⟨trivial, .mk [] (fun w s => s.rest) ⟨rfl, rfl⟩⟩
        · conv => whnf
          refine ⟨trivial, CallAt.fn [pyrH qb X Y (Pf X Y (gv X l2)), gridH gb X Y (gv X l2), gridH ga W H (gv W l)] (fun h s => sepL_pull 1 s) (fun R' hR' => sRepairSize (gridAt_rest 1 rfl hR') w1 h1 (by omega)) ?_⟩
          rintro r hs ⟨rfl, rfl⟩
          conv => whnf
          refine iff_f (by decide) ?_
          conv => whnf
          refine ⟨trivial, CallAt.pure (fun R' hR' => sBuildNil R') ?_⟩
          conv => whnf
          refine ⟨trivial, CallAt.pure (fun R' hR' => sPAtNil 0 x y R') ?_⟩
          conv => whnf
          refine ⟨trivial, CallAt.pure (fun R' hR' => sPSizeNil R') ?_⟩
          conv => whnf
          refine ⟨fun _ => ?_, fun h => absurd h (by decide)⟩
          conv => whnf
          refine ⟨trivial, OpAt.aggEq rfl rfl rfl rfl (by kernel_rfl) (fun w => rng_eq _ _ _ _ w) ?_⟩
          conv => whnf
          refine ⟨fun _ => ?_, fun h => absurd h (by decide)⟩
          conv => whnf
          refine ⟨fun _ => ?_, fun h => absurd h (by decide)⟩
          conv => whnf
          refine ⟨fun _ => ?_, fun h => absurd h (by decide)⟩
          conv => whnf
          refine ⟨fun _ => ?_, fun h => absurd h (by decide)⟩
          conv => whnf
          refine ⟨trivial, CallAt.pure (fun R' hR' => sPLevelsNil R') ?_⟩
          conv => whnf
          refine ⟨fun _ => ?_, fun h => absurd h (by decide)⟩
          conv => whnf
          refine ⟨trivial, CallAt.pure (fun R' hR' => sRepairNil1 ga u0 v0 u1 v1 R') ?_⟩
          conv => whnf
          refine ⟨fun _ => ?_, fun h => absurd h (by decide)⟩
          conv => whnf
          refine ⟨trivial, CallAt.pure (fun R' hR' => sRepairNil2 pb u0 v0 u1 v1 R') ?_⟩
          conv => whnf
          refine ⟨fun _ => ?_, fun h => absurd h (by decide)⟩
          conv => whnf
          refine ⟨trivial, CallAt.pure (fun R' hR' => sPSameNN R') ?_⟩
          conv => whnf
          refine ⟨fun _ => ?_, fun h => absurd h (by decide)⟩
          conv => whnf
          refine ⟨trivial, CallAt.pure (fun R' hR' => sPSamePN pb R') ?_⟩
          conv => whnf
          refine ⟨fun _ => ?_, fun h => absurd h (by decide)⟩
          conv => whnf
          refine ⟨trivial, CallAt.pure (fun R' hR' => sPSameNP pb R') ?_⟩
          conv => whnf
          exact ⟨trivial, .mk [] (fun w s => s.rest) ⟨rfl, rfl⟩⟩
    · refine fn_of_run0 false Try.func8 rfl hmix rfl fun w0 => ?_
      conv => whnf
      refine ⟨trivial, CallAt.pure (fun R' hR' => sAwake16 R') ?_⟩
      conv => whnf
      refine iff_f (by decide) ?_
      conv => whnf
      refine ⟨trivial, CallAt.pure (fun R' hR' => sLandYes (hv.mono fun w s => hR' w s) (by decide) hn hok) ?_⟩
      conv => whnf
      refine ⟨trivial, CallAt.pure (fun R' hR' => sLandNo (hv2.mono fun w s => hR' w s) (by decide) hn2 hok2) ?_⟩
      conv => whnf
      refine ⟨fun _ => ?_, fun h => absurd h (by decide)⟩
      conv => whnf
      refine iff_t (by decide) ?_
      conv => whnf
      exact ⟨trivial, fin_pure rfl rfl⟩
  · by_cases hok2 : LandOk X Y 1000 n2 l2
    · refine fn_of_run0 false Try.func8 rfl hmix rfl fun w0 => ?_
      conv => whnf
      refine ⟨trivial, CallAt.pure (fun R' hR' => sAwake16 R') ?_⟩
      conv => whnf
      refine iff_f (by decide) ?_
      conv => whnf
      refine ⟨trivial, CallAt.pure (fun R' hR' => sLandNo (hv.mono fun w s => hR' w s) (by decide) hn hok) ?_⟩
      conv => whnf
      refine ⟨trivial, CallAt.pure (fun R' hR' => sLandYes (hv2.mono fun w s => hR' w s) (by decide) hn2 hok2) ?_⟩
      conv => whnf
      refine ⟨fun h => absurd h (by decide), fun _ => ?_⟩
      conv => whnf
      exact ⟨trivial, fin_pure rfl rfl⟩
    · refine fn_of_run0 false Try.func8 rfl hmix rfl fun w0 => ?_
      conv => whnf
      refine ⟨trivial, CallAt.pure (fun R' hR' => sAwake16 R') ?_⟩
      conv => whnf
      refine iff_f (by decide) ?_
      conv => whnf
      refine ⟨trivial, CallAt.pure (fun R' hR' => sLandNo (hv.mono fun w s => hR' w s) (by decide) hn hok) ?_⟩
      conv => whnf
      refine ⟨trivial, CallAt.pure (fun R' hR' => sLandNo (hv2.mono fun w s => hR' w s) (by decide) hn2 hok2) ?_⟩
      conv => whnf
      refine ⟨fun h => absurd h (by decide), fun _ => ?_⟩
      conv => whnf
      exact ⟨trivial, fin_pure rfl rfl⟩
end Go.Proofs.Ytccpgalpahfpaaa

/-
  The statement of hachurelaw16.PyrSame: for every input the call returns true, and each argument reads afterwards as it read before. The row's own frame round the walk 'PyrSame_walk'.
-/
namespace Go.Proofs.Ytccpgalpahfpaaa.pyrSameRow
open Go.Proofs.Ytccpgalpahfpaaa
open Go.ChangeShapes Go.WideShapes Go.ChangeAt Go.RowKit Go.Joins
set_option linter.unusedVariables false

theorem own : ownKnob Try.prog.godebug = none := by kernel_rfl
theorem laidOut : laidOutB Try.prog = true := by kernel_rfl


set_option maxRecDepth 100000 in
theorem lifted (os : Os) (started : os.Started) (H : Type) (enc : TypeId × Value → H) :
    ReturnsInHanded {} Try.checked os 8 .any (Rows.pyrSameSpec.pre6 enc Try.prog Try.f8 Rows.pyrSameRow.domain false) (Rows.pyrSameSpec.post enc Try.prog Try.f8 false true false false) := by
  refine returnsInHanded_of_change (C := Try.checked) own started (by kernel_rfl) Try.func8
    (ChangeSpec.witness6 (enc := enc) (C := Try.checked) false ⟨#[], #[.int .i64 0, .int .i64 0, .slice none 0 0, .int .i64 0, .int .i64 0, .slice none 0 0, .agg #[.int .i64 0, .int .i64 0], .agg #[.int .i64 0, .int .i64 0, .int .i64 0, .int .i64 0]], []⟩ 8 (by kernel_rfl) (by kernel_rfl) (by kernel_rfl) (by kernel_rfl)) ?_
  intro W base args ds gs before hval0 hW hcnd _
  have hval : ∀ (j : Nat) t v, Try.f8.params[j]? = some t → args[j]? = some v → Value.okWide Try.prog W .any base t v := hval0
  have hW' := hW
  obtain ⟨p, q, hA0, hV, rfl, hfz, hnd⟩ := hW
  have hA : DataW.TrodAll enc Try.prog W 0 (fun _ => true) true Try.f8.params.toList args.toList ds p := hA0
  rw [Try.params8] at hA hval
  obtain ⟨v0, vs0, d0, ds0, p0, q0, hargs, rfl, rfl, h0, r0⟩ := trodAll_cons hA
  obtain ⟨v1, vs1, d1, ds1, p1, q1, rfl, rfl, rfl, h1, r1⟩ := trodAll_cons r0
  obtain ⟨v2, vs2, d2, ds2, p2, q2, rfl, rfl, rfl, h2, r2⟩ := trodAll_cons r1
  obtain ⟨v3, vs3, d3, ds3, p3, q3, rfl, rfl, rfl, h3, r3⟩ := trodAll_cons r2
  obtain ⟨v4, vs4, d4, ds4, p4, q4, rfl, rfl, rfl, h4, r4⟩ := trodAll_cons r3
  obtain ⟨v5, vs5, d5, ds5, p5, q5, rfl, rfl, rfl, h5, r5⟩ := trodAll_cons r4
  obtain ⟨v6, vs6, d6, ds6, p6, q6, rfl, rfl, rfl, h6, r6⟩ := trodAll_cons r5
  obtain ⟨v7, vs7, d7, ds7, p7, q7, rfl, rfl, rfl, h7, r7⟩ := trodAll_cons r6
  obtain ⟨rfl, rfl, rfl⟩ := trodAll_nil r7
  obtain rfl : args = #[v0, v1, v2, v3, v4, v5, v6, v7] := by cases args; simp_all
  obtain ⟨rfl, rfl⟩ := trodVars_none hV
  have k0 := h0
  have lt0 : ∀ x ∈ p0, x.block < W.heap.size := by obtain ⟨m, hm⟩ := k0; exact DataW.trod_lt m _ _ _ hm
  have k1 := h1
  have lt1 : ∀ x ∈ p1, x.block < W.heap.size := by obtain ⟨m, hm⟩ := k1; exact DataW.trod_lt m _ _ _ hm
  have k2 := h2
  have lt2 : ∀ x ∈ p2, x.block < W.heap.size := by obtain ⟨m, hm⟩ := k2; exact DataW.trod_lt m _ _ _ hm
  have k3 := h3
  have lt3 : ∀ x ∈ p3, x.block < W.heap.size := by obtain ⟨m, hm⟩ := k3; exact DataW.trod_lt m _ _ _ hm
  have k4 := h4
  have lt4 : ∀ x ∈ p4, x.block < W.heap.size := by obtain ⟨m, hm⟩ := k4; exact DataW.trod_lt m _ _ _ hm
  have k5 := h5
  have lt5 : ∀ x ∈ p5, x.block < W.heap.size := by obtain ⟨m, hm⟩ := k5; exact DataW.trod_lt m _ _ _ hm
  have k6 := h6
  have lt6 : ∀ x ∈ p6, x.block < W.heap.size := by obtain ⟨m, hm⟩ := k6; exact DataW.trod_lt m _ _ _ hm
  have k7 := h7
  have lt7 : ∀ x ∈ p7, x.block < W.heap.size := by obtain ⟨m, hm⟩ := k7; exact DataW.trod_lt m _ _ _ hm
  obtain ⟨a0, rfl, rfl, rfl, w0⟩ := open_int Try.underlying2 (hval 0 2 v0 rfl rfl) h0
  have b0 := bounds_i64 w0
  obtain ⟨a1, rfl, rfl, rfl, w1⟩ := open_int Try.underlying2 (hval 1 2 v1 rfl rfl) h1
  have b1 := bounds_i64 w1
  obtain ⟨a2, len2, cap2, rfl⟩ := okWide_slice Try.underlying22 (hval 2 22 v2 rfl rfl)
  obtain ⟨l2, hl2, hn2⟩ : ∃ l, Reads W W.heap.size 1 a2 len2 (ints l) ∧ len2 ≤ maxLen := by
    obtain ⟨fuel, hf⟩ := h2
    rcases open_ints Try.underlying22 Try.underlying2 (by kernel_rfl) hf with ⟨hcs, _⟩ | ⟨x, l, c, zs, hcs, _, hl, hm, hz, _, hcell, hwz⟩
    · simp [Value.cells] at hcs
      obtain ⟨rfl, rfl, rfl⟩ := hcs
      exact ⟨[], Reads.empty, by simp [maxLen]⟩
    · simp [Value.cells] at hcs
      obtain ⟨rfl, rfl, rfl⟩ := hcs
      obtain ⟨l, hl2⟩ := ints_of hl (by simpa using hz) hcell
      exact ⟨l, hl2, Nat.le_trans hl hm⟩
  obtain ⟨a3, rfl, rfl, rfl, w3⟩ := open_int Try.underlying2 (hval 3 2 v3 rfl rfl) h3
  have b3 := bounds_i64 w3
  obtain ⟨a4, rfl, rfl, rfl, w4⟩ := open_int Try.underlying2 (hval 4 2 v4 rfl rfl) h4
  have b4 := bounds_i64 w4
  obtain ⟨a5, len5, cap5, rfl⟩ := okWide_slice Try.underlying22 (hval 5 22 v5 rfl rfl)
  obtain ⟨l5, hl5, hn5⟩ : ∃ l, Reads W W.heap.size 1 a5 len5 (ints l) ∧ len5 ≤ maxLen := by
    obtain ⟨fuel, hf⟩ := h5
    rcases open_ints Try.underlying22 Try.underlying2 (by kernel_rfl) hf with ⟨hcs, _⟩ | ⟨x, l, c, zs, hcs, _, hl, hm, hz, _, hcell, hwz⟩
    · simp [Value.cells] at hcs
      obtain ⟨rfl, rfl, rfl⟩ := hcs
      exact ⟨[], Reads.empty, by simp [maxLen]⟩
    · simp [Value.cells] at hcs
      obtain ⟨rfl, rfl, rfl⟩ := hcs
      obtain ⟨l, hl2⟩ := ints_of hl (by simpa using hz) hcell
      exact ⟨l, hl2, Nat.le_trans hl hm⟩
  obtain ⟨c6, e6, y6, z6, m6, rfl, rfl, rfl, hy6, hz6⟩ := open_agg2 Try.underlying24 (by kernel_rfl) (by kernel_rfl) (hval 6 24 v6 rfl rfl) h6
  obtain ⟨x6, f6, rfl, wx6⟩ := DataW.trod_int Try.underlying2 hy6
  obtain ⟨u6, g6, rfl, wu6⟩ := DataW.trod_int Try.underlying2 hz6
  simp at f6 g6
  subst f6 g6
  have bx6 := bounds_i64 wx6
  have bu6 := bounds_i64 wu6
  obtain ⟨ca7, cb7, cc7, cd7, ea7, eb7, ec7, ed7, em7, rfl, rfl, rfl, ha7, hb7, hc7, hd7⟩ := open_agg4 Try.underlying45 (by kernel_rfl) (by kernel_rfl) (hval 7 45 v7 rfl rfl) h7
  obtain ⟨x7, fx7, rfl, wx7⟩ := DataW.trod_int Try.underlying2 ha7
  obtain ⟨y7, fy7, rfl, wy7⟩ := DataW.trod_int Try.underlying2 hb7
  obtain ⟨z7, fz7, rfl, wz7⟩ := DataW.trod_int Try.underlying2 hc7
  obtain ⟨u7, fu7, rfl, wu7⟩ := DataW.trod_int Try.underlying2 hd7
  simp at fx7 fy7 fz7 fu7
  subst fx7 fy7 fz7 fu7
  have bx7 := bounds_i64 wx7
  have by7 := bounds_i64 wy7
  have bz7 := bounds_i64 wz7
  have bu7 := bounds_i64 wu7
  clear hA0 hval0
  refine (PyrSame_walk a0 a1 a2 len2 cap2 l2 a3 a4 a5 len5 cap5 l5 x6 u6 x7 y7 z7 u7 W b0.1 b0.2 b1.1 b1.2 hl2 hn2 b3.1 b3.2 b4.1 b4.2 hl5 hn5 bx6.1 bx6.2 bu6.1 bu6.2 bx7.1 bx7.2 by7.1 by7.2 bz7.1 bz7.2 bu7.1 bu7.2).mono fun e W' ⟨he, bel⟩ => ?_
  subst he
  exact ⟨_, rfl, _, _, _, [], _, [], hW', trodAll_mk1 (shut_bool Try.underlying4 _), (trodAll_cons_mk (Below.trod laidOut (by kernel_rfl) (of_decide_eq_true (by kernel_rfl)) k0 bel lt0) (trodAll_cons_mk (Below.trod laidOut (by kernel_rfl) (of_decide_eq_true (by kernel_rfl)) k1 bel lt1) (trodAll_cons_mk (Below.trod laidOut (by kernel_rfl) (of_decide_eq_true (by kernel_rfl)) k2 bel lt2) (trodAll_cons_mk (Below.trod laidOut (by kernel_rfl) (of_decide_eq_true (by kernel_rfl)) k3 bel lt3) (trodAll_cons_mk (Below.trod laidOut (by kernel_rfl) (of_decide_eq_true (by kernel_rfl)) k4 bel lt4) (trodAll_cons_mk (Below.trod laidOut (by kernel_rfl) (of_decide_eq_true (by kernel_rfl)) k5 bel lt5) (trodAll_cons_mk (Below.trod laidOut (by kernel_rfl) (of_decide_eq_true (by kernel_rfl)) k6 bel lt6) (trodAll_cons_mk (Below.trod laidOut (by kernel_rfl) (of_decide_eq_true (by kernel_rfl)) k7 bel lt7) trodAll_mk0)))))))), rfl, bel.frame _, fun h => by cases h⟩

theorem over : Rows.pyrSameRow.holds Try.pinned (OpenSpec.ofChange Rows.pyrSameSpec) :=
  OpenClaim.holds_of_wide 8 Try.f8 rfl rfl rfl rfl rfl rfl rfl ⟨rfl, rfl, rfl, rfl, rfl⟩ rfl rfl rfl rfl rfl (by kernel_rfl) Try.func8 (by kernel_rfl)
    (of_decide_eq_true (by kernel_rfl)) (by unfold Func.isWrapper; first | (rw [if_pos (by decide +kernel)]; kernel_rfl) | (rw [if_neg (by decide +kernel)]; exact ⟨rfl, rfl⟩))
    (fun os started H enc _ => lifted os started H enc)
end Go.Proofs.Ytccpgalpahfpaaa.pyrSameRow
namespace Go.Proofs.Ytccpgalpahfpaaa

theorem pyrSame_holds : Rows.PyrSameSaid := pyrSameRow.over
#print axioms pyrSame_holds
end Go.Proofs.Ytccpgalpahfpaaa

