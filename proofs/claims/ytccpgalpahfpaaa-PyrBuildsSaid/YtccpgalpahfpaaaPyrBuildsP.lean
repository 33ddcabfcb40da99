/-
  The statement PyrBuilds: for every input the call returns true. The texts: PyrBuilds, PyrBuildsRow.
-/
import Derived.Test.YtccpgalpahfpaaaPartK
import Derived.ProofKit
import Derived.OpenShut
import Derived.Lib.SmallJoins
/-
  The least and the greatest below.
-/
namespace Go.Proofs.Ytccpgalpahfpaaa
open Go.RowKit
open Sy
set_option linter.unusedVariables false
set_option linter.unusedSimpArgs false
set_option maxRecDepth 100000
set_option maxHeartbeats 4000000

theorem sAwake16 (R : HP) : PureR Try.prog R 11 [] (.bool true) := by
  have hv : ((1 : Int), (3 : Int)) = Pf 3 1 (gv 3 [3, 1, 2]) 2 (0 * halfN 3 2 + 0) := by decide
  have hlv : levN ((3 : Nat) : Int) ((1 : Nat) : Int) = 3 := by decide
  have hat := fun (pb : Nat) (R' : HP) hR' => sPAt (R := R') (pb := pb) (W := 3) (H := 1) (k := 2) (F := Pf 3 1 (gv 3 [3, 1, 2])) (x := 0) (y := 0) (v := (1, 3)) (e := 0) (by omega) (by omega) hR' (by rw [hlv]; omega) (.inl ⟨0, 0, rfl, rfl, by decide, by decide, hv, rfl⟩)
  have hle := fun (pb : Nat) (R' : HP) hR' => sPLevels (R := R') (pb := pb) (W := 3) (H := 1) (F := Pf 3 1 (gv 3 [3, 1, 2])) hR'
  rw [hlv] at hle
  refine fn_of_run0 false Try.func11 rfl hmix rfl fun w0 => ?_
  conv => whnf
  refine ⟨trivial, OpAt.lit [.int .i64 3, .int .i64 1, .int .i64 2] 1 rfl rfl rfl rfl rfl (by decide) rfl rfl rfl (by simp [Value.cells]) rfl (by decide) fun g => ?_⟩
  conv => whnf
  refine ⟨trivial, CallAt.fn (pre := []) _ (fun h s => s) (fun R' hR' => sFrom (W := 3) (H := 1) (l := [3, 1, 2]) (Vs.row fun w s => (hR' w s).in_ 0 rfl) (by simp [MayV]) (by decide) (by decide) (by decide) (by decide) rfl) ?_⟩
  rintro r hs ⟨gb, rfl, rfl⟩
  conv => whnf
  refine ⟨trivial, CallAt.fn (pre := []) _ (fun h s => s) (fun R' hR' => sBuild (gridAt_rest 0 rfl hR')) ?_⟩
  rintro r hs ⟨pb, rfl, rfl⟩
  conv => whnf
  refine ⟨trivial, CallAt.pure (fun R' hR' => hat pb R' fun w s => (hR' w s).in_ 0 rfl) ?_⟩
  conv => whnf
  iterate 3
    refine ⟨fun _ => ?_, fun h => absurd h (by decide)⟩
    conv => whnf
  refine ⟨trivial, CallAt.pure (fun R' hR' => hle pb R' fun w s => (hR' w s).in_ 0 rfl) ?_⟩
  conv => whnf
  refine ⟨fun _ => ?_, fun h => absurd h (by decide)⟩
  conv => whnf
  refine ⟨trivial, OpAt.aggEq rfl rfl rfl rfl (by kernel_rfl) (fun w => rng_eq _ _ _ _ w) ?_⟩
  conv => whnf
  exact ⟨trivial, .mk [] (fun w s => s.rest) ⟨rfl, rfl⟩⟩

theorem PyrBuilds_walk (W H : Int) (A : Option Addr) (n c : Nat) (l : List Int) (k x y : Int) (w : World) (_ : -9223372036854775808 ≤ W) (_ : W ≤ 9223372036854775807) (_ : -9223372036854775808 ≤ H) (_ : H ≤ 9223372036854775807) (ha : Reads w w.heap.size 1 A n (ints l)) (hn : n ≤ maxLen)
    (_ : -9223372036854775808 ≤ k) (_ : k ≤ 9223372036854775807) (_ : -9223372036854775808 ≤ x) (_ : x ≤ 9223372036854775807) (_ : -9223372036854775808 ≤ y) (_ : y ≤ 9223372036854775807) :
    Calls Try.prog 3 #[.int .i64 W, .int .i64 H, .slice A n c, .int .i64 k, .agg #[.int .i64 x, .int .i64 y]] w fun e w' => e = .returned (.bool true) ∧ Below w.heap.size w w' := by
  refine PureR.below (args := [.int .i64 W, .int .i64 H, .slice A n c, .int .i64 k, .agg #[.int .i64 x, .int .i64 y]]) ?_
  have hv := vs_of_reads ha
  have hl : l.length = n := by have := ha.1; simpa [ints] using this
  by_cases hok : LandOk W H 1000 n l
  · obtain ⟨W, H, rfl, rfl, w1, w2, h1, h2, hWH, hn0, hn1⟩ := land_nat hok (by decide)
    have hm := hok.2.2.2.2.2.2
    have hsz : SizeOk (W : Int) (H : Int) := ⟨by omega, by omega, by omega, by omega⟩
    obtain ⟨v, e, hp, hr⟩ : ∃ (v : Int × Int) (e : Int), (∀ (pb : Nat) (R' : HP), (∀ w, Sat R' w → Sat (pyrH pb W H (Pf W H (gv W l))) w) → PureR Try.prog R' 16 [.pointer (some ⟨pb, 0, none⟩), .int .i64 k, cellV x y] (.tuple #[rngV v.1 v.2, .int .i64 e])) ∧
        (∀ R', Vs R' A n l → PureR Try.prog R' 17 [modV W H A n c, .int .i64 k, cellV x y] (.tuple #[rngV v.1 v.2, .int .i64 e])) := by
      by_cases hk : k < 0 ∨ (levN W H : Int) ≤ k
      · exact ⟨(0, 0), 11, fun pb R' hR' => sPAtArg hR' hk, fun R' hR' => sRAtArg hsz hk⟩
      · obtain ⟨K, rfl⟩ : ∃ K : Nat, k = K := ⟨k.toNat, by omega⟩
        have hK : K < levN W H := by omega
        by_cases hc : x < 0 ∨ (halfN W K : Int) ≤ x ∨ y < 0 ∨ (halfN H K : Int) ≤ y
        · exact ⟨(0, 0), 4, fun pb R' hR' => sPAt ⟨w1, w2⟩ ⟨h1, h2⟩ hR' hK (.inr ⟨hc, rfl, rfl⟩), fun R' hR' => sRAt hR' hWH hsz hK (.inr ⟨hc, rfl, rfl⟩)⟩
        · obtain ⟨X, rfl⟩ : ∃ X : Nat, x = X := ⟨x.toNat, by omega⟩
          obtain ⟨Y, rfl⟩ : ∃ Y : Nat, y = Y := ⟨y.toNat, by omega⟩
          have hX : X < halfN W K := by omega
          have hY : Y < halfN H K := by omega
          refine ⟨(lv mnL W H K (gv W l) X Y, lv mxL W H K (gv W l) X Y), 0, fun pb R' hR' => sPAt ⟨w1, w2⟩ ⟨h1, h2⟩ hR' hK (.inl ⟨X, Y, rfl, rfl, hX, hY, ?_, rfl⟩), fun R' hR' => sRAt hR' hWH hsz hK (.inl ⟨X, Y, rfl, rfl, hX, hY, rfl, rfl⟩)⟩
          unfold Pf
          rw [(xy_mod hX).1, (xy_mod hX).2]
    obtain ⟨v1, v2⟩ := v
    refine fn_of_run0 false Try.func3 rfl hmix rfl fun w0 => ?_
    conv => whnf
    refine ⟨trivial, CallAt.pure (fun R' hR' => sAwake16 R') ?_⟩
    conv => whnf
    refine iff_f (by decide) ?_
    conv => whnf
    refine ⟨trivial, CallAt.pure (fun R' hR' => sLandYes (hv.mono fun w s => hR' w s) (by decide) hn hok) ?_⟩
    conv => whnf
    refine iff_f (by decide) ?_
    conv => whnf
    refine ⟨trivial, CallAt.fn (pre := []) _ (fun h s => s) (fun R' hR' => sMadeV (hv.mono fun w s => hR' w s) w1 w2 h1 h2 hWH hm) ?_⟩
    rintro r hs ⟨gb, rfl, rfl⟩
    conv => whnf
    refine ⟨trivial, CallAt.fn (pre := []) _ (fun h s => s) (fun R' hR' => sBuild (gridAt_rest 0 rfl hR')) ?_⟩
    rintro r hs ⟨pb, rfl, rfl⟩
    conv => whnf
    iterate 2
      refine ⟨fun _ => ?_, fun h => absurd h (by decide)⟩
      conv => whnf
    refine ⟨trivial, CallAt.pure (fun R' hR' => sOver (fun w s => (hR' w s).in_ 0 rfl) (hv.mono fun w s => (hR' w s).rest) hWH hsz (fun _ _ _ _ => rfl)) ?_⟩
    conv => whnf
    refine iff_f (by decide) ?_
    conv => whnf
    refine ⟨trivial, CallAt.pure (fun R' hR' => hp pb R' fun w s => (hR' w s).in_ 0 rfl) ?_⟩
    conv => whnf
    refine ⟨trivial, CallAt.pure (fun R' hR' => hr R' (hv.mono fun w s => (hR' w s).rest)) ?_⟩
    conv => whnf
    refine ⟨trivial, CallAt.pure (fun R' hR' => gAll_p (gridAt_rest 1 rfl hR')) ?_⟩
    conv => whnf
    refine ⟨trivial, CallAt.fn [pyrH pb W H (Pf W H (gv W l))] (fun h s => sepL_pull 1 s) (fun R' hR' => gFill_i ⟨0, 0, (W : Int) - 1, (H : Int) - 1⟩ rfl (by omega) (by omega) (by omega) (by omega) (by omega) (by omega) (by unfold MayV; omega)) ?_⟩
    rintro r hs ⟨rfl, rfl⟩
    conv => whnf
    refine ⟨trivial, OpAt.aggEq rfl rfl rfl rfl (by kernel_rfl) (fun w => rng_eq _ _ _ _ w) ?_⟩
    conv => whnf
    refine ⟨fun _ => ?_, fun h => absurd h (by simp)⟩
    conv => whnf
    refine ⟨fun _ => ?_, fun h => absurd h (by simp)⟩
    conv => whnf
    refine ⟨trivial, CallAt.pure (fun R' hR' => sOver (fun w s => (hR' w s).in_ 1 rfl) (hv.mono fun w s => (hR' w s).rest) hWH hsz (fun _ _ _ _ => rfl)) ?_⟩
    conv => whnf
    exact ⟨trivial, .mk [] (fun w s => s.rest) ⟨rfl, rfl⟩⟩
  · refine fn_of_run0 false Try.func3 rfl hmix rfl fun w0 => ?_
    conv => whnf
    refine ⟨trivial, CallAt.pure (fun R' hR' => sAwake16 R') ?_⟩
    conv => whnf
    refine iff_f (by decide) ?_
    conv => whnf
    refine ⟨trivial, CallAt.pure (fun R' hR' => sLandNo (hv.mono fun w s => hR' w s) (by decide) hn hok) ?_⟩
    conv => whnf
    refine iff_t (by decide) ?_
    conv => whnf
    exact ⟨trivial, fin_pure rfl rfl⟩
end Go.Proofs.Ytccpgalpahfpaaa

/-
  The statement of hachurelaw16.PyrBuilds: for every input the call returns true, and each argument reads afterwards as it read before. The row's own frame round the walk 'PyrBuilds_walk'.
-/
namespace Go.Proofs.Ytccpgalpahfpaaa.pyrBuildsRow
open Go.Proofs.Ytccpgalpahfpaaa
open Go.ChangeShapes Go.WideShapes Go.ChangeAt Go.RowKit Go.Joins
set_option linter.unusedVariables false

theorem own : ownKnob Try.prog.godebug = none := by kernel_rfl
theorem laidOut : laidOutB Try.prog = true := by kernel_rfl


set_option maxRecDepth 100000 in
theorem lifted (os : Os) (started : os.Started) (H : Type) (enc : TypeId × Value → H) :
    ReturnsInHanded {} Try.checked os 3 .any (Rows.pyrBuildsSpec.pre6 enc Try.prog Try.f3 Rows.pyrBuildsRow.domain false) (Rows.pyrBuildsSpec.post enc Try.prog Try.f3 false true false false) := by
  refine returnsInHanded_of_change (C := Try.checked) own started (by kernel_rfl) Try.func3
    (ChangeSpec.witness6 (enc := enc) (C := Try.checked) false ⟨#[], #[.int .i64 0, .int .i64 0, .slice none 0 0, .int .i64 0, .agg #[.int .i64 0, .int .i64 0]], []⟩ 8 (by kernel_rfl) (by kernel_rfl) (by kernel_rfl) (by kernel_rfl)) ?_
  intro W base args ds gs before hval0 hW hcnd _
  have hval : ∀ (j : Nat) t v, Try.f3.params[j]? = some t → args[j]? = some v → Value.okWide Try.prog W .any base t v := hval0
  have hW' := hW
  obtain ⟨p, q, hA0, hV, rfl, hfz, hnd⟩ := hW
  have hA : DataW.TrodAll enc Try.prog W 0 (fun _ => true) true Try.f3.params.toList args.toList ds p := hA0
  rw [Try.params3] at hA hval
  obtain ⟨v0, vs0, d0, ds0, p0, q0, hargs, rfl, rfl, h0, r0⟩ := trodAll_cons hA
  obtain ⟨v1, vs1, d1, ds1, p1, q1, rfl, rfl, rfl, h1, r1⟩ := trodAll_cons r0
  obtain ⟨v2, vs2, d2, ds2, p2, q2, rfl, rfl, rfl, h2, r2⟩ := trodAll_cons r1
  obtain ⟨v3, vs3, d3, ds3, p3, q3, rfl, rfl, rfl, h3, r3⟩ := trodAll_cons r2
  obtain ⟨v4, vs4, d4, ds4, p4, q4, rfl, rfl, rfl, h4, r4⟩ := trodAll_cons r3
  obtain ⟨rfl, rfl, rfl⟩ := trodAll_nil r4
  obtain rfl : args = #[v0, v1, v2, v3, v4] := by cases args; simp_all
  obtain ⟨rfl, rfl⟩ := trodVars_none hV
  have k0 := h0
  have lt0 : ∀ x ∈ p0, x.block < W.heap.size := by obtain ⟨m, hm⟩ := k0; exact DataW.trod_lt m _ _ _ hm
  have k1 := h1
  have lt1 : ∀ x ∈ p1, x.block < W.heap.size := by obtain ⟨m, hm⟩ := k1; exact DataW.trod_lt m _ _ _ hm
  have k2 := h2
  have lt2 : ∀ x ∈ p2, x.block < W.heap.size := by obtain ⟨m, hm⟩ := k2; exact DataW.trod_lt m _ _ _ hm
  have k3 := h3
  have lt3 : ∀ x ∈ p3, x.block < W.heap.size := by obtain ⟨m, hm⟩ := k3; exact DataW.trod_lt m _ _ _ hm
  have k4 := h4
  have lt4 : ∀ x ∈ p4, x.block < W.heap.size := by obtain ⟨m, hm⟩ := k4; exact DataW.trod_lt m _ _ _ hm
  obtain ⟨a0, rfl, rfl, rfl, w0⟩ := open_int Try.underlying2 (hval 0 2 v0 rfl rfl) h0
  have b0 := bounds_i64 w0
  obtain ⟨a1, rfl, rfl, rfl, w1⟩ := open_int Try.underlying2 (hval 1 2 v1 rfl rfl) h1
  have b1 := bounds_i64 w1
  obtain ⟨a2, len2, cap2, rfl⟩ := okWide_slice Try.underlying22 (hval 2 22 v2 rfl rfl)
  obtain ⟨l2, hl2, hn2⟩ : ∃ l, Reads W W.heap.size 1 a2 len2 (ints l) ∧ len2 ≤ maxLen := by
    obtain ⟨fuel, hf⟩ := h2
    rcases open_ints Try.underlying22 Try.underlying2 (by kernel_rfl) hf with ⟨hcs, _⟩ | ⟨x, l, c, zs, hcs, _, hl, hm, hz, _, hcell, hwz⟩
    · simp [Value.cells] at hcs
      obtain ⟨rfl, rfl, rfl⟩ := hcs
      exact ⟨[], Reads.empty, by simp [maxLen]⟩
    · simp [Value.cells] at hcs
      obtain ⟨rfl, rfl, rfl⟩ := hcs
      obtain ⟨l, hl2⟩ := ints_of hl (by simpa using hz) hcell
      exact ⟨l, hl2, Nat.le_trans hl hm⟩
  obtain ⟨a3, rfl, rfl, rfl, w3⟩ := open_int Try.underlying3 (hval 3 3 v3 rfl rfl) h3
  have b3 := bounds_i64 w3
  obtain ⟨c4, e4, y4, z4, m4, rfl, rfl, rfl, hy4, hz4⟩ := open_agg2 Try.underlying24 (by kernel_rfl) (by kernel_rfl) (hval 4 24 v4 rfl rfl) h4
  obtain ⟨x4, f4, rfl, wx4⟩ := DataW.trod_int Try.underlying2 hy4
  obtain ⟨u4, g4, rfl, wu4⟩ := DataW.trod_int Try.underlying2 hz4
  simp at f4 g4
  subst f4 g4
  have bx4 := bounds_i64 wx4
  have bu4 := bounds_i64 wu4
  clear hA0 hval0
  refine (PyrBuilds_walk a0 a1 a2 len2 cap2 l2 a3 x4 u4 W b0.1 b0.2 b1.1 b1.2 hl2 hn2 b3.1 b3.2 bx4.1 bx4.2 bu4.1 bu4.2).mono fun e W' ⟨he, bel⟩ => ?_
  subst he
  exact ⟨_, rfl, _, _, _, [], _, [], hW', trodAll_mk1 (shut_bool Try.underlying4 _), (trodAll_cons_mk (Below.trod laidOut (by kernel_rfl) (of_decide_eq_true (by kernel_rfl)) k0 bel lt0) (trodAll_cons_mk (Below.trod laidOut (by kernel_rfl) (of_decide_eq_true (by kernel_rfl)) k1 bel lt1) (trodAll_cons_mk (Below.trod laidOut (by kernel_rfl) (of_decide_eq_true (by kernel_rfl)) k2 bel lt2) (trodAll_cons_mk (Below.trod laidOut (by kernel_rfl) (of_decide_eq_true (by kernel_rfl)) k3 bel lt3) (trodAll_cons_mk (Below.trod laidOut (by kernel_rfl) (of_decide_eq_true (by kernel_rfl)) k4 bel lt4) trodAll_mk0))))), rfl, bel.frame _, fun h => by cases h⟩

theorem over : Rows.pyrBuildsRow.holds Try.pinned (OpenSpec.ofChange Rows.pyrBuildsSpec) :=
  OpenClaim.holds_of_wide 3 Try.f3 rfl rfl rfl rfl rfl rfl rfl ⟨rfl, rfl, rfl, rfl, rfl⟩ rfl rfl rfl rfl rfl (by kernel_rfl) Try.func3 (by kernel_rfl)
    (of_decide_eq_true (by kernel_rfl)) (by unfold Func.isWrapper; first | (rw [if_pos (by decide +kernel)]; kernel_rfl) | (rw [if_neg (by decide +kernel)]; exact ⟨rfl, rfl⟩))
    (fun os started H enc _ => lifted os started H enc)
end Go.Proofs.Ytccpgalpahfpaaa.pyrBuildsRow
namespace Go.Proofs.Ytccpgalpahfpaaa

theorem pyrBuilds_holds : Rows.PyrBuildsSaid := pyrBuildsRow.over
#print axioms pyrBuilds_holds
end Go.Proofs.Ytccpgalpahfpaaa

