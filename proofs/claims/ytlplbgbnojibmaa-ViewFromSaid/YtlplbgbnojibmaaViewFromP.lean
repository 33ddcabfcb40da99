/-
  The statement ViewFrom: for every input the call returns true. The texts: ViewFrom, ViewFromRow.
-/
import Derived.Test.YtlplbgbnojibmaaPartR
import Derived.ProofKit
import Derived.OpenShut
import Derived.Lib.SmallJoins
/-
  The law ViewFrom.
-/
namespace Go.Proofs.Ytlplbgbnojibmaa
open Go.RowKit
open Sy
set_option linter.unusedVariables false
set_option linter.unusedSimpArgs false
set_option maxRecDepth 100000
set_option maxHeartbeats 4000000

theorem ViewFrom_walk (W H : Int) (A : Option Addr) (n c : Nat) (l : List Int) (x y ha hb m : Int) (w : World) (_ : -9223372036854775808 ≤ W) (_ : W ≤ 9223372036854775807) (_ : -9223372036854775808 ≤ H) (_ : H ≤ 9223372036854775807) (hr : Reads w w.heap.size 1 A n (ints l)) (hn : n ≤ maxLen)
    (_ : -9223372036854775808 ≤ x) (_ : x ≤ 9223372036854775807) (_ : -9223372036854775808 ≤ y) (_ : y ≤ 9223372036854775807) (_ : -9223372036854775808 ≤ ha) (_ : ha ≤ 9223372036854775807) (_ : -9223372036854775808 ≤ hb) (_ : hb ≤ 9223372036854775807) (_ : -9223372036854775808 ≤ m) (_ : m ≤ 9223372036854775807) :
    Calls Try.prog 8 #[.int .i64 W, .int .i64 H, .slice A n c, .agg #[.int .i64 x, .int .i64 y], .int .i64 ha, .int .i64 hb, .int .i64 m] w fun e w' => e = .returned (.bool true) ∧ Below w.heap.size w w' := by
  refine PureR.below (args := [.int .i64 W, .int .i64 H, .slice A n c, .agg #[.int .i64 x, .int .i64 y], .int .i64 ha, .int .i64 hb, .int .i64 m]) ?_
  have hv := vs_of_reads hr
  have hl : l.length = n := by have := hr.1; simpa [ints] using this
  by_cases hok : LandOk W H 400 n l
  · obtain ⟨W, H, rfl, rfl, w1, w2, h1, h2, hWH, hn0, hn1⟩ := land_nat hok (by decide)
    have hm := hok.2.2.2.2.2.2
    have hgm := gv_mayV hWH hl hm
    have hF := top_Pf (f := gv W l) w1 h1 hgm
    have hco := fun (pb : Nat) (R' : HP) hR' => sVCount (R := R') (pb := pb) (a := (x, y)) ha hb m ⟨w1, w2⟩ ⟨h1, h2⟩ hF hR'
    have hma := fun (R' : HP) (hR' : Vs R' A n l) => sMay27 (R := R') (c := c) hR' hWH w2 h2 (x, y) ha hb m
    by_cases he : viewE W H (x, y) ha hb m = 0
    · obtain ⟨g1, g2, g3, g4⟩ := viewE_ok he
      have hfr := fun (pb : Nat) (R' : HP) hR' => sVFrom (R := R') (pb := pb) (a := (x, y)) ha hb m ⟨w1, w2⟩ ⟨h1, h2⟩ hF he hR'
      have hf27 := fun (R' : HP) (hR' : Vs R' A n l) => sFrom27 (R := R') (c := c) hR' hWH ⟨w1, w2⟩ ⟨h1, h2⟩ hgm g1 m g2 g3
      have hvn : viewN W H (Pf W H (gv W l)) (x, y) ha hb m = (viewL W H (Pf W H (gv W l)) (x, y) ha hb m).length := if_pos he
      rw [he] at hma
      rw [he, hvn] at hco
      rw [← view_eq w1 h1 he] at hf27
      have hlen : (viewL W H (Pf W H (gv W l)) (x, y) ha hb m).length ≤ 1024 * 1024 := by
        rw [view_eq w1 h1 he]
        refine Nat.le_trans (rowsF_len _ _ _) (Nat.mul_le_mul h2 w2)
      generalize viewL W H (Pf W H (gv W l)) (x, y) ha hb m = L at *
      refine fn_of_run0 false Try.func8 rfl hmix rfl fun w0 => ?_
      conv => whnf
      refine ⟨trivial, CallAt.pure (fun R' hR' => sAwake27 R') ?_⟩
      conv => whnf
      refine iff_f (by decide) ?_
      conv => whnf
      refine ⟨trivial, CallAt.pure (fun R' hR' => sLandYes (hv.mono fun w s => hR' w s) (by decide) hn hok) ?_⟩
      conv => whnf
      refine iff_f (by decide) ?_
      conv => whnf
      refine ⟨trivial, CallAt.fn (pre := []) _ (fun h s => s) (fun R' hR' => sRisen (hv.mono fun w s => hR' w s) w1 w2 h1 h2 hWH hm) ?_⟩
      rintro r hs ⟨pb, rfl, rfl⟩
      conv => whnf
      refine iff_f (by decide) ?_
      conv => whnf
      refine ⟨trivial, CallAt.fn (pre := []) _ (fun h s => s) (fun R' hR' => hfr pb R' fun w s => (hR' w s).in_ 0 rfl) ?_⟩
      rintro r hs ⟨B, d, rfl, rfl⟩
      conv => whnf
      refine ⟨trivial, CallAt.pure (fun R' hR' => hco pb R' fun w s => (hR' w s).in_ 1 rfl) ?_⟩
      conv => whnf
      refine ⟨trivial, CallAt.pure (fun R' hR' => hma R' (hv.mono fun w s => (hR' w s).rest)) ?_⟩
      conv => whnf
      refine iff_f (by decide) ?_
      conv => whnf
      repeat (first | (refine ⟨fun _ => ?_, fun h => absurd h (by decide)⟩; conv => whnf) | (refine ⟨fun h => absurd h (by decide), fun _ => ?_⟩; conv => whnf))
      refine ⟨fun _ => ?_, fun h => absurd h (by simp)⟩
      conv => whnf
      refine ⟨trivial, CallAt.fn (pre := []) _ (fun h s => s) (fun R' hR' => hf27 R' (hv.mono fun w s => (hR' w s).rest)) ?_⟩
      rintro r hs ⟨B2, d2, rfl, rfl⟩
      conv => whnf
      refine ⟨trivial, CallAt.pure (fun R' hR' => pSameCells (l := L) (l' := L) (by omega) (Sl.row fun w s => (hR' w s).in_ 1 rfl) (Sl.row fun w s => (hR' w s).in_ 0 rfl)) ?_⟩
      conv => whnf
      rw [decide_eq_true (show L = L from rfl)]
      exact ⟨trivial, fin_drop rfl⟩
    · have hfr := fun (pb : Nat) (R' : HP) hR' => sVFromBad (R := R') (pb := pb) (a := (x, y)) ha hb m ⟨w1, w2⟩ ⟨h1, h2⟩ hF he hR'
      have hvn : viewN W H (Pf W H (gv W l)) (x, y) ha hb m = 0 := if_neg he
      rw [hvn] at hco
      generalize viewE W H (x, y) ha hb m = E at *
      refine fn_of_run0 false Try.func8 rfl hmix rfl fun w0 => ?_
      conv => whnf
      refine ⟨trivial, CallAt.pure (fun R' hR' => sAwake27 R') ?_⟩
      conv => whnf
      refine iff_f (by decide) ?_
      conv => whnf
      refine ⟨trivial, CallAt.pure (fun R' hR' => sLandYes (hv.mono fun w s => hR' w s) (by decide) hn hok) ?_⟩
      conv => whnf
      refine iff_f (by decide) ?_
      conv => whnf
      refine ⟨trivial, CallAt.fn (pre := []) _ (fun h s => s) (fun R' hR' => sRisen (hv.mono fun w s => hR' w s) w1 w2 h1 h2 hWH hm) ?_⟩
      rintro r hs ⟨pb, rfl, rfl⟩
      conv => whnf
      refine iff_f (by decide) ?_
      conv => whnf
      refine ⟨trivial, CallAt.pure (fun R' hR' => hfr pb R' fun w s => (hR' w s).in_ 0 rfl) ?_⟩
      conv => whnf
      refine ⟨trivial, CallAt.pure (fun R' hR' => hco pb R' fun w s => (hR' w s).in_ 0 rfl) ?_⟩
      conv => whnf
      refine ⟨trivial, CallAt.pure (fun R' hR' => hma R' (hv.mono fun w s => (hR' w s).rest)) ?_⟩
      conv => whnf
      refine iff_t (by simpa using he) ?_
      conv => whnf
      repeat (first | (refine ⟨fun _ => ?_, fun h => absurd h (by decide)⟩; conv => whnf) | (refine ⟨fun h => absurd h (by decide), fun _ => ?_⟩; conv => whnf))
      refine ⟨fun _ => ?_, fun h => absurd h (by simp)⟩
      conv => whnf
      exact ⟨trivial, fin_drop (by simp; rfl)⟩
  · refine fn_of_run0 false Try.func8 rfl hmix rfl fun w0 => ?_
    conv => whnf
    refine ⟨trivial, CallAt.pure (fun R' hR' => sAwake27 R') ?_⟩
    conv => whnf
    refine iff_f (by decide) ?_
    conv => whnf
    refine ⟨trivial, CallAt.pure (fun R' hR' => sLandNo (hv.mono fun w s => hR' w s) (by decide) hn hok) ?_⟩
    conv => whnf
    refine iff_t (by decide) ?_
    conv => whnf
    exact ⟨trivial, fin_pure rfl rfl⟩
end Go.Proofs.Ytlplbgbnojibmaa

/-
  The statement of hachurelaw27.ViewFrom: for every input the call returns true, and each argument reads afterwards as it read before. The row's own frame round the walk 'ViewFrom_walk'.
-/
namespace Go.Proofs.Ytlplbgbnojibmaa.viewFromRow
open Go.Proofs.Ytlplbgbnojibmaa
open Go.ChangeShapes Go.WideShapes Go.ChangeAt Go.RowKit Go.Joins
set_option linter.unusedVariables false

theorem own : ownKnob Try.prog.godebug = none := by kernel_rfl
theorem laidOut : laidOutB Try.prog = true := by kernel_rfl


set_option maxRecDepth 100000 in
theorem lifted (os : Os) (started : os.Started) (H : Type) (enc : TypeId × Value → H) :
    ReturnsInHanded {} Try.checked os 8 .any (Rows.viewFromSpec.pre6 enc Try.prog Try.f8 Rows.viewFromRow.domain false) (Rows.viewFromSpec.post enc Try.prog Try.f8 false true false false) := by
  refine returnsInHanded_of_change (C := Try.checked) own started (by kernel_rfl) Try.func8
    (ChangeSpec.witness6 (enc := enc) (C := Try.checked) false ⟨#[], #[.int .i64 0, .int .i64 0, .slice none 0 0, .agg #[.int .i64 0, .int .i64 0], .int .i64 0, .int .i64 0, .int .i64 0], []⟩ 8 (by kernel_rfl) (by kernel_rfl) (by kernel_rfl) (by kernel_rfl)) ?_
  intro W base args ds gs before hval0 hW hcnd _
  have hval : ∀ (j : Nat) t v, Try.f8.params[j]? = some t → args[j]? = some v → Value.okWide Try.prog W .any base t v := hval0
  have hW' := hW
  obtain ⟨p, q, hA0, hV, rfl, hfz, hnd⟩ := hW
  have hA : DataW.TrodAll enc Try.prog W 0 (fun _ => true) true Try.f8.params.toList args.toList ds p := hA0
  rw [Try.params8] at hA hval
  obtain ⟨v0, vs0, d0, ds0, p0, q0, hargs, rfl, rfl, h0, r0⟩ := trodAll_cons hA
  obtain ⟨v1, vs1, d1, ds1, p1, q1, rfl, rfl, rfl, h1, r1⟩ := trodAll_cons r0
  obtain ⟨v2, vs2, d2, ds2, p2, q2, rfl, rfl, rfl, h2, r2⟩ := trodAll_cons r1
  obtain ⟨v3, vs3, d3, ds3, p3, q3, rfl, rfl, rfl, h3, r3⟩ := trodAll_cons r2
  obtain ⟨v4, vs4, d4, ds4, p4, q4, rfl, rfl, rfl, h4, r4⟩ := trodAll_cons r3
  obtain ⟨v5, vs5, d5, ds5, p5, q5, rfl, rfl, rfl, h5, r5⟩ := trodAll_cons r4
  obtain ⟨v6, vs6, d6, ds6, p6, q6, rfl, rfl, rfl, h6, r6⟩ := trodAll_cons r5
  obtain ⟨rfl, rfl, rfl⟩ := trodAll_nil r6
  obtain rfl : args = #[v0, v1, v2, v3, v4, v5, v6] := by cases args; simp_all
  obtain ⟨rfl, rfl⟩ := trodVars_none hV
  have k0 := h0
  have lt0 : ∀ x ∈ p0, x.block < W.heap.size := by obtain ⟨m, hm⟩ := k0; exact DataW.trod_lt m _ _ _ hm
  have k1 := h1
  have lt1 : ∀ x ∈ p1, x.block < W.heap.size := by obtain ⟨m, hm⟩ := k1; exact DataW.trod_lt m _ _ _ hm
  have k2 := h2
  have lt2 : ∀ x ∈ p2, x.block < W.heap.size := by obtain ⟨m, hm⟩ := k2; exact DataW.trod_lt m _ _ _ hm
  have k3 := h3
  have lt3 : ∀ x ∈ p3, x.block < W.heap.size := by obtain ⟨m, hm⟩ := k3; exact DataW.trod_lt m _ _ _ hm
  have k4 := h4
  have lt4 : ∀ x ∈ p4, x.block < W.heap.size := by obtain ⟨m, hm⟩ := k4; exact DataW.trod_lt m _ _ _ hm
  have k5 := h5
  have lt5 : ∀ x ∈ p5, x.block < W.heap.size := by obtain ⟨m, hm⟩ := k5; exact DataW.trod_lt m _ _ _ hm
  have k6 := h6
  have lt6 : ∀ x ∈ p6, x.block < W.heap.size := by obtain ⟨m, hm⟩ := k6; exact DataW.trod_lt m _ _ _ hm
  obtain ⟨a0, rfl, rfl, rfl, w0⟩ := open_int Try.underlying2 (hval 0 2 v0 rfl rfl) h0
  have b0 := bounds_i64 w0
  obtain ⟨a1, rfl, rfl, rfl, w1⟩ := open_int Try.underlying2 (hval 1 2 v1 rfl rfl) h1
  have b1 := bounds_i64 w1
  obtain ⟨a2, len2, cap2, rfl⟩ := okWide_slice Try.underlying41 (hval 2 41 v2 rfl rfl)
  obtain ⟨l2, hl2, hn2⟩ : ∃ l, Reads W W.heap.size 1 a2 len2 (ints l) ∧ len2 ≤ maxLen := by
    obtain ⟨fuel, hf⟩ := h2
    rcases open_ints Try.underlying41 Try.underlying2 (by kernel_rfl) hf with ⟨hcs, _⟩ | ⟨x, l, c, zs, hcs, _, hl, hm, hz, _, hcell, hwz⟩
    · simp [Value.cells] at hcs
      obtain ⟨rfl, rfl, rfl⟩ := hcs
      exact ⟨[], Reads.empty, by simp [maxLen]⟩
    · simp [Value.cells] at hcs
      obtain ⟨rfl, rfl, rfl⟩ := hcs
      obtain ⟨l, hl2⟩ := ints_of hl (by simpa using hz) hcell
      exact ⟨l, hl2, Nat.le_trans hl hm⟩
  obtain ⟨c3, e3, y3, z3, m3, rfl, rfl, rfl, hy3, hz3⟩ := open_agg2 Try.underlying35 (by kernel_rfl) (by kernel_rfl) (hval 3 35 v3 rfl rfl) h3
  obtain ⟨x3, f3, rfl, wx3⟩ := DataW.trod_int Try.underlying2 hy3
  obtain ⟨u3, g3, rfl, wu3⟩ := DataW.trod_int Try.underlying2 hz3
  simp at f3 g3
  subst f3 g3
  have bx3 := bounds_i64 wx3
  have bu3 := bounds_i64 wu3
  obtain ⟨a4, rfl, rfl, rfl, w4⟩ := open_int Try.underlying2 (hval 4 2 v4 rfl rfl) h4
  have b4 := bounds_i64 w4
  obtain ⟨a5, rfl, rfl, rfl, w5⟩ := open_int Try.underlying2 (hval 5 2 v5 rfl rfl) h5
  have b5 := bounds_i64 w5
  obtain ⟨a6, rfl, rfl, rfl, w6⟩ := open_int Try.underlying2 (hval 6 2 v6 rfl rfl) h6
  have b6 := bounds_i64 w6
  clear hA0 hval0
  refine (ViewFrom_walk a0 a1 a2 len2 cap2 l2 x3 u3 a4 a5 a6 W b0.1 b0.2 b1.1 b1.2 hl2 hn2 bx3.1 bx3.2 bu3.1 bu3.2 b4.1 b4.2 b5.1 b5.2 b6.1 b6.2).mono fun e W' ⟨he, bel⟩ => ?_
  subst he
  exact ⟨_, rfl, _, _, _, [], _, [], hW', trodAll_mk1 (shut_bool Try.underlying4 _), (trodAll_cons_mk (Below.trod laidOut (by kernel_rfl) (of_decide_eq_true (by kernel_rfl)) k0 bel lt0) (trodAll_cons_mk (Below.trod laidOut (by kernel_rfl) (of_decide_eq_true (by kernel_rfl)) k1 bel lt1) (trodAll_cons_mk (Below.trod laidOut (by kernel_rfl) (of_decide_eq_true (by kernel_rfl)) k2 bel lt2) (trodAll_cons_mk (Below.trod laidOut (by kernel_rfl) (of_decide_eq_true (by kernel_rfl)) k3 bel lt3) (trodAll_cons_mk (Below.trod laidOut (by kernel_rfl) (of_decide_eq_true (by kernel_rfl)) k4 bel lt4) (trodAll_cons_mk (Below.trod laidOut (by kernel_rfl) (of_decide_eq_true (by kernel_rfl)) k5 bel lt5) (trodAll_cons_mk (Below.trod laidOut (by kernel_rfl) (of_decide_eq_true (by kernel_rfl)) k6 bel lt6) trodAll_mk0))))))), rfl, bel.frame _, fun h => by cases h⟩

theorem over : Rows.viewFromRow.holds Try.pinned (OpenSpec.ofChange Rows.viewFromSpec) :=
  OpenClaim.holds_of_wide 8 Try.f8 rfl rfl rfl rfl rfl rfl rfl ⟨rfl, rfl, rfl, rfl, rfl⟩ rfl rfl rfl rfl rfl (by kernel_rfl) Try.func8 (by kernel_rfl)
    (of_decide_eq_true (by kernel_rfl)) (by unfold Func.isWrapper; first | (rw [if_pos (by decide +kernel)]; kernel_rfl) | (rw [if_neg (by decide +kernel)]; exact ⟨rfl, rfl⟩))
    (fun os started H enc _ => lifted os started H enc)
end Go.Proofs.Ytlplbgbnojibmaa.viewFromRow
namespace Go.Proofs.Ytlplbgbnojibmaa

theorem viewFrom_holds : Rows.ViewFromSaid := viewFromRow.over
#print axioms viewFrom_holds
end Go.Proofs.Ytlplbgbnojibmaa

