/-
  The statement DownRows: for every input the call returns true. The texts: DownRows, DownRowsRow.
-/
import Derived.Test.YtccpgalpahfpaaaPartJ
import Derived.ProofKit
import Derived.OpenShut
import Derived.Lib.SmallJoins
/-
  All levels, from the grid to one cell, in any way, are those one by one.
-/
namespace Go.Proofs.Ytccpgalpahfpaaa
open Go.RowKit
open Sy
set_option linter.unusedVariables false
set_option linter.unusedSimpArgs false
set_option maxRecDepth 100000
set_option maxHeartbeats 4000000

theorem DownRows_walk (W H : Int) (A : Option Addr) (n c : Nat) (l : List Int) (how : Int) (w : World) (_ : -9223372036854775808 ≤ W) (_ : W ≤ 9223372036854775807) (_ : -9223372036854775808 ≤ H) (_ : H ≤ 9223372036854775807) (ha : Reads w w.heap.size 1 A n (ints l)) (hn : n ≤ maxLen)
    (_ : -9223372036854775808 ≤ how) (_ : how ≤ 9223372036854775807) :
    Calls Try.prog 10 #[.int .i64 W, .int .i64 H, .slice A n c, .int .i64 how] w fun e w' => e = .returned (.bool true) ∧ Below w.heap.size w w' := by
  refine PureR.below (args := [.int .i64 W, .int .i64 H, .slice A n c, .int .i64 how]) ?_
  have hv := vs_of_reads ha
  have hl : l.length = n := by have := ha.1; simpa [ints] using this
  by_cases hok : LandOk W H 1000 n l
  · obtain ⟨W, H, rfl, rfl, w1, w2, h1, h2, hWH, hn0, hn1⟩ := land_nat hok (by decide)
    have hm := hok.2.2.2.2.2.2
    have hsz : SizeOk (W : Int) (H : Int) := ⟨by omega, by omega, by omega, by omega⟩
    by_cases hbad : how < 0 ∨ 2 < how
    · refine fn_of_run0 false Try.func10 rfl hmix rfl fun w0 => ?_
      conv => whnf
      refine ⟨trivial, CallAt.pure (fun R' hR' => sAwake18 R') ?_⟩
      conv => whnf
      refine iff_f (by decide) ?_
      conv => whnf
      refine ⟨trivial, CallAt.pure (fun R' hR' => sLandYes (hv.mono fun w s => hR' w s) (by decide) hn hok) ?_⟩
      conv => whnf
      refine iff_f (by decide) ?_
      conv => whnf
      refine ⟨trivial, CallAt.fn (pre := []) _ (fun h s => s) (fun R' hR' => sMadeV (hv.mono fun w s => hR' w s) w1 w2 h1 h2 hWH hm) ?_⟩
      rintro r hs ⟨gb, rfl, rfl⟩
      conv => whnf
      refine iff_f (by decide) ?_
      conv => whnf
      refine ⟨trivial, CallAt.pure (fun R' hR' => sRowArg (gridAt_rest 0 rfl hR') hbad) ?_⟩
      conv => whnf
      refine ⟨fun g1 => ?_, fun g1 => ?_⟩
      · conv => whnf
        refine iff_t (by simp at g1 ⊢; omega) ?_
        conv => whnf
        refine ⟨fun _ => ?_, fun h => absurd h (by decide)⟩
        conv => whnf
        refine ⟨trivial, .mk [] (fun w s => s.rest) ⟨rfl, rfl⟩⟩
      · conv => whnf
        refine ⟨fun _ => ?_, fun h => absurd h (by decide)⟩
        conv => whnf
        refine ⟨trivial, .mk [] (fun w s => s.rest) ⟨rfl, rfl⟩⟩
    · obtain ⟨ag, hag⟩ : ∃ ag, how = 0 ∧ ag = mnL ∨ how = 1 ∧ ag = mxL ∨ how = 2 ∧ ag = meanL := by
        rcases (show how = 0 ∨ how = 1 ∨ how = 2 by omega) with e | e | e
        · exact ⟨mnL, .inl ⟨e, rfl⟩⟩
        · exact ⟨mxL, .inr (.inl ⟨e, rfl⟩)⟩
        · exact ⟨meanL, .inr (.inr ⟨e, rfl⟩)⟩
      refine fn_of_run0 false Try.func10 rfl hmix rfl fun w0 => ?_
      conv => whnf
      refine ⟨trivial, CallAt.pure (fun R' hR' => sAwake18 R') ?_⟩
      conv => whnf
      refine iff_f (by decide) ?_
      conv => whnf
      refine ⟨trivial, CallAt.pure (fun R' hR' => sLandYes (hv.mono fun w s => hR' w s) (by decide) hn hok) ?_⟩
      conv => whnf
      refine iff_f (by decide) ?_
      conv => whnf
      refine ⟨trivial, CallAt.fn (pre := []) _ (fun h s => s) (fun R' hR' => sMadeV (hv.mono fun w s => hR' w s) w1 w2 h1 h2 hWH hm) ?_⟩
      rintro r hs ⟨gb, rfl, rfl⟩
      conv => whnf
      refine iff_f (by decide) ?_
      conv => whnf
      refine ⟨trivial, CallAt.fn (pre := []) _ (fun h s => s) (fun R' hR' => sRow2 (gridAt_rest 0 rfl hR') hag) ?_⟩
      rintro r hs ⟨gs, lb, d, hgs, rfl, rfl⟩
      have hl1 : 1 ≤ levN W H := by unfold levN; omega
      have hl11 := levN_le hsz
      have hat := fun (k : Nat) (hk : k < gs.length) => gridsH_at (ag := ag) (W := W) (H := H) (f := gv W l) hk
      have hone := ag_one hag
      have hrl := fun (k : Nat) (hk : k < levN W H) (R' : HP) (hR' : Vs R' A n l) => sRLevel (c := c) hR' hWH hm hsz hk hag
      rw [hgs] at hat
      obtain ⟨L, hL⟩ : ∃ L, levN W H = L := ⟨_, rfl⟩
      have hszs := fun R' => sSizes2 W H hsz R'
      rw [hL] at hl1 hl11 hat hgs hrl hszs ⊢
      conv => whnf
      refine ⟨fun g1 => ?_, fun g1 => absurd g1 (by simp; omega)⟩
      conv => whnf
      refine iff_f (by simp; omega) ?_
      conv => whnf
      refine ⟨fun _ => ?_, fun h => absurd h (by decide)⟩
      conv => whnf
      refine ⟨trivial, CallAt.fn (pre := []) _ (fun h s => s) (fun R' hR' => hszs R') ?_⟩
      rintro r hs ⟨sg, sc, rfl, rfl⟩
      conv => whnf
      refine ⟨fun _ => ?_, fun h => absurd h (by simp)⟩
      conv => whnf
      obtain ⟨g0, i0, p0, q0⟩ := hat 0 hl1
      refine ⟨⟨trivial, by omega⟩, LoadAt.cell (.pointer (some ⟨g0, 0, none⟩)) rfl rfl (fun w hw => row_at (hw.in_ 1 rfl) hl1 p0) ?_⟩
      conv => whnf
      have hsm : true = true ↔ (halfN W 0 = W ∧ halfN H 0 = H ∧ ∀ x y, x < halfN W 0 → y < halfN H 0 → lv ag W H 0 (gv W l) x y = gv W l x y) := by
        refine ⟨fun _ => ⟨halfN_zero w1, halfN_zero h1, fun x y hx hy => ?_⟩, fun _ => rfl⟩
        rw [halfN_zero w1] at hx
        rw [halfN_zero h1] at hy
        exact lv_zero hone hx hy
      refine ⟨trivial, CallAt.pure (fun R' hR' => sGridSame hsm (fun w s => gridAt_of ((hR' w s).in_ (i0 + 2) (in_app2 q0))) (fun w s => gridAt_of ((hR' w s).in_ (gs.length + 2) (in_end (gridsH_len gs))))) ?_⟩
      conv => whnf
      refine iff_f (by decide) ?_
      conv => whnf
      refine ⟨trivial, LoopAt.heap (α := Nat) [3, 9, 12] (fun k => [(14, .v (.int .i64 (k : Int)))]) (fun _ => rowH (.slice (some ⟨lb, 0, none⟩) L d) L 30 1 (ptrs gs) :: (gridsH ag W H (gv W l) gs ++ [gridH gb W H (gv W l)])) (fun k => k ≤ L) (fun k => L - k) 0 (Nat.zero_le _) rfl ⟨⟨rfl, rfl⟩, trivial⟩ ⟨⟨rfl, rfl⟩, ⟨rfl, rfl⟩, ⟨rfl, rfl⟩, trivial⟩ ⟨⟨rfl, rfl, rfl, rfl⟩, trivial⟩ (fun h s => sub_tail s) ?_⟩
      intro k hk
      conv => whnf
      refine ⟨fun h4 => ?_, fun h4 => ?_⟩
      · have g4 : k < L := by simpa using h4
        obtain ⟨gk, ik, pk, qk⟩ := hat k g4
        conv => whnf
        refine ⟨trivial, CallAt.fn (pre := []) _ (fun h s => s) (fun R' hR' => hrl k g4 R' (hv.mono fun w s => (hR' w s).rest)) ?_⟩
        rintro r hs ⟨B, dd, rfl, rfl⟩
        conv => whnf
        refine ⟨trivial, RegAt.quiet hmix (by kernel_rfl) ?_⟩
        conv => whnf
        refine ⟨⟨trivial, by omega⟩, LoadAt.cell (.pointer (some ⟨gk, 0, none⟩)) rfl rfl (fun w hw => by have := row_at (hw.in_ 1 rfl) hl1 pk; simpa using this) ?_⟩
        conv => whnf
        refine ⟨trivial, CallQ.pure (fun R' hR' => sIs (fun w s => gridAt_of ((hR' w s).in_ (ik + 2) (in_app2 qk))) (Vs.row fun w s => (hR' w s).in_ 0 rfl) rfl) ?_⟩
        conv => whnf
        refine ⟨trivial, ?_⟩
        conv => whnf
        refine iff_f (by decide) ?_
        conv => whnf
        refine ⟨⟨trivial, by unfold rng; omega⟩, Next.heap (k + 1) (by omega) (by omega) ⟨⟨rfl, rfl⟩, trivial⟩ ⟨⟨rfl, rfl⟩, ⟨rfl, rfl⟩, ⟨rfl, rfl⟩, trivial⟩ ⟨⟨rfl, rfl, rfl, rfl⟩, trivial⟩ rfl rfl fun h s => sub_tail s⟩
      · have g4 : k = L := by simp at h4; omega
        subst g4
        conv => whnf
        exact ⟨trivial, .mk [] (fun w s => s.rest) ⟨rfl, rfl⟩⟩
  · refine fn_of_run0 false Try.func10 rfl hmix rfl fun w0 => ?_
    conv => whnf
    refine ⟨trivial, CallAt.pure (fun R' hR' => sAwake18 R') ?_⟩
    conv => whnf
    refine iff_f (by decide) ?_
    conv => whnf
    refine ⟨trivial, CallAt.pure (fun R' hR' => sLandNo (hv.mono fun w s => hR' w s) (by decide) hn hok) ?_⟩
    conv => whnf
    refine iff_t (by decide) ?_
    conv => whnf
    exact ⟨trivial, fin_pure rfl rfl⟩
end Go.Proofs.Ytccpgalpahfpaaa

/-
  The statement of hachurelaw18.DownRows: for every input the call returns true, and each argument reads afterwards as it read before. The row's own frame round the walk 'DownRows_walk'.
-/
namespace Go.Proofs.Ytccpgalpahfpaaa.downRowsRow
open Go.Proofs.Ytccpgalpahfpaaa
open Go.ChangeShapes Go.WideShapes Go.ChangeAt Go.RowKit Go.Joins
set_option linter.unusedVariables false

theorem own : ownKnob Try.prog.godebug = none := by kernel_rfl
theorem laidOut : laidOutB Try.prog = true := by kernel_rfl


set_option maxRecDepth 100000 in
theorem lifted (os : Os) (started : os.Started) (H : Type) (enc : TypeId × Value → H) :
    ReturnsInHanded {} Try.checked os 10 .any (Rows.downRowsSpec.pre6 enc Try.prog Try.f10 Rows.downRowsRow.domain false) (Rows.downRowsSpec.post enc Try.prog Try.f10 false true false false) := by
  refine returnsInHanded_of_change (C := Try.checked) own started (by kernel_rfl) Try.func10
    (ChangeSpec.witness6 (enc := enc) (C := Try.checked) false ⟨#[], #[.int .i64 0, .int .i64 0, .slice none 0 0, .int .i64 0], []⟩ 8 (by kernel_rfl) (by kernel_rfl) (by kernel_rfl) (by kernel_rfl)) ?_
  intro W base args ds gs before hval0 hW hcnd _
  have hval : ∀ (j : Nat) t v, Try.f10.params[j]? = some t → args[j]? = some v → Value.okWide Try.prog W .any base t v := hval0
  have hW' := hW
  obtain ⟨p, q, hA0, hV, rfl, hfz, hnd⟩ := hW
  have hA : DataW.TrodAll enc Try.prog W 0 (fun _ => true) true Try.f10.params.toList args.toList ds p := hA0
  rw [Try.params10] at hA hval
  obtain ⟨v0, vs0, d0, ds0, p0, q0, hargs, rfl, rfl, h0, r0⟩ := trodAll_cons hA
  obtain ⟨v1, vs1, d1, ds1, p1, q1, rfl, rfl, rfl, h1, r1⟩ := trodAll_cons r0
  obtain ⟨v2, vs2, d2, ds2, p2, q2, rfl, rfl, rfl, h2, r2⟩ := trodAll_cons r1
  obtain ⟨v3, vs3, d3, ds3, p3, q3, rfl, rfl, rfl, h3, r3⟩ := trodAll_cons r2
  obtain ⟨rfl, rfl, rfl⟩ := trodAll_nil r3
  obtain rfl : args = #[v0, v1, v2, v3] := by cases args; simp_all
  obtain ⟨rfl, rfl⟩ := trodVars_none hV
  have k0 := h0
  have lt0 : ∀ x ∈ p0, x.block < W.heap.size := by obtain ⟨m, hm⟩ := k0; exact DataW.trod_lt m _ _ _ hm
  have k1 := h1
  have lt1 : ∀ x ∈ p1, x.block < W.heap.size := by obtain ⟨m, hm⟩ := k1; exact DataW.trod_lt m _ _ _ hm
  have k2 := h2
  have lt2 : ∀ x ∈ p2, x.block < W.heap.size := by obtain ⟨m, hm⟩ := k2; exact DataW.trod_lt m _ _ _ hm
  have k3 := h3
  have lt3 : ∀ x ∈ p3, x.block < W.heap.size := by obtain ⟨m, hm⟩ := k3; exact DataW.trod_lt m _ _ _ hm
  obtain ⟨a0, rfl, rfl, rfl, w0⟩ := open_int Try.underlying2 (hval 0 2 v0 rfl rfl) h0
  have b0 := bounds_i64 w0
  obtain ⟨a1, rfl, rfl, rfl, w1⟩ := open_int Try.underlying2 (hval 1 2 v1 rfl rfl) h1
  have b1 := bounds_i64 w1
  obtain ⟨a2, len2, cap2, rfl⟩ := okWide_slice Try.underlying22 (hval 2 22 v2 rfl rfl)
  obtain ⟨l2, hl2, hn2⟩ : ∃ l, Reads W W.heap.size 1 a2 len2 (ints l) ∧ len2 ≤ maxLen := by
    obtain ⟨fuel, hf⟩ := h2
    rcases open_ints Try.underlying22 Try.underlying2 (by kernel_rfl) hf with ⟨hcs, _⟩ | ⟨x, l, c, zs, hcs, _, hl, hm, hz, _, hcell, hwz⟩
    · simp [Value.cells] at hcs
      obtain ⟨rfl, rfl, rfl⟩ := hcs
      exact ⟨[], Reads.empty, by simp [maxLen]⟩
    · simp [Value.cells] at hcs
      obtain ⟨rfl, rfl, rfl⟩ := hcs
      obtain ⟨l, hl2⟩ := ints_of hl (by simpa using hz) hcell
      exact ⟨l, hl2, Nat.le_trans hl hm⟩
  obtain ⟨a3, rfl, rfl, rfl, w3⟩ := open_int Try.underlying3 (hval 3 3 v3 rfl rfl) h3
  have b3 := bounds_i64 w3
  clear hA0 hval0
  refine (DownRows_walk a0 a1 a2 len2 cap2 l2 a3 W b0.1 b0.2 b1.1 b1.2 hl2 hn2 b3.1 b3.2).mono fun e W' ⟨he, bel⟩ => ?_
  subst he
  exact ⟨_, rfl, _, _, _, [], _, [], hW', trodAll_mk1 (shut_bool Try.underlying4 _), (trodAll_cons_mk (Below.trod laidOut (by kernel_rfl) (of_decide_eq_true (by kernel_rfl)) k0 bel lt0) (trodAll_cons_mk (Below.trod laidOut (by kernel_rfl) (of_decide_eq_true (by kernel_rfl)) k1 bel lt1) (trodAll_cons_mk (Below.trod laidOut (by kernel_rfl) (of_decide_eq_true (by kernel_rfl)) k2 bel lt2) (trodAll_cons_mk (Below.trod laidOut (by kernel_rfl) (of_decide_eq_true (by kernel_rfl)) k3 bel lt3) trodAll_mk0)))), rfl, bel.frame _, fun h => by cases h⟩

theorem over : Rows.downRowsRow.holds Try.pinned (OpenSpec.ofChange Rows.downRowsSpec) :=
  OpenClaim.holds_of_wide 10 Try.f10 rfl rfl rfl rfl rfl rfl rfl ⟨rfl, rfl, rfl, rfl, rfl⟩ rfl rfl rfl rfl rfl (by kernel_rfl) Try.func10 (by kernel_rfl)
    (of_decide_eq_true (by kernel_rfl)) (by unfold Func.isWrapper; first | (rw [if_pos (by decide +kernel)]; kernel_rfl) | (rw [if_neg (by decide +kernel)]; exact ⟨rfl, rfl⟩))
    (fun os started H enc _ => lifted os started H enc)
end Go.Proofs.Ytccpgalpahfpaaa.downRowsRow
namespace Go.Proofs.Ytccpgalpahfpaaa

theorem downRows_holds : Rows.DownRowsSaid := downRowsRow.over
#print axioms downRows_holds
end Go.Proofs.Ytccpgalpahfpaaa

