/-
  The statement DownSteps: for every input the call returns true. The texts: DownSteps, DownStepsRow.
-/
import Derived.Test.YtccpgalpahfpaaaPartJ
import Derived.ProofKit
import Derived.OpenShut
import Derived.Lib.SmallJoins
/-
  Step by step the same.
-/
namespace Go.Proofs.Ytccpgalpahfpaaa
open Go.RowKit
open Sy
set_option linter.unusedVariables false
set_option linter.unusedSimpArgs false
set_option maxRecDepth 100000
set_option maxHeartbeats 4000000

theorem gValAll2 {R : HP} {gb W H : Nat} {f : Nat → Nat → Int} (hR : ∀ w, Sat R w → GridAt w gb W H f) :
    FnR Try.prog R 29 [.pointer (some ⟨gb, 0, none⟩), rectV 0 0 ((W : Int) - 1) ((H : Int) - 1)] [] fun r hs => ∃ g c, r = .tuple #[.slice (some ⟨g, 0, none⟩) (W * H) c, .int .i64 0] ∧
      hs = [rowH (.slice (some ⟨g, 0, none⟩) (W * H) c) (W * H) 2 1 (ints (vRows f 0 W 0 H))] := by
  have hlen : (vRows f 0 W 0 H).length = W * H := by rw [vRows_len, Nat.mul_comm]
  intro w s
  obtain ⟨w1, w2, h1, h2⟩ := (hR w s).size
  refine (gValAll hR rfl w s).mono ?_
  rintro e w' ⟨r, hs, rfl, ⟨A, c, rfl, rfl⟩, s', hw⟩
  rw [hlen] at s'
  obtain ⟨g, rfl, _⟩ := rowH_at (Sat.left s') (Nat.mul_pos w1 h1)
  rw [hlen]
  exact ⟨_, _, rfl, ⟨g, c, rfl, rfl⟩, s', hw⟩
theorem lev_step {W H j : Nat} (hs : SizeOk (W : Int) (H : Int)) (h : j + 1 < levN W H) : SizeOk ((halfN W j : Nat) : Int) ((halfN H j : Nat) : Int) ∧ 1 < levN (halfN W j : Nat) (halfN H j : Nat) := by
  have hs' := hs
  unfold SizeOk at hs'
  obtain ⟨a1, a2⟩ := half_le (W := W) (k := j) (by omega)
  obtain ⟨b1, b2⟩ := half_le (W := H) (k := j) (by omega)
  have hz : SizeOk ((halfN W j : Nat) : Int) ((halfN H j : Nat) : Int) := ⟨by omega, by omega, by omega, by omega⟩
  refine ⟨hz, ?_⟩
  have h1 := (lev_lt hs j).1 h
  rw [halfZ_N W j (by omega), halfZ_N H j (by omega)] at h1
  refine (lev_lt hz 0).2 ?_
  rw [halfZ_zero, halfZ_zero]
  exact h1

theorem DownSteps_walk (W H : Int) (A : Option Addr) (n c : Nat) (l : List Int) (k : Int) (w : World) (_ : -9223372036854775808 ≤ W) (_ : W ≤ 9223372036854775807) (_ : -9223372036854775808 ≤ H) (_ : H ≤ 9223372036854775807) (ha : Reads w w.heap.size 1 A n (ints l)) (hn : n ≤ maxLen)
    (_ : -9223372036854775808 ≤ k) (_ : k ≤ 9223372036854775807) :
    Calls Try.prog 9 #[.int .i64 W, .int .i64 H, .slice A n c, .int .i64 k] w fun e w' => e = .returned (.bool true) ∧ Below w.heap.size w w' := by
  refine PureR.below (args := [.int .i64 W, .int .i64 H, .slice A n c, .int .i64 k]) ?_
  have hv := vs_of_reads ha
  have hl : l.length = n := by have := ha.1; simpa [ints] using this
  by_cases hok : LandOk W H 1000 n l
  · obtain ⟨W, H, rfl, rfl, w1, w2, h1, h2, hWH, hn0, hn1⟩ := land_nat hok (by decide)
    have hm := hok.2.2.2.2.2.2
    have hsz : SizeOk (W : Int) (H : Int) := ⟨by omega, by omega, by omega, by omega⟩
    have hszs := fun R' => sSizes2 W H hsz R'
    have hl11 := levN_le hsz
    by_cases hbad : k < 1 ∨ (levN W H : Int) ≤ k
    · obtain ⟨L, hL⟩ : ∃ L, levN W H = L := ⟨_, rfl⟩
      rw [hL] at hszs hbad hl11
      refine fn_of_run0 false Try.func9 rfl hmix rfl fun w0 => ?_
      conv => whnf
      refine ⟨trivial, CallAt.pure (fun R' hR' => sAwake18 R') ?_⟩
      conv => whnf
      refine iff_f (by decide) ?_
      conv => whnf
      refine ⟨trivial, CallAt.pure (fun R' hR' => sLandYes (hv.mono fun w s => hR' w s) (by decide) hn hok) ?_⟩
      conv => whnf
      refine ⟨fun _ => ?_, fun h => absurd h (by decide)⟩
      conv => whnf
      refine ⟨fun g1 => ?_, fun g1 => ?_⟩
      · conv => whnf
        refine ⟨trivial, CallAt.fn (pre := []) _ (fun h s => s) (fun R' hR' => hszs R') ?_⟩
        rintro r hs ⟨sg, sc, rfl, rfl⟩
        conv => whnf
        refine iff_t (by simp at g1 ⊢; omega) ?_
        conv => whnf
        exact ⟨trivial, .mk [] (fun w s => s.rest) ⟨rfl, rfl⟩⟩
      · conv => whnf
        exact ⟨trivial, .mk [] (fun w s => s.rest) ⟨rfl, rfl⟩⟩
    · obtain ⟨K, rfl⟩ : ∃ K : Nat, k = ((K + 1 : Nat) : Int) := ⟨(k - 1).toNat, by omega⟩
      have hk : K + 1 < levN W H := by omega
      obtain ⟨hz2, hl2⟩ := lev_step hsz hk
      have e1 : (((K + 1 : Nat) : Int) - 1) = (K : Int) := by omega
      have hlv := fun (k : Nat) (hk : k < levN W H) (how : Int) (ag : List Int → Int) (hh : how = 0 ∧ ag = mnL ∨ how = 1 ∧ ag = mxL ∨ how = 2 ∧ ag = meanL) (gb : Nat) (R' : HP) (hR' : ∀ w, Sat R' w → GridAt w gb W H (gv W l)) => sLevelHow hR' hk hh
      have hlv1 := fun (how : Int) (ag : List Int → Int) (hh : how = 0 ∧ ag = mnL ∨ how = 1 ∧ ag = mxL ∨ how = 2 ∧ ag = meanL) (gb : Nat) (R' : HP) (hR' : ∀ w, Sat R' w → GridAt w gb (halfN W K) (halfN H K) (lv ag W H K (gv W l))) => sLevelHow (k := 1) hR' hl2 hh
      have hstep : ∀ (how : Int) (ag : List Int → Int), (how = 0 ∧ ag = mnL ∨ how = 1 ∧ ag = mxL) → (true = true ↔ (halfN W (K + 1) = halfN (halfN W K) 1 ∧ halfN H (K + 1) = halfN (halfN H K) 1 ∧ ∀ x y, x < halfN W (K + 1) → y < halfN H (K + 1) → lv ag W H (K + 1) (gv W l) x y = lv ag (halfN W K) (halfN H K) 1 (lv ag W H K (gv W l)) x y)) := by
        intro how ag hh
        refine ⟨fun _ => ⟨(halfN_step W K).symm, (halfN_step H K).symm, fun x y hx hy => ?_⟩, fun _ => rfl⟩
        rcases hh with ⟨_, rfl⟩ | ⟨_, rfl⟩
        · exact (lv_mn_step w1 h1 hx hy).symm
        · exact (lv_mx_step w1 h1 hx hy).symm
      have hlow : ∀ (i : Nat) (hx : i < (vRows (lv mnL W H (K + 1) (gv W l)) 0 (halfN W (K + 1)) 0 (halfN H (K + 1))).length) (hz : i < (vRows (lv meanL W H (K + 1) (gv W l)) 0 (halfN W (K + 1)) 0 (halfN H (K + 1))).length), (vRows (lv mnL W H (K + 1) (gv W l)) 0 (halfN W (K + 1)) 0 (halfN H (K + 1)))[i] ≤ (vRows (lv meanL W H (K + 1) (gv W l)) 0 (halfN W (K + 1)) 0 (halfN H (K + 1)))[i] := fun i hx hz => vRows_rel (P := fun a b => a ≤ b) (fun x y hx hy => (lv_mid w1 h1 hx hy).1) hx hz
      have hhigh : ∀ (i : Nat) (hx : i < (vRows (lv mxL W H (K + 1) (gv W l)) 0 (halfN W (K + 1)) 0 (halfN H (K + 1))).length) (hz : i < (vRows (lv meanL W H (K + 1) (gv W l)) 0 (halfN W (K + 1)) 0 (halfN H (K + 1))).length), (vRows (lv meanL W H (K + 1) (gv W l)) 0 (halfN W (K + 1)) 0 (halfN H (K + 1)))[i] ≤ (vRows (lv mxL W H (K + 1) (gv W l)) 0 (halfN W (K + 1)) 0 (halfN H (K + 1)))[i] := fun i hx hz => vRows_rel (P := fun a b => b ≤ a) (fun x y hx hy => (lv_mid w1 h1 hx hy).2) hx hz
      obtain ⟨a1, a2⟩ := half_le (W := W) (k := K + 1) (by omega)
      obtain ⟨b1, b2⟩ := half_le (W := H) (k := K + 1) (by omega)
      have hlen := fun ag => vRows_len (lv ag W H (K + 1) (gv W l)) 0 (halfN W (K + 1)) 0 (halfN H (K + 1))
      have hNL : halfN W (K + 1) * halfN H (K + 1) ≤ 1024 * 1024 := Nat.mul_le_mul (by omega) (by omega)
      have hNL0 : 0 < halfN W (K + 1) * halfN H (K + 1) := Nat.mul_pos a1 b1
      have hKL := hlv K (by omega)
      have hK1 := hlv (K + 1) hk
      obtain ⟨L, hL⟩ : ∃ L, levN W H = L := ⟨_, rfl⟩
      rw [hL] at hszs hl11 hk
      have gv2 := fun (ag : List Int → Int) (gb : Nat) (R' : HP) (hR' : ∀ w, Sat R' w → GridAt w gb (halfN W (K + 1)) (halfN H (K + 1)) (lv ag W H (K + 1) (gv W l))) => gValAll2 hR'
      clear hlv
      refine fn_of_run0 false Try.func9 rfl hmix rfl fun w0 => ?_
      conv => whnf
      refine ⟨trivial, CallAt.pure (fun R' hR' => sAwake18 R') ?_⟩
      conv => whnf
      refine iff_f (by decide) ?_
      conv => whnf
      refine ⟨trivial, CallAt.pure (fun R' hR' => sLandYes (hv.mono fun w s => hR' w s) (by decide) hn hok) ?_⟩
      conv => whnf
      refine ⟨fun _ => ?_, fun h => absurd h (by decide)⟩
      conv => whnf
      refine ⟨fun g1 => ?_, fun g1 => absurd g1 (by simp; omega)⟩
      conv => whnf
      refine ⟨trivial, CallAt.fn (pre := []) _ (fun h s => s) (fun R' hR' => hszs R') ?_⟩
      rintro r hs ⟨sg, sc, rfl, rfl⟩
      conv => whnf
      refine iff_f (by simp; omega) ?_
      conv => whnf
      refine ⟨trivial, CallAt.fn (pre := []) _ (fun h s => s) (fun R' hR' => sMadeV (hv.mono fun w s => (hR' w s).rest) w1 w2 h1 h2 hWH hm) ?_⟩
      rintro r hs ⟨gb, rfl, rfl⟩
      conv => whnf
      refine iff_f (by decide) ?_
      conv => whnf
      refine ⟨trivial, LoopAt.heap (α := Nat) [3, 11] (fun i => [(12, .v (.int .i64 (i : Int)))]) (fun _ => [gridH gb W H (gv W l)]) (fun i => i ≤ 2) (fun i => 2 - i) 0 (Nat.zero_le _) rfl ⟨⟨rfl, rfl⟩, trivial⟩ ⟨⟨rfl, rfl⟩, ⟨rfl, rfl⟩, trivial⟩ ⟨⟨rfl, rfl, rfl, rfl⟩, trivial⟩ (fun h s => sub_drop1 s) ?_⟩
      intro i hi
      conv => whnf
      refine ⟨fun h4 => ?_, fun h4 => ?_⟩
      · have g4 : i < 2 := by simp at h4; omega
        obtain ⟨ag, hag⟩ : ∃ ag, (i : Int) = 0 ∧ ag = mnL ∨ (i : Int) = 1 ∧ ag = mxL := by
          rcases (show i = 0 ∨ i = 1 by omega) with e | e
          · exact ⟨mnL, .inl ⟨by omega, rfl⟩⟩
          · exact ⟨mxL, .inr ⟨by omega, rfl⟩⟩
        have hag3 : (i : Int) = 0 ∧ ag = mnL ∨ (i : Int) = 1 ∧ ag = mxL ∨ (i : Int) = 2 ∧ ag = meanL := by
          rcases hag with h | h
          · exact .inl h
          · exact .inr (.inl h)
        conv => whnf
        refine ⟨trivial, CallAt.fn (pre := []) _ (fun h s => s) (fun R' hR' => hK1 i ag hag3 gb R' (gridAt_rest 0 rfl hR')) ?_⟩
        rintro r hs ⟨ga, rfl, rfl⟩
        conv => whnf
        rw [e1]
        refine ⟨⟨trivial, by unfold rng; omega⟩, CallAt.fn (pre := []) _ (fun h s => s) (fun R' hR' => hKL i ag hag3 gb R' (gridAt_rest 1 rfl hR')) ?_⟩
        rintro r hs ⟨gc, rfl, rfl⟩
        conv => whnf
        refine ⟨trivial, CallAt.fn (pre := []) _ (fun h s => s) (fun R' hR' => hlv1 i ag hag3 gc R' (gridAt_rest 0 rfl hR')) ?_⟩
        rintro r hs ⟨gd, rfl, rfl⟩
        conv => whnf
        iterate 3
          refine ⟨fun _ => ?_, fun h => absurd h (by decide)⟩
          conv => whnf
        refine ⟨trivial, CallAt.pure (fun R' hR' => sGridSame (hstep i ag hag) (gridAt_rest 2 rfl hR') (gridAt_rest 0 rfl hR')) ?_⟩
        conv => whnf
        refine iff_f (by decide) ?_
        conv => whnf
        refine ⟨⟨trivial, by unfold rng; omega⟩, Next.heap (i + 1) (by omega) (by omega) ⟨⟨rfl, rfl⟩, trivial⟩ ⟨⟨rfl, rfl⟩, ⟨rfl, rfl⟩, trivial⟩ ⟨⟨rfl, rfl, rfl, rfl⟩, trivial⟩ rfl rfl fun h s => ?_⟩
        obtain ⟨h1, e1, s1⟩ := sub_tail s
        obtain ⟨h2, e2, s2⟩ := sub_tail s1
        obtain ⟨h3, e3, s3⟩ := sub_tail s2
        exact ⟨h3, fun i o e => e1 i o (e2 i o (e3 i o e)), s3⟩
      · conv => whnf
        refine ⟨trivial, CallAt.fn (pre := []) _ (fun h s => s) (fun R' hR' => hK1 0 mnL (.inl ⟨rfl, rfl⟩) gb R' (gridAt_rest 0 rfl hR')) ?_⟩
        rintro r hs ⟨ga, rfl, rfl⟩
        conv => whnf
        refine ⟨trivial, CallAt.fn (pre := []) _ (fun h s => s) (fun R' hR' => hK1 1 mxL (.inr (.inl ⟨rfl, rfl⟩)) gb R' (gridAt_rest 1 rfl hR')) ?_⟩
        rintro r hs ⟨gc, rfl, rfl⟩
        conv => whnf
        refine ⟨trivial, CallAt.fn (pre := []) _ (fun h s => s) (fun R' hR' => hK1 2 meanL (.inr (.inr ⟨rfl, rfl⟩)) gb R' (gridAt_rest 2 rfl hR')) ?_⟩
        rintro r hs ⟨gd, rfl, rfl⟩
        conv => whnf
        refine ⟨trivial, CallAt.pure (fun R' hR' => gAll_p (gridAt_rest 2 rfl hR')) ?_⟩
        conv => whnf
        refine ⟨trivial, CallAt.fn (pre := []) _ (fun h s => s) (fun R' hR' => gv2 mnL ga R' (gridAt_rest 2 rfl hR')) ?_⟩
        rintro r hs ⟨xb, xc, rfl, rfl⟩
        conv => whnf
        refine ⟨trivial, CallAt.pure (fun R' hR' => gAll_p (gridAt_rest 2 rfl hR')) ?_⟩
        conv => whnf
        refine ⟨trivial, CallAt.fn (pre := []) _ (fun h s => s) (fun R' hR' => gv2 mxL gc R' (gridAt_rest 2 rfl hR')) ?_⟩
        rintro r hs ⟨yb, yc, rfl, rfl⟩
        conv => whnf
        refine ⟨trivial, CallAt.pure (fun R' hR' => gAll_p (gridAt_rest 2 rfl hR')) ?_⟩
        conv => whnf
        refine ⟨trivial, CallAt.fn (pre := []) _ (fun h s => s) (fun R' hR' => gv2 meanL gd R' (gridAt_rest 2 rfl hR')) ?_⟩
        rintro r hs ⟨zb, zc, rfl, rfl⟩
        conv => whnf
        iterate 6
          refine ⟨fun _ => ?_, fun h => absurd h (by decide)⟩
          conv => whnf
        refine ⟨fun _ => ?_, fun h => absurd h (by simp)⟩
        conv => whnf
        refine iff_f (by simp) ?_
        conv => whnf
        have lx := hlen mnL
        have ly := hlen mxL
        have lz := hlen meanL
        generalize vRows (lv mnL W H (K + 1) (gv W l)) 0 (halfN W (K + 1)) 0 (halfN H (K + 1)) = X at *
        generalize vRows (lv mxL W H (K + 1) (gv W l)) 0 (halfN W (K + 1)) 0 (halfN H (K + 1)) = Y at *
        generalize vRows (lv meanL W H (K + 1) (gv W l)) 0 (halfN W (K + 1)) 0 (halfN H (K + 1)) = Z at *
        rw [Nat.mul_comm] at lx ly lz
        generalize halfN W (K + 1) * halfN H (K + 1) = N at *
        refine ⟨trivial, LoopAt.keep (α := Nat) [25, 27, 29] (fun j => [(31, .v (.int .i64 (j : Int)))]) (fun j => j ≤ N) (fun j => N - j) 0 (Nat.zero_le _) rfl ⟨⟨rfl, rfl⟩, trivial⟩ ⟨⟨rfl, rfl⟩, ⟨rfl, rfl⟩, ⟨rfl, rfl⟩, trivial⟩ ⟨⟨rfl, rfl, rfl, rfl⟩, trivial⟩ ?_⟩
        intro j hj
        conv => whnf
        refine ⟨fun h5 => ?_, fun h5 => ?_⟩
        · have g5 : j < N := by simpa using h5
          have q1 := hlow j (by omega) (by omega)
          have q2 := hhigh j (by omega) (by omega)
          conv => whnf
          refine ⟨trivial, RegAt.quiet hmix (by kernel_rfl) ?_⟩
          conv => whnf
          refine ⟨⟨trivial, by omega⟩, LoadAt.cell (.int .i64 (Z[j]'(by omega))) rfl rfl (fun w hw => by have := row_at (hw.in_ 0 rfl) hNL0 (ints_at Z j (by omega)); simpa using this) ?_⟩
          conv => whnf
          refine ⟨⟨trivial, by omega⟩, LoadAt.cell (.int .i64 (X[j]'(by omega))) rfl rfl (fun w hw => by have := row_at (hw.in_ 2 rfl) hNL0 (ints_at X j (by omega)); simpa using this) ?_⟩
          conv => whnf
          refine ⟨fun _ => ?_, fun h => absurd h (by simp; omega)⟩
          conv => whnf
          refine ⟨⟨trivial, by omega⟩, LoadAt.cell (.int .i64 (Z[j]'(by omega))) rfl rfl (fun w hw => by have := row_at (hw.in_ 0 rfl) hNL0 (ints_at Z j (by omega)); simpa using this) ?_⟩
          conv => whnf
          refine ⟨⟨trivial, by omega⟩, LoadAt.cell (.int .i64 (Y[j]'(by omega))) rfl rfl (fun w hw => by have := row_at (hw.in_ 1 rfl) hNL0 (ints_at Y j (by omega)); simpa using this) ?_⟩
          conv => whnf
          refine ⟨trivial, ?_⟩
          conv => whnf
          refine iff_f (by simp; omega) ?_
          conv => whnf
          refine ⟨⟨trivial, by unfold rng; omega⟩, Next.keep (j + 1) (by omega) (by omega) ⟨⟨rfl, rfl⟩, trivial⟩ ⟨⟨rfl, rfl⟩, ⟨rfl, rfl⟩, ⟨rfl, rfl⟩, trivial⟩ ⟨⟨rfl, rfl, rfl, rfl⟩, trivial⟩ rfl rfl rfl⟩
        · conv => whnf
          exact ⟨trivial, .mk [] (fun w s => s.rest) ⟨rfl, rfl⟩⟩
  · refine fn_of_run0 false Try.func9 rfl hmix rfl fun w0 => ?_
    conv => whnf
    refine ⟨trivial, CallAt.pure (fun R' hR' => sAwake18 R') ?_⟩
    conv => whnf
    refine iff_f (by decide) ?_
    conv => whnf
    refine ⟨trivial, CallAt.pure (fun R' hR' => sLandNo (hv.mono fun w s => hR' w s) (by decide) hn hok) ?_⟩
    conv => whnf
    refine ⟨fun h => absurd h (by decide), fun _ => ?_⟩
    conv => whnf
    exact ⟨trivial, fin_pure rfl rfl⟩
end Go.Proofs.Ytccpgalpahfpaaa

/-
  The statement of hachurelaw18.DownSteps: for every input the call returns true, and each argument reads afterwards as it read before. The row's own frame round the walk 'DownSteps_walk'.
-/
namespace Go.Proofs.Ytccpgalpahfpaaa.downStepsRow
open Go.Proofs.Ytccpgalpahfpaaa
open Go.ChangeShapes Go.WideShapes Go.ChangeAt Go.RowKit Go.Joins
set_option linter.unusedVariables false

theorem own : ownKnob Try.prog.godebug = none := by kernel_rfl
theorem laidOut : laidOutB Try.prog = true := by kernel_rfl


set_option maxRecDepth 100000 in
theorem lifted (os : Os) (started : os.Started) (H : Type) (enc : TypeId × Value → H) :
    ReturnsInHanded {} Try.checked os 9 .any (Rows.downStepsSpec.pre6 enc Try.prog Try.f9 Rows.downStepsRow.domain false) (Rows.downStepsSpec.post enc Try.prog Try.f9 false true false false) := by
  refine returnsInHanded_of_change (C := Try.checked) own started (by kernel_rfl) Try.func9
    (ChangeSpec.witness6 (enc := enc) (C := Try.checked) false ⟨#[], #[.int .i64 0, .int .i64 0, .slice none 0 0, .int .i64 0], []⟩ 8 (by kernel_rfl) (by kernel_rfl) (by kernel_rfl) (by kernel_rfl)) ?_
  intro W base args ds gs before hval0 hW hcnd _
  have hval : ∀ (j : Nat) t v, Try.f9.params[j]? = some t → args[j]? = some v → Value.okWide Try.prog W .any base t v := hval0
  have hW' := hW
  obtain ⟨p, q, hA0, hV, rfl, hfz, hnd⟩ := hW
  have hA : DataW.TrodAll enc Try.prog W 0 (fun _ => true) true Try.f9.params.toList args.toList ds p := hA0
  rw [Try.params9] at hA hval
  obtain ⟨v0, vs0, d0, ds0, p0, q0, hargs, rfl, rfl, h0, r0⟩ := trodAll_cons hA
  obtain ⟨v1, vs1, d1, ds1, p1, q1, rfl, rfl, rfl, h1, r1⟩ := trodAll_cons r0
  obtain ⟨v2, vs2, d2, ds2, p2, q2, rfl, rfl, rfl, h2, r2⟩ := trodAll_cons r1
  obtain ⟨v3, vs3, d3, ds3, p3, q3, rfl, rfl, rfl, h3, r3⟩ := trodAll_cons r2
  obtain ⟨rfl, rfl, rfl⟩ := trodAll_nil r3
  obtain rfl : args = #[v0, v1, v2, v3] := by cases args; simp_all
  obtain ⟨rfl, rfl⟩ := trodVars_none hV
  have k0 := h0
  have lt0 : ∀ x ∈ p0, x.block < W.heap.size := by obtain ⟨m, hm⟩ := k0; exact DataW.trod_lt m _ _ _ hm
  have k1 := h1
  have lt1 : ∀ x ∈ p1, x.block < W.heap.size := by obtain ⟨m, hm⟩ := k1; exact DataW.trod_lt m _ _ _ hm
  have k2 := h2
  have lt2 : ∀ x ∈ p2, x.block < W.heap.size := by obtain ⟨m, hm⟩ := k2; exact DataW.trod_lt m _ _ _ hm
  have k3 := h3
  have lt3 : ∀ x ∈ p3, x.block < W.heap.size := by obtain ⟨m, hm⟩ := k3; exact DataW.trod_lt m _ _ _ hm
  obtain ⟨a0, rfl, rfl, rfl, w0⟩ := open_int Try.underlying2 (hval 0 2 v0 rfl rfl) h0
  have b0 := bounds_i64 w0
  obtain ⟨a1, rfl, rfl, rfl, w1⟩ := open_int Try.underlying2 (hval 1 2 v1 rfl rfl) h1
  have b1 := bounds_i64 w1
  obtain ⟨a2, len2, cap2, rfl⟩ := okWide_slice Try.underlying22 (hval 2 22 v2 rfl rfl)
  obtain ⟨l2, hl2, hn2⟩ : ∃ l, Reads W W.heap.size 1 a2 len2 (ints l) ∧ len2 ≤ maxLen := by
    obtain ⟨fuel, hf⟩ := h2
    rcases open_ints Try.underlying22 Try.underlying2 (by kernel_rfl) hf with ⟨hcs, _⟩ | ⟨x, l, c, zs, hcs, _, hl, hm, hz, _, hcell, hwz⟩
    · simp [Value.cells] at hcs
      obtain ⟨rfl, rfl, rfl⟩ := hcs
      exact ⟨[], Reads.empty, by simp [maxLen]⟩
    · simp [Value.cells] at hcs
      obtain ⟨rfl, rfl, rfl⟩ := hcs
      obtain ⟨l, hl2⟩ := ints_of hl (by simpa using hz) hcell
      exact ⟨l, hl2, Nat.le_trans hl hm⟩
  obtain ⟨a3, rfl, rfl, rfl, w3⟩ := open_int Try.underlying3 (hval 3 3 v3 rfl rfl) h3
  have b3 := bounds_i64 w3
  clear hA0 hval0
  refine (DownSteps_walk a0 a1 a2 len2 cap2 l2 a3 W b0.1 b0.2 b1.1 b1.2 hl2 hn2 b3.1 b3.2).mono fun e W' ⟨he, bel⟩ => ?_
  subst he
  exact ⟨_, rfl, _, _, _, [], _, [], hW', trodAll_mk1 (shut_bool Try.underlying4 _), (trodAll_cons_mk (Below.trod laidOut (by kernel_rfl) (of_decide_eq_true (by kernel_rfl)) k0 bel lt0) (trodAll_cons_mk (Below.trod laidOut (by kernel_rfl) (of_decide_eq_true (by kernel_rfl)) k1 bel lt1) (trodAll_cons_mk (Below.trod laidOut (by kernel_rfl) (of_decide_eq_true (by kernel_rfl)) k2 bel lt2) (trodAll_cons_mk (Below.trod laidOut (by kernel_rfl) (of_decide_eq_true (by kernel_rfl)) k3 bel lt3) trodAll_mk0)))), rfl, bel.frame _, fun h => by cases h⟩

theorem over : Rows.downStepsRow.holds Try.pinned (OpenSpec.ofChange Rows.downStepsSpec) :=
  OpenClaim.holds_of_wide 9 Try.f9 rfl rfl rfl rfl rfl rfl rfl ⟨rfl, rfl, rfl, rfl, rfl⟩ rfl rfl rfl rfl rfl (by kernel_rfl) Try.func9 (by kernel_rfl)
    (of_decide_eq_true (by kernel_rfl)) (by unfold Func.isWrapper; first | (rw [if_pos (by decide +kernel)]; kernel_rfl) | (rw [if_neg (by decide +kernel)]; exact ⟨rfl, rfl⟩))
    (fun os started H enc _ => lifted os started H enc)
end Go.Proofs.Ytccpgalpahfpaaa.downStepsRow
namespace Go.Proofs.Ytccpgalpahfpaaa

theorem downSteps_holds : Rows.DownStepsSaid := downStepsRow.over
#print axioms downSteps_holds
end Go.Proofs.Ytccpgalpahfpaaa

