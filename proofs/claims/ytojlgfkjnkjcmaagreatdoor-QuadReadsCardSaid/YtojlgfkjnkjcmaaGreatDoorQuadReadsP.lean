/-
  The statement QuadReads: for every input the call returns true. The texts: QuadReadsW, NumDoor, QuadReadsRow.
-/
import Derived.Test.YtojlgfkjnkjcmaaGreatDoorPartQe
import Derived.Test.YtojlgfkjnkjcmaaGreatDoorPartQg
import Derived.Test.YtojlgfkjnkjcmaaGreatDoorPartV
import Derived.ProofKit
import Derived.OpenShut
import Derived.Lib.SmallJoins
import Derived.LaidMore
import Derived.Stop.Joined
import Derived.Stop.LaidErr
import Derived.Lib.LaidTab
import Derived.SevenTiedAt
import Derived.Test.YtojlgfkjnkjcmaaGreatDoorCards
import Derived.ChangeMaps5
import Derived.Test.YtojlgfkjnkjcmaaGreatDoorTie
/-
  ONE TEXT ALONE: the walk of QuadReads.
-/
namespace Go.Proofs.YtojlgfkjnkjcmaaGreatDoor
open Go.RowKit
open Sy
set_option linter.unusedVariables false
set_option linter.unusedSimpArgs false
set_option maxRecDepth 100000
set_option maxHeartbeats 4000000

/-- both say one error -/
def BadAt (l : List UInt8) : Prop := ∃ e : Int, e ≠ 0 ∧ (∀ R : HP, (∀ w, Sat R w → NumW w) → FnR Tryz.prog R 17 [.string (bs l)] [] fun r hs => r = .tuple #[.pointer none, .int .i64 e] ∧ hs = []) ∧ ∀ R : HP, PureR Tryz.prog R 18 [.string (bs l)] (.tuple #[noSet, .int .i64 e])
/-- both read one set -/
def GoodAt (l : List UInt8) : Prop := ∃ (W H n : Nat) (t : QT), (∃ k1 k2, sideV l 0 = some ((W : Int), k1) ∧ sideV l k1 = some ((H : Int), k2)) ∧ (1 ≤ W ∧ W ≤ 40 ∧ 1 ≤ H ∧ H ≤ 40) ∧ n ≤ 6 ∧ Side (max (W : Int) H) n ∧ l = textQ W H t ∧ (printQ t).length ≤ 900000 ∧ t = canon (inQ W H (lookQ n t 0 0)) n 0 0 ∧
  (∀ R : HP, (∀ w, Sat R w → NumW w) → FnR Tryz.prog R 17 [.string (bs l)] [] fun r hs => ∃ qb, r = .tuple #[ptV qb, .int .i64 0] ∧ hs = [quadH qb W H t]) ∧
  ∀ R : HP, FnR Tryz.prog R 18 [.string (bs l)] [] fun v hs => ∃ b g, v = .tuple #[setB0 W H b (W * H), .int .i64 0] ∧ hs = [inH W H b (W * H) g] ∧ canon (gS W H (mkB W H g)) n 0 0 = t ∧ l = textQ W H t
theorem bad_or_good {l : List UInt8} (hl : l.length ≤ 400) (hg : ∀ W H k1 k2, sideV l 0 = some (W, k1) → sideV l k1 = some (H, k2) → sizeQ W H → W ≤ 40 ∧ H ≤ 40) : BadAt l ∨ GoodAt l := by
  have hl2 : l.length ≤ 1048576 := by omega
  cases h1 : sideV l 0 with
  | none => exact .inl ⟨12, by decide, fun R hN => sQReadNo fun R' hR' => sReadA (fun w s => hN w (hR' w s)) hl2 h1, fun R => rReadA hl2 h1⟩
  | some p1 =>
    obtain ⟨W, k1⟩ := p1
    obtain ⟨_, hk1, hWr⟩ := side_drop (Nat.zero_le _) h1
    cases h2 : sideV l k1 with
    | none => exact .inl ⟨12, by decide, fun R hN => sQReadNo fun R' hR' => sReadB (fun w s => hN w (hR' w s)) hl2 h1 hk1 h2, fun R => rReadB hl2 h1 h2⟩
    | some p2 =>
      obtain ⟨H, k2⟩ := p2
      obtain ⟨_, hk2, hHr⟩ := side_drop hk1 h2
      by_cases hs : sizeQ W H
      · obtain ⟨hW40, hH40⟩ := hg W H k1 k2 h1 h2 hs
        have hs' := hs
        obtain ⟨w1, w2, g1, g2⟩ := hs'
        obtain ⟨W, rfl⟩ : ∃ W' : Nat, W = W' := ⟨W.toNat, by omega⟩
        obtain ⟨H, rfl⟩ : ∃ H' : Nat, H = H' := ⟨H.toNat, by omega⟩
        obtain ⟨n, hn, hS⟩ := side_ex 6 (max (W : Int) H) (by have : (2 : Int) ^ 6 = 64 := rfl; omega)
        have hb := both_parse n (l.drop k2)
        rcases hb with ⟨e1, e2⟩ | ⟨t, r, e1, e2⟩
        · exact .inl ⟨12, by decide, fun R hN => sQReadNo fun R' hR' => sReadD (fun w s => hN w (hR' w s)) hl2 h1 hk1 h2 hk2 hWr hHr hs rfl rfl (by omega) hS e2, fun R => rReadD hl2 h1 h2 (by omega) (by omega) (by omega) (by omega) (by omega) hS e1⟩
        · by_cases hr : r = []
          · subst hr
            have e1 : parseQ n (sgnQ (l.drop k2)) = some (t, []) := e1
            have e2 : parseQ n (runesL (l.drop k2)) = some (t, []) := e2
            have hfit := (parse_sound n _ t [] e1).1
            cases ho : oddQ W H n t 0 0 with
            | true => exact .inl ⟨13, by decide, fun R hN => sQReadNo fun R' hR' => sReadF (fun w s => hN w (hR' w s)) hl2 h1 hk1 h2 hk2 hWr hHr hs rfl rfl (by omega) hS e2 rfl ho, fun R => rReadF hl2 h1 h2 (by omega) (by omega) (by omega) (by omega) (by omega) hS e1 ho⟩
            | false =>
              have htx := text_of h1 h2 e1
              refine .inr ⟨W, H, n, t, ⟨k1, k2, h1, h2⟩, ⟨by omega, by omega, by omega, by omega⟩, hn, hS, htx, ?_, ((odd_canon hfit).1 ho).symm, fun R hN => sQReadOk fun R' hR' => sReadG (fun w s => hN w (hR' w s)) hl2 h1 hk1 h2 hk2 hWr hHr hs rfl rfl (by omega) hS e2 rfl ho, fun R => rReadG hl2 h1 h2 (by omega) (by omega) (by omega) (by omega) (by omega) hS e1 ho⟩
              have := print_le hfit
              have h4 : ∀ n, n ≤ 6 → 2 * 4 ^ n ≤ 524288 := by decide
              have h4 := h4 n hn
              omega
          · have hr1 : 0 < (runesL r).length := List.length_pos_iff.2 fun c => hr (runesL_nil.1 c)
            have hr2 : 0 < (sgnQ r).length := by
              cases r with
              | nil => exact absurd rfl hr
              | cons a r => simp [sgnQ]
            exact .inl ⟨12, by decide, fun R hN => sQReadNo fun R' hR' => sReadE (fun w s => hN w (hR' w s)) hl2 h1 hk1 h2 hk2 hWr hHr hs rfl rfl (by omega) hS e2 hr1, fun R => rReadE hl2 h1 h2 (by omega) (by omega) (by omega) (by omega) (by omega) hS e1 hr2⟩
      · exact .inl ⟨3, by decide, fun R hN => sQReadNo fun R' hR' => sReadC (fun w s => hN w (hR' w s)) hl2 h1 hk1 h2 hWr hHr hs, fun R => rReadC hl2 h1 h2 hs⟩
theorem QuadReads_walk (l : List UInt8) (w : World) (hT : NumW w) (hm : l.length ≤ maxLen) :
    Calls Tryz.prog 4 #[.string (bs l)] w fun e w' => e = .returned (.bool true) ∧ Below w.heap.size w w' := by
  refine PureR.below (args := [.string (bs l)]) ?_
  have hNW := fun R' (h : ∀ w', Sat R' w' → Sat (was w) w') => fun w' (s : Sat R' w') => numW_wasQ hT (h w' s)
  have haw := fun R' (h : ∀ w', Sat R' w' → Sat (was w) w') => sAwake50 (R := R') fun w' s => (hNW R' h w' s).1
  have hsz : (bs l).size = l.length := bs_size l
  simp only [maxLen] at hm
  by_cases hlen : 400 < l.length
  · refine fn_of_run0 false Tryz.func4 rfl hmix rfl fun w0 => ?_
    conv => whnf
    refine ⟨trivial, CallAt.pure (fun R' hR' => haw R' hR') ?_⟩
    conv => whnf
    refine iff_f rfl ?_
    conv => whnf
    repeat (first | (refine And.intro ?_ ?_; rotate_left; (focus (intro g; exfalso; first | (simp at g; done) | (simp at g; omega) | (revert g; decide))); intro _; conv => whnf) | (refine And.intro ?_ ?_; (focus (intro g; exfalso; first | (simp at g; done) | (simp at g; omega) | (revert g; decide))); intro _; conv => whnf))
    refine ⟨?_, fin_drop rfl⟩
    repeat' apply And.intro
    all_goals first | exact True.intro | (unfold rng; omega) | omega
  have hl2 : l.length ≤ 1048576 := by omega
  rcases hx : scan l 0 with ⟨n, e, q⟩
  have hsc : ∀ (R' : HP), PureR Tryz.prog R' 16 [.string (bs l), .int .i64 0] (.tuple #[.int .i64 n, .int .i64 e, .int .i64 q]) := fun R' => by
    have := sRefScan (R := R') l hl2 0
    rw [hx] at this
    exact this
  by_cases hq : q = 0
  · subst hq
    by_cases hP : 40 < n ∧ n ≤ 1024
    · obtain ⟨p1, p2⟩ := hP
      refine fn_of_run0 false Tryz.func4 rfl hmix rfl fun w0 => ?_
      conv => whnf
      refine ⟨trivial, CallAt.pure (fun R' hR' => haw R' hR') ?_⟩
      conv => whnf
      refine iff_f rfl ?_
      conv => whnf
      repeat (first | (refine And.intro ?_ ?_; rotate_left; (focus (intro g; exfalso; first | (simp at g; done) | (simp at g; omega) | (revert g; decide))); intro _; conv => whnf) | (refine And.intro ?_ ?_; (focus (intro g; exfalso; first | (simp at g; done) | (simp at g; omega) | (revert g; decide))); intro _; conv => whnf))
      refine ⟨trivial, CallAt.pure (fun R' hR' => hsc R') ?_⟩
      conv => whnf
      repeat (first | (refine And.intro ?_ ?_; rotate_left; (focus (intro g; exfalso; first | (simp at g; done) | (simp at g; omega) | (revert g; decide))); intro _; conv => whnf) | (refine And.intro ?_ ?_; (focus (intro g; exfalso; first | (simp at g; done) | (simp at g; omega) | (revert g; decide))); intro _; conv => whnf))
      refine ⟨?_, fin_drop rfl⟩
      repeat' apply And.intro
      all_goals first | exact True.intro | (unfold rng; omega) | omega
    · have hP' : n ≤ 40 ∨ 1024 < n := by omega
      obtain ⟨i, rfl, _, hi, _⟩ := scan_from (Nat.zero_le _) (show scan l ((0 : Nat) : Int) = _ from hx)
      by_cases he : i < l.length
      · rcases hx2 : scan l ((i : Int) + 1) with ⟨n2, e2, q2⟩
        have hsc2 : ∀ (R' : HP), PureR Tryz.prog R' 16 [.string (bs l), .int .i64 ((i : Int) + 1)] (.tuple #[.int .i64 n2, .int .i64 e2, .int .i64 q2]) := fun R' => by
          have := sRefScan (R := R') l hl2 ((i : Int) + 1)
          rw [hx2] at this
          exact this
        by_cases hP2 : q2 = 0 ∧ 40 < n2 ∧ n2 ≤ 1024
        · obtain ⟨p0, p1, p2⟩ := hP2
          rcases hP' with hP' | hP'
          · refine fn_of_run0 false Tryz.func4 rfl hmix rfl fun w0 => ?_
            conv => whnf
            refine ⟨trivial, CallAt.pure (fun R' hR' => haw R' hR') ?_⟩
            conv => whnf
            refine iff_f rfl ?_
            conv => whnf
            repeat (first | (refine And.intro ?_ ?_; rotate_left; (focus (intro g; exfalso; first | (simp at g; done) | (simp at g; omega) | (revert g; decide))); intro _; conv => whnf) | (refine And.intro ?_ ?_; (focus (intro g; exfalso; first | (simp at g; done) | (simp at g; omega) | (revert g; decide))); intro _; conv => whnf))
            refine ⟨trivial, CallAt.pure (fun R' hR' => hsc R') ?_⟩
            conv => whnf
            repeat (first | (refine And.intro ?_ ?_; rotate_left; (focus (intro g; exfalso; first | (simp at g; done) | (simp at g; omega) | (revert g; decide))); intro _; conv => whnf) | (refine And.intro ?_ ?_; (focus (intro g; exfalso; first | (simp at g; done) | (simp at g; omega) | (revert g; decide))); intro _; conv => whnf))
            refine ⟨?_, CallAt.pure (fun R' hR' => hsc2 R') ?_⟩
            · repeat' apply And.intro
              all_goals first | exact True.intro | (unfold rng; omega) | omega
            conv => whnf
            repeat (first | (refine And.intro ?_ ?_; rotate_left; (focus (intro g; exfalso; first | (simp at g; done) | (simp at g; omega) | (revert g; decide))); intro _; conv => whnf) | (refine And.intro ?_ ?_; (focus (intro g; exfalso; first | (simp at g; done) | (simp at g; omega) | (revert g; decide))); intro _; conv => whnf))
            refine ⟨?_, fin_drop rfl⟩
            repeat' apply And.intro
            all_goals first | exact True.intro | (unfold rng; omega) | omega
          · refine fn_of_run0 false Tryz.func4 rfl hmix rfl fun w0 => ?_
            conv => whnf
            refine ⟨trivial, CallAt.pure (fun R' hR' => haw R' hR') ?_⟩
            conv => whnf
            refine iff_f rfl ?_
            conv => whnf
            repeat (first | (refine And.intro ?_ ?_; rotate_left; (focus (intro g; exfalso; first | (simp at g; done) | (simp at g; omega) | (revert g; decide))); intro _; conv => whnf) | (refine And.intro ?_ ?_; (focus (intro g; exfalso; first | (simp at g; done) | (simp at g; omega) | (revert g; decide))); intro _; conv => whnf))
            refine ⟨trivial, CallAt.pure (fun R' hR' => hsc R') ?_⟩
            conv => whnf
            repeat (first | (refine And.intro ?_ ?_; rotate_left; (focus (intro g; exfalso; first | (simp at g; done) | (simp at g; omega) | (revert g; decide))); intro _; conv => whnf) | (refine And.intro ?_ ?_; (focus (intro g; exfalso; first | (simp at g; done) | (simp at g; omega) | (revert g; decide))); intro _; conv => whnf))
            refine ⟨?_, CallAt.pure (fun R' hR' => hsc2 R') ?_⟩
            · repeat' apply And.intro
              all_goals first | exact True.intro | (unfold rng; omega) | omega
            conv => whnf
            repeat (first | (refine And.intro ?_ ?_; rotate_left; (focus (intro g; exfalso; first | (simp at g; done) | (simp at g; omega) | (revert g; decide))); intro _; conv => whnf) | (refine And.intro ?_ ?_; (focus (intro g; exfalso; first | (simp at g; done) | (simp at g; omega) | (revert g; decide))); intro _; conv => whnf))
            refine ⟨?_, fin_drop rfl⟩
            repeat' apply And.intro
            all_goals first | exact True.intro | (unfold rng; omega) | omega
        · have hg : ∀ W H k1 k2, sideV l 0 = some (W, k1) → sideV l k1 = some (H, k2) → sizeQ W H → W ≤ 40 ∧ H ≤ 40 := fun W H k1 k2 a b s => by
            obtain ⟨i1, rfl, a1, _⟩ := sideV_some (Nat.zero_le _) a
            have a1 : scan l 0 = (W, (i1 : Int), 0) := a1
            rw [hx] at a1
            injection a1 with a1 a2
            injection a2 with a2 _
            obtain rfl : i = i1 := by omega
            obtain ⟨i2, rfl, b1, _⟩ := sideV_some (by omega) b
            have b1 : scan l ((i : Int) + 1) = (H, (i2 : Int), 0) := by rw [← b1]; rfl
            rw [hx2] at b1
            injection b1 with b1 b2
            injection b2 with _ b2
            unfold sizeQ at s
            omega
          have hP2' : q2 ≠ 0 ∨ (q2 = 0 ∧ n2 ≤ 40) ∨ (q2 = 0 ∧ 1024 < n2) := by omega
          rcases bad_or_good (by omega) hg with ⟨ec, hec, hbad1, hbad2⟩ | hgood
          · rcases hP' with hP' | hP'
            · rcases hP2' with p0 | ⟨p0, p1⟩ | ⟨p0, p1⟩
              · refine fn_of_run0 false Tryz.func4 rfl hmix rfl fun w0 => ?_
                conv => whnf
                refine ⟨trivial, CallAt.pure (fun R' hR' => haw R' hR') ?_⟩
                conv => whnf
                refine iff_f rfl ?_
                conv => whnf
                repeat (first | (refine And.intro ?_ ?_; rotate_left; (focus (intro g; exfalso; first | (simp at g; done) | (simp at g; omega) | (revert g; decide))); intro _; conv => whnf) | (refine And.intro ?_ ?_; (focus (intro g; exfalso; first | (simp at g; done) | (simp at g; omega) | (revert g; decide))); intro _; conv => whnf))
                refine ⟨trivial, CallAt.pure (fun R' hR' => hsc R') ?_⟩
                conv => whnf
                repeat (first | (refine And.intro ?_ ?_; rotate_left; (focus (intro g; exfalso; first | (simp at g; done) | (simp at g; omega) | (revert g; decide))); intro _; conv => whnf) | (refine And.intro ?_ ?_; (focus (intro g; exfalso; first | (simp at g; done) | (simp at g; omega) | (revert g; decide))); intro _; conv => whnf))
                refine ⟨?_, CallAt.pure (fun R' hR' => hsc2 R') ?_⟩
                · repeat' apply And.intro
                  all_goals first | exact True.intro | (unfold rng; omega) | omega
                conv => whnf
                repeat (first | (refine And.intro ?_ ?_; rotate_left; (focus (intro g; exfalso; first | (simp at g; done) | (simp at g; omega) | (revert g; decide))); intro _; conv => whnf) | (refine And.intro ?_ ?_; (focus (intro g; exfalso; first | (simp at g; done) | (simp at g; omega) | (revert g; decide))); intro _; conv => whnf))
                refine ⟨trivial, CallAt.fn (pre := []) _ (fun h s => s) (fun R' hR' => hbad1 R' (hNW R' fun w s => (hR' w s).rest)) ?_⟩
                rintro r hs ⟨rfl, rfl⟩
                conv => whnf
                refine ⟨trivial, CallAt.pure (fun R' hR' => hbad2 R') ?_⟩
                conv => whnf
                repeat (first | (refine And.intro ?_ ?_; rotate_left; (focus (intro g; exfalso; first | (simp at g; done) | (simp at g; omega) | (revert g; decide))); intro _; conv => whnf) | (refine And.intro ?_ ?_; (focus (intro g; exfalso; first | (simp at g; done) | (simp at g; omega) | (revert g; decide))); intro _; conv => whnf))
                exact ⟨trivial, fin_drop (by simp [mkRes])⟩
              · refine fn_of_run0 false Tryz.func4 rfl hmix rfl fun w0 => ?_
                conv => whnf
                refine ⟨trivial, CallAt.pure (fun R' hR' => haw R' hR') ?_⟩
                conv => whnf
                refine iff_f rfl ?_
                conv => whnf
                repeat (first | (refine And.intro ?_ ?_; rotate_left; (focus (intro g; exfalso; first | (simp at g; done) | (simp at g; omega) | (revert g; decide))); intro _; conv => whnf) | (refine And.intro ?_ ?_; (focus (intro g; exfalso; first | (simp at g; done) | (simp at g; omega) | (revert g; decide))); intro _; conv => whnf))
                refine ⟨trivial, CallAt.pure (fun R' hR' => hsc R') ?_⟩
                conv => whnf
                repeat (first | (refine And.intro ?_ ?_; rotate_left; (focus (intro g; exfalso; first | (simp at g; done) | (simp at g; omega) | (revert g; decide))); intro _; conv => whnf) | (refine And.intro ?_ ?_; (focus (intro g; exfalso; first | (simp at g; done) | (simp at g; omega) | (revert g; decide))); intro _; conv => whnf))
                refine ⟨?_, CallAt.pure (fun R' hR' => hsc2 R') ?_⟩
                · repeat' apply And.intro
                  all_goals first | exact True.intro | (unfold rng; omega) | omega
                conv => whnf
                repeat (first | (refine And.intro ?_ ?_; rotate_left; (focus (intro g; exfalso; first | (simp at g; done) | (simp at g; omega) | (revert g; decide))); intro _; conv => whnf) | (refine And.intro ?_ ?_; (focus (intro g; exfalso; first | (simp at g; done) | (simp at g; omega) | (revert g; decide))); intro _; conv => whnf))
                refine ⟨trivial, CallAt.fn (pre := []) _ (fun h s => s) (fun R' hR' => hbad1 R' (hNW R' fun w s => (hR' w s).rest)) ?_⟩
                rintro r hs ⟨rfl, rfl⟩
                conv => whnf
                refine ⟨trivial, CallAt.pure (fun R' hR' => hbad2 R') ?_⟩
                conv => whnf
                repeat (first | (refine And.intro ?_ ?_; rotate_left; (focus (intro g; exfalso; first | (simp at g; done) | (simp at g; omega) | (revert g; decide))); intro _; conv => whnf) | (refine And.intro ?_ ?_; (focus (intro g; exfalso; first | (simp at g; done) | (simp at g; omega) | (revert g; decide))); intro _; conv => whnf))
                exact ⟨trivial, fin_drop (by simp [mkRes])⟩
              · refine fn_of_run0 false Tryz.func4 rfl hmix rfl fun w0 => ?_
                conv => whnf
                refine ⟨trivial, CallAt.pure (fun R' hR' => haw R' hR') ?_⟩
                conv => whnf
                refine iff_f rfl ?_
                conv => whnf
                repeat (first | (refine And.intro ?_ ?_; rotate_left; (focus (intro g; exfalso; first | (simp at g; done) | (simp at g; omega) | (revert g; decide))); intro _; conv => whnf) | (refine And.intro ?_ ?_; (focus (intro g; exfalso; first | (simp at g; done) | (simp at g; omega) | (revert g; decide))); intro _; conv => whnf))
                refine ⟨trivial, CallAt.pure (fun R' hR' => hsc R') ?_⟩
                conv => whnf
                repeat (first | (refine And.intro ?_ ?_; rotate_left; (focus (intro g; exfalso; first | (simp at g; done) | (simp at g; omega) | (revert g; decide))); intro _; conv => whnf) | (refine And.intro ?_ ?_; (focus (intro g; exfalso; first | (simp at g; done) | (simp at g; omega) | (revert g; decide))); intro _; conv => whnf))
                refine ⟨?_, CallAt.pure (fun R' hR' => hsc2 R') ?_⟩
                · repeat' apply And.intro
                  all_goals first | exact True.intro | (unfold rng; omega) | omega
                conv => whnf
                repeat (first | (refine And.intro ?_ ?_; rotate_left; (focus (intro g; exfalso; first | (simp at g; done) | (simp at g; omega) | (revert g; decide))); intro _; conv => whnf) | (refine And.intro ?_ ?_; (focus (intro g; exfalso; first | (simp at g; done) | (simp at g; omega) | (revert g; decide))); intro _; conv => whnf))
                refine ⟨trivial, CallAt.fn (pre := []) _ (fun h s => s) (fun R' hR' => hbad1 R' (hNW R' fun w s => (hR' w s).rest)) ?_⟩
                rintro r hs ⟨rfl, rfl⟩
                conv => whnf
                refine ⟨trivial, CallAt.pure (fun R' hR' => hbad2 R') ?_⟩
                conv => whnf
                repeat (first | (refine And.intro ?_ ?_; rotate_left; (focus (intro g; exfalso; first | (simp at g; done) | (simp at g; omega) | (revert g; decide))); intro _; conv => whnf) | (refine And.intro ?_ ?_; (focus (intro g; exfalso; first | (simp at g; done) | (simp at g; omega) | (revert g; decide))); intro _; conv => whnf))
                exact ⟨trivial, fin_drop (by simp [mkRes])⟩
            · rcases hP2' with p0 | ⟨p0, p1⟩ | ⟨p0, p1⟩
              · refine fn_of_run0 false Tryz.func4 rfl hmix rfl fun w0 => ?_
                conv => whnf
                refine ⟨trivial, CallAt.pure (fun R' hR' => haw R' hR') ?_⟩
                conv => whnf
                refine iff_f rfl ?_
                conv => whnf
                repeat (first | (refine And.intro ?_ ?_; rotate_left; (focus (intro g; exfalso; first | (simp at g; done) | (simp at g; omega) | (revert g; decide))); intro _; conv => whnf) | (refine And.intro ?_ ?_; (focus (intro g; exfalso; first | (simp at g; done) | (simp at g; omega) | (revert g; decide))); intro _; conv => whnf))
                refine ⟨trivial, CallAt.pure (fun R' hR' => hsc R') ?_⟩
                conv => whnf
                repeat (first | (refine And.intro ?_ ?_; rotate_left; (focus (intro g; exfalso; first | (simp at g; done) | (simp at g; omega) | (revert g; decide))); intro _; conv => whnf) | (refine And.intro ?_ ?_; (focus (intro g; exfalso; first | (simp at g; done) | (simp at g; omega) | (revert g; decide))); intro _; conv => whnf))
                refine ⟨?_, CallAt.pure (fun R' hR' => hsc2 R') ?_⟩
                · repeat' apply And.intro
                  all_goals first | exact True.intro | (unfold rng; omega) | omega
                conv => whnf
                repeat (first | (refine And.intro ?_ ?_; rotate_left; (focus (intro g; exfalso; first | (simp at g; done) | (simp at g; omega) | (revert g; decide))); intro _; conv => whnf) | (refine And.intro ?_ ?_; (focus (intro g; exfalso; first | (simp at g; done) | (simp at g; omega) | (revert g; decide))); intro _; conv => whnf))
                refine ⟨trivial, CallAt.fn (pre := []) _ (fun h s => s) (fun R' hR' => hbad1 R' (hNW R' fun w s => (hR' w s).rest)) ?_⟩
                rintro r hs ⟨rfl, rfl⟩
                conv => whnf
                refine ⟨trivial, CallAt.pure (fun R' hR' => hbad2 R') ?_⟩
                conv => whnf
                repeat (first | (refine And.intro ?_ ?_; rotate_left; (focus (intro g; exfalso; first | (simp at g; done) | (simp at g; omega) | (revert g; decide))); intro _; conv => whnf) | (refine And.intro ?_ ?_; (focus (intro g; exfalso; first | (simp at g; done) | (simp at g; omega) | (revert g; decide))); intro _; conv => whnf))
                exact ⟨trivial, fin_drop (by simp [mkRes])⟩
              · refine fn_of_run0 false Tryz.func4 rfl hmix rfl fun w0 => ?_
                conv => whnf
                refine ⟨trivial, CallAt.pure (fun R' hR' => haw R' hR') ?_⟩
                conv => whnf
                refine iff_f rfl ?_
                conv => whnf
                repeat (first | (refine And.intro ?_ ?_; rotate_left; (focus (intro g; exfalso; first | (simp at g; done) | (simp at g; omega) | (revert g; decide))); intro _; conv => whnf) | (refine And.intro ?_ ?_; (focus (intro g; exfalso; first | (simp at g; done) | (simp at g; omega) | (revert g; decide))); intro _; conv => whnf))
                refine ⟨trivial, CallAt.pure (fun R' hR' => hsc R') ?_⟩
                conv => whnf
                repeat (first | (refine And.intro ?_ ?_; rotate_left; (focus (intro g; exfalso; first | (simp at g; done) | (simp at g; omega) | (revert g; decide))); intro _; conv => whnf) | (refine And.intro ?_ ?_; (focus (intro g; exfalso; first | (simp at g; done) | (simp at g; omega) | (revert g; decide))); intro _; conv => whnf))
                refine ⟨?_, CallAt.pure (fun R' hR' => hsc2 R') ?_⟩
                · repeat' apply And.intro
                  all_goals first | exact True.intro | (unfold rng; omega) | omega
                conv => whnf
                repeat (first | (refine And.intro ?_ ?_; rotate_left; (focus (intro g; exfalso; first | (simp at g; done) | (simp at g; omega) | (revert g; decide))); intro _; conv => whnf) | (refine And.intro ?_ ?_; (focus (intro g; exfalso; first | (simp at g; done) | (simp at g; omega) | (revert g; decide))); intro _; conv => whnf))
                refine ⟨trivial, CallAt.fn (pre := []) _ (fun h s => s) (fun R' hR' => hbad1 R' (hNW R' fun w s => (hR' w s).rest)) ?_⟩
                rintro r hs ⟨rfl, rfl⟩
                conv => whnf
                refine ⟨trivial, CallAt.pure (fun R' hR' => hbad2 R') ?_⟩
                conv => whnf
                repeat (first | (refine And.intro ?_ ?_; rotate_left; (focus (intro g; exfalso; first | (simp at g; done) | (simp at g; omega) | (revert g; decide))); intro _; conv => whnf) | (refine And.intro ?_ ?_; (focus (intro g; exfalso; first | (simp at g; done) | (simp at g; omega) | (revert g; decide))); intro _; conv => whnf))
                exact ⟨trivial, fin_drop (by simp [mkRes])⟩
              · refine fn_of_run0 false Tryz.func4 rfl hmix rfl fun w0 => ?_
                conv => whnf
                refine ⟨trivial, CallAt.pure (fun R' hR' => haw R' hR') ?_⟩
                conv => whnf
                refine iff_f rfl ?_
                conv => whnf
                repeat (first | (refine And.intro ?_ ?_; rotate_left; (focus (intro g; exfalso; first | (simp at g; done) | (simp at g; omega) | (revert g; decide))); intro _; conv => whnf) | (refine And.intro ?_ ?_; (focus (intro g; exfalso; first | (simp at g; done) | (simp at g; omega) | (revert g; decide))); intro _; conv => whnf))
                refine ⟨trivial, CallAt.pure (fun R' hR' => hsc R') ?_⟩
                conv => whnf
                repeat (first | (refine And.intro ?_ ?_; rotate_left; (focus (intro g; exfalso; first | (simp at g; done) | (simp at g; omega) | (revert g; decide))); intro _; conv => whnf) | (refine And.intro ?_ ?_; (focus (intro g; exfalso; first | (simp at g; done) | (simp at g; omega) | (revert g; decide))); intro _; conv => whnf))
                refine ⟨?_, CallAt.pure (fun R' hR' => hsc2 R') ?_⟩
                · repeat' apply And.intro
                  all_goals first | exact True.intro | (unfold rng; omega) | omega
                conv => whnf
                repeat (first | (refine And.intro ?_ ?_; rotate_left; (focus (intro g; exfalso; first | (simp at g; done) | (simp at g; omega) | (revert g; decide))); intro _; conv => whnf) | (refine And.intro ?_ ?_; (focus (intro g; exfalso; first | (simp at g; done) | (simp at g; omega) | (revert g; decide))); intro _; conv => whnf))
                refine ⟨trivial, CallAt.fn (pre := []) _ (fun h s => s) (fun R' hR' => hbad1 R' (hNW R' fun w s => (hR' w s).rest)) ?_⟩
                rintro r hs ⟨rfl, rfl⟩
                conv => whnf
                refine ⟨trivial, CallAt.pure (fun R' hR' => hbad2 R') ?_⟩
                conv => whnf
                repeat (first | (refine And.intro ?_ ?_; rotate_left; (focus (intro g; exfalso; first | (simp at g; done) | (simp at g; omega) | (revert g; decide))); intro _; conv => whnf) | (refine And.intro ?_ ?_; (focus (intro g; exfalso; first | (simp at g; done) | (simp at g; omega) | (revert g; decide))); intro _; conv => whnf))
                exact ⟨trivial, fin_drop (by simp [mkRes])⟩
          · obtain ⟨W, H, m, t, ⟨k1, k2, s1, s2⟩, ⟨w1, w2, g1, g2⟩, hm6, hS, htx, hpl, hcan, hgood1, hgood2⟩ := hgood
            obtain ⟨i1, rfl, a1, _⟩ := sideV_some (Nat.zero_le _) s1
            have a1 : scan l 0 = ((W : Int), (i1 : Int), 0) := a1
            rw [hx] at a1
            injection a1 with a1 a2
            injection a2 with a2 _
            obtain rfl : i = i1 := by omega
            obtain ⟨i2, rfl, b1, _⟩ := sideV_some (by omega) s2
            have b1 : scan l ((i : Int) + 1) = ((H : Int), (i2 : Int), 0) := by rw [← b1]; rfl
            rw [hx2] at b1
            injection b1 with b1 b2
            injection b2 with _ b2
            have hn40 : n ≤ 40 := by omega
            have hn2 : n2 ≤ 40 := by omega
            have hq2 : q2 = 0 := b2
            have hpr := fun (R' : HP) (h : ∀ w', Sat R' w' → Sat (was w) w') qb (hq : ∀ w', Sat R' w' → QuadAt w' qb W H t) => sPrintQ (R := R') (fun w' s => (hNW R' h w' s).1) hq (by omega) (by omega) (itoa_len4 (by omega)) (itoa_len4 (by omega)) hpl
            rw [← htx] at hpr
            refine fn_of_run0 false Tryz.func4 rfl hmix rfl fun w0 => ?_
            conv => whnf
            refine ⟨trivial, CallAt.pure (fun R' hR' => haw R' hR') ?_⟩
            conv => whnf
            refine iff_f rfl ?_
            conv => whnf
            repeat (first | (refine And.intro ?_ ?_; rotate_left; (focus (intro g; exfalso; first | (simp at g; done) | (simp at g; omega) | (revert g; decide))); intro _; conv => whnf) | (refine And.intro ?_ ?_; (focus (intro g; exfalso; first | (simp at g; done) | (simp at g; omega) | (revert g; decide))); intro _; conv => whnf))
            refine ⟨trivial, CallAt.pure (fun R' hR' => hsc R') ?_⟩
            conv => whnf
            repeat (first | (refine And.intro ?_ ?_; rotate_left; (focus (intro g; exfalso; first | (simp at g; done) | (simp at g; omega) | (revert g; decide))); intro _; conv => whnf) | (refine And.intro ?_ ?_; (focus (intro g; exfalso; first | (simp at g; done) | (simp at g; omega) | (revert g; decide))); intro _; conv => whnf))
            refine ⟨?_, CallAt.pure (fun R' hR' => hsc2 R') ?_⟩
            · repeat' apply And.intro
              all_goals first | exact True.intro | (unfold rng; omega) | omega
            conv => whnf
            repeat (first | (refine And.intro ?_ ?_; rotate_left; (focus (intro g; exfalso; first | (simp at g; done) | (simp at g; omega) | (revert g; decide))); intro _; conv => whnf) | (refine And.intro ?_ ?_; (focus (intro g; exfalso; first | (simp at g; done) | (simp at g; omega) | (revert g; decide))); intro _; conv => whnf))
            refine ⟨trivial, CallAt.fn (pre := []) _ (fun h s => s) (fun R' hR' => hgood1 R' (hNW R' fun w s => (hR' w s).rest)) ?_⟩
            rintro r hs ⟨q1, rfl, rfl⟩
            conv => whnf
            refine ⟨trivial, CallAt.fn (pre := []) _ (fun h s => s) (fun R' hR' => hgood2 R') ?_⟩
            rintro r hs ⟨b, g, rfl, rfl, hcg, _⟩
            conv => whnf
            repeat (first | (refine And.intro ?_ ?_; rotate_left; (focus (intro g; exfalso; first | (simp at g; done) | (simp at g; omega) | (revert g; decide))); intro _; conv => whnf) | (refine And.intro ?_ ?_; (focus (intro g; exfalso; first | (simp at g; done) | (simp at g; omega) | (revert g; decide))); intro _; conv => whnf))
            refine ⟨trivial, CallAt.pure (fun R' hR' => hpr R' (fun w s => (hR' w s).rest) q1 (fun w s => quadAt_of ((hR' w s).in_ 1 rfl))) ?_⟩
            conv => whnf
            refine ⟨trivial, CallAt.pure (fun R' hR' => sIsQ (fun w s => (hNW R' (fun w s => (hR' w s).rest) w s).1) (qb := q1) (n := m) (l := mkB W H g) (fun w s => by rw [hcg]; exact quadAt_of ((hR' w s).in_ 1 rfl)) ⟨w1, by omega, g1, by omega, mkB_len _ _ _, Sl.row fun w s => (hR' w s).in_ 0 rfl⟩ (by omega) hS (cnt_leaves (mkB_len _ _ _) (by omega) (by omega) hS)) ?_⟩
            conv => whnf
            repeat (first | (refine And.intro ?_ ?_; rotate_left; (focus (intro g; exfalso; first | (simp at g; done) | (simp at g; omega) | (revert g; decide))); intro _; conv => whnf) | (refine And.intro ?_ ?_; (focus (intro g; exfalso; first | (simp at g; done) | (simp at g; omega) | (revert g; decide))); intro _; conv => whnf))
            exact ⟨trivial, fin_drop (by simp [mkRes])⟩
      · have hb : BadAt l := by
          have hno : sideV l 0 = none := by
            unfold sideV
            rw [show scan l ((0 : Nat) : Int) = _ from hx]
            simp only [Int.toNat_natCast]
            rw [if_neg (fun c => he c.2.1)]
          exact ⟨12, by decide, fun R hN => sQReadNo fun R' hR' => sReadA (fun w s => hN w (hR' w s)) hl2 hno, fun R => rReadA hl2 hno⟩
        obtain ⟨ec, hec, hbad1, hbad2⟩ := hb
        rcases hP' with hP' | hP'
        · refine fn_of_run0 false Tryz.func4 rfl hmix rfl fun w0 => ?_
          conv => whnf
          refine ⟨trivial, CallAt.pure (fun R' hR' => haw R' hR') ?_⟩
          conv => whnf
          refine iff_f rfl ?_
          conv => whnf
          repeat (first | (refine And.intro ?_ ?_; rotate_left; (focus (intro g; exfalso; first | (simp at g; done) | (simp at g; omega) | (revert g; decide))); intro _; conv => whnf) | (refine And.intro ?_ ?_; (focus (intro g; exfalso; first | (simp at g; done) | (simp at g; omega) | (revert g; decide))); intro _; conv => whnf))
          refine ⟨trivial, CallAt.pure (fun R' hR' => hsc R') ?_⟩
          conv => whnf
          repeat (first | (refine And.intro ?_ ?_; rotate_left; (focus (intro g; exfalso; first | (simp at g; done) | (simp at g; omega) | (revert g; decide))); intro _; conv => whnf) | (refine And.intro ?_ ?_; (focus (intro g; exfalso; first | (simp at g; done) | (simp at g; omega) | (revert g; decide))); intro _; conv => whnf))
          refine ⟨trivial, CallAt.fn (pre := []) _ (fun h s => s) (fun R' hR' => hbad1 R' (hNW R' fun w s => (hR' w s).rest)) ?_⟩
          rintro r hs ⟨rfl, rfl⟩
          conv => whnf
          refine ⟨trivial, CallAt.pure (fun R' hR' => hbad2 R') ?_⟩
          conv => whnf
          repeat (first | (refine And.intro ?_ ?_; rotate_left; (focus (intro g; exfalso; first | (simp at g; done) | (simp at g; omega) | (revert g; decide))); intro _; conv => whnf) | (refine And.intro ?_ ?_; (focus (intro g; exfalso; first | (simp at g; done) | (simp at g; omega) | (revert g; decide))); intro _; conv => whnf))
          exact ⟨trivial, fin_drop (by simp [mkRes])⟩
        · refine fn_of_run0 false Tryz.func4 rfl hmix rfl fun w0 => ?_
          conv => whnf
          refine ⟨trivial, CallAt.pure (fun R' hR' => haw R' hR') ?_⟩
          conv => whnf
          refine iff_f rfl ?_
          conv => whnf
          repeat (first | (refine And.intro ?_ ?_; rotate_left; (focus (intro g; exfalso; first | (simp at g; done) | (simp at g; omega) | (revert g; decide))); intro _; conv => whnf) | (refine And.intro ?_ ?_; (focus (intro g; exfalso; first | (simp at g; done) | (simp at g; omega) | (revert g; decide))); intro _; conv => whnf))
          refine ⟨trivial, CallAt.pure (fun R' hR' => hsc R') ?_⟩
          conv => whnf
          repeat (first | (refine And.intro ?_ ?_; rotate_left; (focus (intro g; exfalso; first | (simp at g; done) | (simp at g; omega) | (revert g; decide))); intro _; conv => whnf) | (refine And.intro ?_ ?_; (focus (intro g; exfalso; first | (simp at g; done) | (simp at g; omega) | (revert g; decide))); intro _; conv => whnf))
          refine ⟨trivial, CallAt.fn (pre := []) _ (fun h s => s) (fun R' hR' => hbad1 R' (hNW R' fun w s => (hR' w s).rest)) ?_⟩
          rintro r hs ⟨rfl, rfl⟩
          conv => whnf
          refine ⟨trivial, CallAt.pure (fun R' hR' => hbad2 R') ?_⟩
          conv => whnf
          repeat (first | (refine And.intro ?_ ?_; rotate_left; (focus (intro g; exfalso; first | (simp at g; done) | (simp at g; omega) | (revert g; decide))); intro _; conv => whnf) | (refine And.intro ?_ ?_; (focus (intro g; exfalso; first | (simp at g; done) | (simp at g; omega) | (revert g; decide))); intro _; conv => whnf))
          exact ⟨trivial, fin_drop (by simp [mkRes])⟩
  · have hb : BadAt l := by
      have hno : sideV l 0 = none := by
        unfold sideV
        rw [show scan l ((0 : Nat) : Int) = _ from hx]
        rw [if_neg (fun c => hq c.1)]
      exact ⟨12, by decide, fun R hN => sQReadNo fun R' hR' => sReadA (fun w s => hN w (hR' w s)) hl2 hno, fun R => rReadA hl2 hno⟩
    obtain ⟨ec, hec, hbad1, hbad2⟩ := hb
    refine fn_of_run0 false Tryz.func4 rfl hmix rfl fun w0 => ?_
    conv => whnf
    refine ⟨trivial, CallAt.pure (fun R' hR' => haw R' hR') ?_⟩
    conv => whnf
    refine iff_f rfl ?_
    conv => whnf
    repeat (first | (refine And.intro ?_ ?_; rotate_left; (focus (intro g; exfalso; first | (simp at g; done) | (simp at g; omega) | (revert g; decide))); intro _; conv => whnf) | (refine And.intro ?_ ?_; (focus (intro g; exfalso; first | (simp at g; done) | (simp at g; omega) | (revert g; decide))); intro _; conv => whnf))
    refine ⟨trivial, CallAt.pure (fun R' hR' => hsc R') ?_⟩
    conv => whnf
    repeat (first | (refine And.intro ?_ ?_; rotate_left; (focus (intro g; exfalso; first | (simp at g; done) | (simp at g; omega) | (revert g; decide))); intro _; conv => whnf) | (refine And.intro ?_ ?_; (focus (intro g; exfalso; first | (simp at g; done) | (simp at g; omega) | (revert g; decide))); intro _; conv => whnf))
    refine ⟨trivial, CallAt.fn (pre := []) _ (fun h s => s) (fun R' hR' => hbad1 R' (hNW R' fun w s => (hR' w s).rest)) ?_⟩
    rintro r hs ⟨rfl, rfl⟩
    conv => whnf
    refine ⟨trivial, CallAt.pure (fun R' hR' => hbad2 R') ?_⟩
    conv => whnf
    repeat (first | (refine And.intro ?_ ?_; rotate_left; (focus (intro g; exfalso; first | (simp at g; done) | (simp at g; omega) | (revert g; decide))); intro _; conv => whnf) | (refine And.intro ?_ ?_; (focus (intro g; exfalso; first | (simp at g; done) | (simp at g; omega) | (revert g; decide))); intro _; conv => whnf))
    exact ⟨trivial, fin_drop (by simp [mkRes])⟩
end Go.Proofs.YtojlgfkjnkjcmaaGreatDoor

/-
  What the rows' condition on the listed variables gives.
-/
namespace Go.Proofs.YtojlgfkjnkjcmaaGreatDoor
open Go.ChangeShapes Go.WideShapes Go.ChangeAt Go.RowKit Go.Joins Sy
set_option linter.unusedVariables false
set_option linter.unusedSimpArgs false
set_option maxRecDepth 100000
set_option maxHeartbeats 4000000

abbrev L5 : List (String × DataW Unit) := [("math/bits.deBruijn32tab", Rows.laid_math_bits_deBruijn32tab), ("math/bits.deBruijn64tab", Rows.laid_math_bits_deBruijn64tab), ("internal/strconv.uint64pow10", Rows.laid_internal_strconv_uint64pow10), ("strconv.ErrRange", Rows.laid_strconv_ErrRange), ("strconv.ErrSyntax", Rows.laid_strconv_ErrSyntax)]
theorem starN : "*" ++ "errors.errorString" = "*errors.errorString" := by decide
theorem rowN (u : TypeId) (h : Tryz.prog.typeName? 3 u = some "*errors.errorString") : u = 209 :=
  typeName_ptr_named (nm := "errors.errorString") (by rw [starN]; kernel_rfl) (by kernel_rfl) (by decide) u (by rw [starN]; exact h)
theorem numW_of {W : World} (h : laidMet Tryz.prog L5 W) : NumW W := by
  have h3 := h.tail.tail
  have h4 := h3.tail
  have h5 := h4.tail
  refine ⟨?_, ?_, ?_⟩
  · exact Lib.tabIs_of_head (n := 20) (e := 81) (t := 182) (g := 0) (by kernel_rfl) (by kernel_rfl) Tryz.underlying182 Tryz.underlying81 (by kernel_rfl) (by kernel_rfl) h3
  · obtain ⟨a0, s0, hv0, -, -, -⟩ := laid_sentinel (g := 2) (ti := 94) h4 (by kernel_rfl) (by kernel_rfl) Tryz.underlying94 rowN Tryz.underlying209 Tryz.underlying211 rfl rfl Tryz.underlying9 (by kernel_rfl) (by kernel_rfl)
    exact ⟨_, _, hv0⟩
  · obtain ⟨a0, s0, hv0, -, -, -⟩ := laid_sentinel (g := 1) (ti := 94) h5 (by kernel_rfl) (by kernel_rfl) Tryz.underlying94 rowN Tryz.underlying209 Tryz.underlying211 rfl rfl Tryz.underlying9 (by kernel_rfl) (by kernel_rfl)
    exact ⟨_, _, hv0⟩
theorem num_of_laid {W : World} (h : laidMetH Tryz.prog L5 W) : NumW W := by
  rw [MakeChecks.laidMetH_plain _ _ _ (by kernel_rfl)] at h
  exact numW_of h
theorem num_door (os : Os) (args : Array Value) : laidMetH Tryz.prog L5 ((World.doorLaid Tryz.prog 400 os).forCall (fun _ _ => 0) ⟨#[], args, []⟩).memory :=
  laidMetH_of_parts3 (fuel := 8) (laidMet_of_run' 8 (by kernel_rfl) (by kernel_rfl)) (by kernel_rfl) (by kernel_rfl)
/-- in every later world -/
theorem numW_was {W w : World} (h : NumW W) (s : Sat (was W) w) : NumW w := by
  have key : ∀ n cs, W.var? Tryz.prog n = some cs → w.var? Tryz.prog n = some cs := fun n cs e => by
    unfold World.var? at e ⊢
    obtain ⟨g, hg, e⟩ := Option.bind_eq_some_iff.1 e
    rw [hg]
    simp only [Option.bind_some]
    split at e
    · rename_i cs' _ _ hh
      rw [was_ext s hh]
      exact e
    · cases e
  exact ⟨key _ _ h.1, h.2.1.imp fun _ => Exists.imp fun _ => key _ _, h.2.2.imp fun _ => Exists.imp fun _ => key _ _⟩
end Go.Proofs.YtojlgfkjnkjcmaaGreatDoor

/-
  The statement of hachurelaw50.QuadReads: for every input the call returns true, and each argument reads afterwards as it read before. The row's own frame round the walk 'QuadReads_walk'.
-/
namespace Go.Proofs.YtojlgfkjnkjcmaaGreatDoor.quadReadsRow
open Go.Proofs.YtojlgfkjnkjcmaaGreatDoor
open Go.ChangeShapes Go.WideShapes Go.ChangeAt Go.RowKit Go.Joins
set_option linter.unusedVariables false

theorem own : ownKnob Tryz.prog.godebug = none := by kernel_rfl
theorem laidOut : laidOutB Tryz.prog = true := by kernel_rfl


set_option maxRecDepth 100000 in
theorem lifted (os : Os) (started : os.Started) (H : Type) (enc : TypeId × Value → H) :
    ReturnsInHanded {} Tryz.checked os 4 .any (fun w args => (Rows.quadReadsSpec.pre enc Tryz.prog Tryz.f4 [] false w args ∧ laidMetH Tryz.prog L5 w) ∧ sizedMet enc Tryz.prog Tryz.f4 (OpenSpec.ofChange Rows.quadReadsSpec) false w args)
      (Rows.quadReadsSpec.post enc Tryz.prog Tryz.f4 false true false false) := by
  refine returnsInHanded_of_change_and (C := Tryz.checked) (X := fun w _ => laidMetH Tryz.prog L5 w) (fun _ _ _ hh h => h.of_heap hh) own started (by kernel_rfl) Tryz.func4
    (ChangeSpec.witness_shaped (enc := enc) (C := Tryz.checked) (os := os) (X := fun w _ => laidMetH Tryz.prog L5 w) false (World.doorLaid Tryz.prog 400 os) #[.string .empty] 8 rfl (World.shaped_of_RefB (by kernel_rfl) (by kernel_rfl)) (by kernel_rfl) (by kernel_rfl) (by kernel_rfl) (num_door os _)) ?_
  intro W base args ds gs before hval0 hW _ _ hL _
  have hval : ∀ (j : Nat) t v, Tryz.f4.params[j]? = some t → args[j]? = some v → Value.okWide Tryz.prog W .any base t v := hval0
  have hW' := hW
  obtain ⟨p, q, hA0, hV, rfl, hfz, hnd⟩ := hW
  have hA : DataW.TrodAll enc Tryz.prog W 0 (fun _ => true) true Tryz.f4.params.toList args.toList ds p := hA0
  rw [Tryz.params4] at hA hval
  obtain ⟨v0, vs0, d0, ds0, p0, q0, hargs, rfl, rfl, h0, r0⟩ := trodAll_cons hA
  obtain ⟨rfl, rfl, rfl⟩ := trodAll_nil r0
  obtain rfl : args = #[v0] := by cases args; simp_all
  obtain ⟨rfl, rfl⟩ := trodVars_none hV
  have k0 := h0
  have lt0 : ∀ x ∈ p0, x.block < W.heap.size := by obtain ⟨m, hm⟩ := k0; exact DataW.trod_lt m _ _ _ hm
  obtain ⟨s0, rfl, rfl, rfl, w0⟩ := Go.ChangeMaps.open_string Tryz.underlying9 (hval 0 9 v0 rfl rfl) h0
  obtain ⟨l0, rfl⟩ : ∃ l, s0 = Sy.bs l := ⟨_, (Sy.bs_data _).symm⟩
  have b0 : l0.length ≤ maxLen := by simpa using w0
  clear hA0 hval0
  refine (QuadReads_walk l0 W (num_of_laid hL) b0).mono fun e W' ⟨he, bel⟩ => ?_
  subst he
  exact ⟨_, rfl, _, _, _, [], _, [], hW', trodAll_mk1 (shut_bool Tryz.underlying4 _), (trodAll_cons_mk (Below.trod laidOut (by kernel_rfl) (of_decide_eq_true (by kernel_rfl)) k0 bel lt0) trodAll_mk0), rfl, bel.frame _, fun h => by cases h⟩

theorem over : Rows.quadReadsRow.holds Tryz.pinned (OpenSpec.ofChange Rows.quadReadsSpec) :=
  OpenClaim.holds_of_wide 4 Tryz.f4 rfl rfl rfl rfl rfl rfl rfl ⟨rfl, rfl, rfl, rfl, rfl⟩ rfl rfl rfl rfl rfl (by kernel_rfl) Tryz.func4 (by kernel_rfl)
    (of_decide_eq_true (by kernel_rfl)) (by unfold Func.isWrapper; first | (rw [if_pos (by decide +kernel)]; kernel_rfl) | (rw [if_neg (by decide +kernel)]; exact ⟨rfl, rfl⟩))
    (fun os started H enc _ => lifted os started H enc)
end Go.Proofs.YtojlgfkjnkjcmaaGreatDoor.quadReadsRow
namespace Go.Proofs.YtojlgfkjnkjcmaaGreatDoor

theorem quadReads_said : Rows.QuadReadsSaid := quadReadsRow.over
theorem quadReads_holds : Rows.QuadReadsCardSaid :=
  Claim7.holds_tied_plain_at .later [] [.data, .data, .data, .sentinel, .sentinel] true _ true
    quadReads_said (fun _ h => by cases h) (by kernel_rfl) (fun _ h => by cases h) quadReads_row_tie rfl ⟨rfl, rfl⟩ (by kernel_rfl) rfl
    (fun f fn hf hfn => by
      obtain rfl : f = 4 := Option.some.inj ((show Tryz.prog.funcNamed "hachure/hachurelaw50.QuadReads" = some 4 by kernel_rfl).symm.trans hf) |>.symm
      obtain rfl : fn = Tryz.f4 := (Option.some.inj (Tryz.func4.symm.trans hfn)).symm
      exact ⟨by kernel_rfl, fun j t ht => by
        rw [Tryz.params4] at ht
        have hm : t ∈ [9] := by simpa using Array.mem_of_getElem? ht
        have hall : ([9].all fun u => !Tryz.prog.wantsStandIn u) = true := by kernel_rfl
        exact (show Tryz.prog.wantsStandIn t = false by simpa using List.all_eq_true.1 hall t hm)⟩)
    (by kernel_rfl)
#print axioms quadReads_holds
end Go.Proofs.YtojlgfkjnkjcmaaGreatDoor

