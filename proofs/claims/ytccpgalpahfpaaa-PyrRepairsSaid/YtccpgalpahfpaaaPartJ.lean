/-
  Texts of the proofs, one behind the other: RefLvl, DownIs, RLevel, MinMax, Land2, GridSame, DownLevels, DownRow, DownLaw.
-/
import Derived.Test.YtccpgalpahfpaaaPartI
import Derived.Test.YtccpgalpahfpaaaPartA
import Derived.Test.YtccpgalpahfpaaaPartS
/-
  ref16.Span, ref18.mean, ref15.Sizes, law09.Is.
-/
namespace Go.Proofs.Ytccpgalpahfpaaa
open Go.RowKit
open Sy
set_option linter.unusedVariables false
set_option linter.unusedSimpArgs false
set_option maxRecDepth 100000
set_option maxHeartbeats 4000000

theorem of_dt {p : Prop} [Decidable p] (h : decide p = true) : p := of_decide_eq_true h
theorem of_df {p : Prop} [Decidable p] (h : decide p = false) : ¬ p := of_decide_eq_false h
theorem sRSpan {A : Option Addr} {n c : Nat} (W H k x y : Nat) (hs : SizeOk (W : Int) (H : Int)) (hk : k < levN W H) (hx : x < halfN W k) (hy : y < halfN H k) (R : HP) :
    PureR Try.prog R 43 [modV W H A n c, .int .i64 k, cellV x y] (rectV ((x * 2 ^ k : Nat) : Int) ((y * 2 ^ k : Nat) : Int) ((spX1 W k x : Nat) : Int) ((spX1 H k y : Nat) : Int)) := by
  have k10 := lev10 hs hk
  have hp := pow_le k k10
  have hx1 := half_mul hx
  have hy1 := half_mul hy
  have hs' := hs
  unfold SizeOk at hs'
  have lx := (half_le (W := W) (k := k) (by omega)).2
  have ly := (half_le (W := H) (k := k) (by omega)).2
  have bx : (x + 1) * 2 ^ k ≤ 2047 := by rw [Nat.add_mul]; omega
  have by' : (y + 1) * 2 ^ k ≤ 2047 := by rw [Nat.add_mul]; omega
  have ex : (x : Int) * ((2 ^ k : Nat) : Int) = ((x * 2 ^ k : Nat) : Int) := by simp
  have ey : (y : Int) * ((2 ^ k : Nat) : Int) = ((y * 2 ^ k : Nat) : Int) := by simp
  have ex2 : ((x : Int) + 1) * ((2 ^ k : Nat) : Int) = (((x + 1) * 2 ^ k : Nat) : Int) := by simp
  have ey2 : ((y : Int) + 1) * ((2 ^ k : Nat) : Int) = (((y + 1) * 2 ^ k : Nat) : Int) := by simp
  have zx := spX1_Z (W := W) (k := k) (x := x) (by omega)
  have zy := spX1_Z (W := H) (k := k) (x := y) (by omega)
  refine fn_of_run0 false Try.func43 rfl hmix rfl fun w0 => ?_
  conv => whnf
  refine ⟨trivial, LoopAt.keep (α := Nat) [1, 3, 5, 6] (fun i => [(7, .v (.int .i64 ((2 ^ i : Nat) : Int))), (8, .v (.int .i64 (i : Int)))]) (fun i => i ≤ k) (fun i => k - i) 0 (Nat.zero_le _) rfl ⟨⟨rfl, rfl⟩, ⟨rfl, rfl⟩, trivial⟩ ⟨⟨rfl, rfl⟩, ⟨rfl, rfl⟩, ⟨rfl, rfl⟩, ⟨rfl, rfl⟩, trivial⟩ ⟨⟨rfl, rfl, rfl, rfl⟩, ⟨rfl, rfl, rfl, rfl⟩, ⟨rfl, rfl, rfl, rfl⟩, trivial⟩ ?_⟩
  intro i hi
  have hpi := pow_le i (by omega)
  obtain ⟨q, hq⟩ : ∃ q, 2 ^ i = q := ⟨_, rfl⟩
  rw [hq]
  conv => whnf
  refine ⟨fun h2 => ?_, fun h2 => ?_⟩
  · have g2 : i < k := by simpa using h2
    conv => whnf
    refine ⟨⟨⟨trivial, by unfold rng; omega⟩, by unfold rng; omega⟩, Next.keep (i + 1) (by omega) (by omega) ⟨⟨?_, rfl⟩, ⟨rfl, rfl⟩, trivial⟩ ⟨⟨rfl, rfl⟩, ⟨rfl, rfl⟩, ⟨rfl, rfl⟩, ⟨rfl, rfl⟩, trivial⟩ ⟨⟨rfl, rfl, rfl, rfl⟩, ⟨rfl, rfl, rfl, rfl⟩, ⟨rfl, rfl, rfl, rfl⟩, trivial⟩ rfl rfl rfl⟩
    have : 2 * (q : Int) = ((2 ^ (i + 1) : Nat) : Int) := by rw [Nat.pow_succ, hq]; omega
    exact congrArg (fun z => some (SV.v (.int .i64 z))) this
  · have g2 : i = k := by simp at h2; omega
    subst g2
    rw [hq] at hp hx1 hy1 bx by' ex ey ex2 ey2 zx zy ⊢
    have e3 : (x + 1) * q = x * q + q := Nat.add_mul x 1 q |>.trans (by rw [Nat.one_mul])
    have e4 : (y + 1) * q = y * q + q := Nat.add_mul y 1 q |>.trans (by rw [Nat.one_mul])
    conv => whnf
    refine ⟨fun h3 => ?_, fun h3 => ?_⟩
    all_goals
      first | have g3 := of_dt h3 | have g3 := of_df h3
      rw [ex2] at g3
      conv => whnf
      refine ⟨fun h4 => ?_, fun h4 => ?_⟩
      all_goals
        first | have g4 := of_dt h4 | have g4 := of_df h4
        rw [ey2] at g4
        conv => whnf
        refine ⟨?_, fin_pure rfl ?_⟩
        · repeat' apply And.intro
          all_goals first
            | exact True.intro
            | omega
            | (rw [ex]; omega)
            | (rw [ey]; omega)
            | (rw [ex2]; omega)
            | (rw [ey2]; omega)
        · show rectV _ _ _ _ = rectV _ _ _ _
          congr 1 <;> omega
theorem sSizes (W H : Nat) (hs : SizeOk (W : Int) (H : Int)) (R : HP) :
    FnR Try.prog R 34 [.int .i64 W, .int .i64 H] [] fun r hs => ∃ A c, r = .slice A (levN W H) c ∧ hs = [rowH (.slice A (levN W H) c) (levN W H) 24 2 (cel (szs W H (levN W H)))] := by
  intro w s
  refine (rSizes_ok W H w hs).mono ?_
  rintro e w' ⟨A, c, rfl, hown, hb⟩
  exact ⟨_, _, rfl, ⟨A, c, rfl, rfl⟩, sat_row s hb hown, .of_below hb⟩
theorem sRMean {R : HP} {A : Option Addr} {n c : Nat} {l : List Int} (ha : Vs R A n l) (hn : n ≤ 1048576) (h0 : 0 < n) (hm : ∀ v ∈ l, MayV v) : PureR Try.prog R 56 [.slice A n c] (.int .i64 (meanL l)) := by
  refine PureR.of_sat fun w hs => ?_
  obtain ⟨h1, sa⟩ := ha.spot hs
  rcases sa with sa | ⟨b, off, rfl, sa⟩
  · omega
  refine fn_of_run0 true Try.func56 rfl hmix rfl fun w0 => ?_
  conv => whnf
  refine ⟨trivial, LoopAt.keep (α := Nat) [0] (fun k => [(3, .v (.int .i64 (sumL (l.take k)))), (4, .v (.int .i64 (k : Int)))]) (fun k => k ≤ n) (fun k => n - k) 0 (Nat.zero_le _) rfl ⟨⟨rfl, rfl⟩, ⟨rfl, rfl⟩, trivial⟩ ⟨⟨rfl, rfl⟩, trivial⟩ trivial ?_⟩
  intro k hk
  have hb := sumL_bd hm k (by omega)
  conv => whnf
  refine ⟨fun h2 => ?_, fun h2 => ?_⟩
  · have g2 : k < n := by simpa using h2
    have hb2 := sumL_bd hm (k + 1) (by omega)
    rw [List.take_succ_eq_append_getElem (by omega), sumL_snoc] at hb2
    conv => whnf
    refine ⟨⟨trivial, by omega⟩, LoadAt.cell (.int .i64 (l[k]'(by omega))) rfl rfl (fun w hw => sa w hw k (by omega)) ?_⟩
    conv => whnf
    refine ⟨⟨⟨trivial, by unfold rng; omega⟩, by unfold rng; omega⟩, Next.keep (k + 1) (by omega) (by omega) ⟨⟨?_, rfl⟩, ⟨rfl, rfl⟩, trivial⟩ ⟨⟨rfl, rfl⟩, trivial⟩ trivial rfl rfl rfl⟩
    rw [List.take_succ_eq_append_getElem (by omega), sumL_snoc]
    rfl
  · have g2 : k = n := by simp at h2; omega
    subst g2
    have hall : l.take k = l := List.take_of_length_le (by omega)
    rw [hall] at hb ⊢
    have hq := IntWalk.i64_quo' (sumL l) k (by omega)
    have hlen : meanL l = sumL l / (k : Int) := by unfold meanL; rw [h1]
    obtain ⟨f1, f2⟩ := mean_fin (sumL l) k (by omega)
    have q1 : sumL l / (k : Int) * k ≤ sumL l := Int.ediv_mul_le _ (by omega)
    have q2 : sumL l < (sumL l / (k : Int) + 1) * k := Int.lt_ediv_add_one_mul_self _ (by omega)
    have hlo : -2147483648 ≤ sumL l / (k : Int) := Int.le_ediv_of_mul_le (by omega) (by omega)
    have hhi : sumL l / (k : Int) ≤ 2147483647 := Int.le_of_lt_add_one (Int.ediv_lt_of_lt_mul (by omega) (by omega))
    have h0' : sumL l / (k : Int) ≤ (sumL l).tdiv k ∧ (sumL l).tdiv k ≤ sumL l / (k : Int) + 1 := by
      by_cases c : (sumL l).tmod k < 0
      · have := f1 c; omega
      · have := f2 c; omega
    rw [hlen]
    generalize sumL l / (k : Int) = q at *
    rw [Int.add_mul, Int.one_mul] at q2
    conv => whnf
    refine ⟨⟨trivial, by omega, hq⟩, LoopAt.keep (α := Int) [3, 5] (fun m => [(6, .v (.int .i64 m))]) (fun m => q ≤ m ∧ m ≤ q + 1) (fun m => (m - q).toNat) ((sumL l).tdiv k) h0' rfl ⟨⟨rfl, rfl⟩, trivial⟩ ⟨⟨rfl, rfl⟩, ⟨rfl, rfl⟩, trivial⟩ trivial ?_⟩
    intro m hm
    have hm' : m = q ∧ m * k = q * k ∨ m = q + 1 ∧ m * k = q * k + k := by
      rcases (show m = q ∨ m = q + 1 by omega) with e | e
      · exact .inl ⟨e, by rw [e]⟩
      · exact .inr ⟨e, by rw [e, Int.add_mul, Int.one_mul]⟩
    generalize hMK : m * (k : Int) = mk at *
    generalize q * (k : Int) = qk at *
    conv => whnf
    refine ⟨fun h3 => ?_, fun h3 => ?_⟩
    · have g3 : sumL l < m * (k : Int) := of_dt h3
      rw [hMK] at g3
      conv => whnf
      refine ⟨⟨⟨trivial, by rw [hMK]; unfold rng; omega⟩, by unfold rng; omega⟩, Next.keep (m - 1) ⟨by omega, by omega⟩ (by omega) ⟨⟨rfl, rfl⟩, trivial⟩ ⟨⟨rfl, rfl⟩, ⟨rfl, rfl⟩, trivial⟩ trivial rfl rfl rfl⟩
    · have g3 : ¬ sumL l < m * (k : Int) := of_df h3
      rw [hMK] at g3
      conv => whnf
      refine ⟨⟨trivial, by rw [hMK]; unfold rng; omega⟩, fin_pure rfl ?_⟩
      rw [show m = q by omega]
      rfl
end Go.Proofs.Ytccpgalpahfpaaa

/-
  law09.Is; down.Level's refusals.
-/
namespace Go.Proofs.Ytccpgalpahfpaaa
open Go.RowKit
open Sy
set_option linter.unusedVariables false
set_option linter.unusedSimpArgs false
set_option maxRecDepth 100000
set_option maxHeartbeats 4000000

theorem gValAll {R : HP} {gb W H : Nat} {f : Nat → Nat → Int} {l : List Int} (hR : ∀ w, Sat R w → GridAt w gb W H f) (hl : vRows f 0 W 0 H = l) :
    FnR Try.prog R 29 [.pointer (some ⟨gb, 0, none⟩), rectV 0 0 ((W : Int) - 1) ((H : Int) - 1)] [] fun r hs => ∃ A c, r = .tuple #[.slice A l.length c, .int .i64 0] ∧
      hs = [rowH (.slice A l.length c) l.length 2 1 (ints l)] := by
  refine FnR.of_sat fun w hs => ?_
  obtain ⟨w1, w2, h1, h2⟩ := (hR w hs).size
  have := gValues_f hR 0 0 (W - 1) (H - 1) (by omega) (by omega) (by omega) (by omega)
  rw [show W - 1 - 0 + 1 = W by omega, show H - 1 - 0 + 1 = H by omega, hl, show ((W - 1 : Nat) : Int) = (W : Int) - 1 by omega, show ((H - 1 : Nat) : Int) = (H : Int) - 1 by omega] at this
  exact this
theorem sIs {R : HP} {gb W H n c : Nat} {A : Option Addr} {f : Nat → Nat → Int} {l : List Int} (hR : ∀ w, Sat R w → GridAt w gb W H f) (ha : Vs R A n l) (hl : vRows f 0 W 0 H = l) :
    PureR Try.prog R 26 [.pointer (some ⟨gb, 0, none⟩), modV W H A n c] (.bool true) := by
  refine PureR.of_sat fun w hs => ?_
  obtain ⟨w1, w2, h1, h2⟩ := (hR w hs).size
  have hlen : l.length ≤ 1048576 := by rw [← hl, vRows_len]; exact Nat.mul_le_mul h2 w2
  refine fn_of_run0 false Try.func26 rfl hmix rfl fun w0 => ?_
  conv => whnf
  refine ⟨trivial, CallAt.pure (fun R' hR' => gSize_p fun w s => hR w (hR' w s)) ?_⟩
  conv => whnf
  refine ⟨trivial, CallAt.pure (fun R' hR' => gAll_p fun w s => hR w (hR' w s)) ?_⟩
  conv => whnf
  refine ⟨trivial, CallAt.fn (pre := []) _ (fun h s => s) (fun R' hR' => gValAll (fun w s => hR w (hR' w s)) hl) ?_⟩
  rintro r hs ⟨B, d, rfl, rfl⟩
  conv => whnf
  refine ⟨fun _ => ?_, fun h => absurd h (by simp)⟩
  conv => whnf
  refine ⟨fun _ => ?_, fun h => absurd h (by simp)⟩
  conv => whnf
  refine ⟨fun _ => ?_, fun h => absurd h (by simp)⟩
  conv => whnf
  refine ⟨trivial, CallAt.pure (fun R' hR' => sSame (Vs.row fun w s => (hR' w s).in_ 0 rfl) (ha.mono fun w s => (hR' w s).rest) (by omega)) ?_⟩
  conv => whnf
  refine ⟨trivial, .mk [] (fun w ⟨h, hs, s⟩ => ?_) ⟨?_, rfl⟩⟩
  · obtain ⟨h1, e1, s1⟩ := sub_tail s
    exact ⟨h1, hs.mono e1, s1⟩
  · simp [mkRes]
theorem sLevelArg {R : HP} {gb W H : Nat} {f : Nat → Nat → Int} {k how : Int} (hR : ∀ w, Sat R w → GridAt w gb W H f) (hbad : (k < 0 ∨ (levN W H : Int) ≤ k) ∨ (how < 0 ∨ 2 < how)) :
    PureR Try.prog R 24 [.pointer (some ⟨gb, 0, none⟩), .int .i64 k, .int .i64 how] (.tuple #[.pointer none, .int .i64 11]) := by
  refine PureR.of_sat fun w hs => ?_
  obtain ⟨w1, w2, h1, h2⟩ := (hR w hs).size
  have hsz : SizeOk (W : Int) (H : Int) := ⟨by omega, by omega, by omega, by omega⟩
  by_cases hk : k < 0 ∨ (levN W H : Int) ≤ k
  · have hway : ∃ v, ∀ R', PureR Try.prog R' 54 [.int .i64 how] v ∧ (v = .nilFunc ∨ ∃ F, v = .func (.func F) #[] #[]) := by
      rcases (show how = 0 ∨ how = 1 ∨ how = 2 ∨ (how < 0 ∨ 2 < how) by omega) with e | e | e | e
      · subst e; exact ⟨_, fun R' => ⟨sWay0 R', .inr ⟨_, rfl⟩⟩⟩
      · subst e; exact ⟨_, fun R' => ⟨sWay1 R', .inr ⟨_, rfl⟩⟩⟩
      · subst e; exact ⟨_, fun R' => ⟨sWay2 R', .inr ⟨_, rfl⟩⟩⟩
      · exact ⟨_, fun R' => ⟨sWayNo how e R', .inl rfl⟩⟩
    obtain ⟨v, hv⟩ := hway
    refine fn_of_run0 false Try.func24 rfl hmix rfl fun w0 => ?_
    conv => whnf
    refine ⟨trivial, CallAt.pure (fun R' hR' => gSize_p fun w s => hR w (hR' w s)) ?_⟩
    conv => whnf
    refine ⟨trivial, CallAt.pure (fun R' _ => sTSizeArg W H k hsz hk R') ?_⟩
    conv => whnf
    refine ⟨trivial, CallAt.pure (fun R' _ => (hv R').1) ?_⟩
    conv => whnf
    refine ⟨fun h3 => absurd h3 (by decide), fun h3 => ?_⟩
    conv => whnf
    exact ⟨trivial, fin_pure rfl rfl⟩
  · have hh : how < 0 ∨ 2 < how := by rcases hbad with h | h; exact absurd h hk; exact h
    obtain ⟨K, rfl⟩ : ∃ K : Nat, k = K := ⟨k.toNat, by omega⟩
    refine fn_of_run0 false Try.func24 rfl hmix rfl fun w0 => ?_
    conv => whnf
    refine ⟨trivial, CallAt.pure (fun R' hR' => gSize_p fun w s => hR w (hR' w s)) ?_⟩
    conv => whnf
    refine ⟨trivial, CallAt.pure (fun R' _ => sTSize W H K hsz (by omega) R') ?_⟩
    conv => whnf
    refine ⟨trivial, CallAt.pure (fun R' _ => sWayNo how hh R') ?_⟩
    conv => whnf
    refine ⟨fun h3 => ?_, fun h3 => absurd h3 (by decide)⟩
    conv => whnf
    refine iff_t rfl ?_
    conv => whnf
    exact ⟨trivial, fin_pure rfl rfl⟩
end Go.Proofs.Ytccpgalpahfpaaa

/-
  ref18.Level.
-/
namespace Go.Proofs.Ytccpgalpahfpaaa
open Go.RowKit
open Sy
set_option linter.unusedVariables false
set_option linter.unusedSimpArgs false
set_option maxRecDepth 100000
set_option maxHeartbeats 4000000

theorem sSizes2 (W H : Nat) (hs : SizeOk (W : Int) (H : Int)) (R : HP) :
    FnR Try.prog R 34 [.int .i64 W, .int .i64 H] [] fun r hs => ∃ g c, r = .slice (some ⟨g, 0, none⟩) (levN W H) c ∧ hs = [rowH (.slice (some ⟨g, 0, none⟩) (levN W H) c) (levN W H) 24 2 (cel (szs W H (levN W H)))] := by
  intro w s
  refine (sSizes W H hs R w s).mono ?_
  rintro e w' ⟨r, hs, rfl, ⟨A, c, rfl, rfl⟩, s', hw⟩
  obtain ⟨g, rfl, _⟩ := rowH_at (Sat.left s') (by unfold levN; omega)
  exact ⟨_, _, rfl, ⟨g, c, rfl, rfl⟩, s', hw⟩
theorem sz_read {W H g c L k : Nat} {w : World} (s : Sat (rowH (.slice (some ⟨g, 0, none⟩) L c) L 24 2 (cel (szs W H L))) w) (hk : k < L) (hW : 1 ≤ W) (hH : 1 ≤ H) :
    w.cell? ⟨g, k * 2, none⟩ = some (.int .i64 (halfN W k : Nat)) ∧ w.cell? ⟨g, k * 2 + 1, none⟩ = some (.int .i64 (halfN H k : Nat)) := by
  obtain ⟨g', e, hr⟩ := rowH_at s (by omega)
  injection e with e
  injection e with e
  subst e
  have := cel_at (szs W H L) k (by simpa using hk)
  rw [szs_at] at this
  simp only [halfZ_N W k hW, halfZ_N H k hH] at this
  exact ⟨hr _ _ this.1, hr _ _ this.2⟩
def agOf (how : Int) : List Int → Int := if how = 0 then mnL else if how = 1 then mxL else meanL
theorem sRLevel {R : HP} {A : Option Addr} {n c W H k : Nat} {how : Int} {ag : List Int → Int} {l : List Int} (ha : Vs R A n l) (hn : W * H = n) (hm : ∀ v ∈ l, MayV v) (hsz : SizeOk (W : Int) (H : Int)) (hk : k < levN W H) (hh : how = 0 ∧ ag = mnL ∨ how = 1 ∧ ag = mxL ∨ how = 2 ∧ ag = meanL) :
    FnR Try.prog R 25 [modV W H A n c, .int .i64 k, .int .i64 how] [] fun r hs => ∃ B d, r = .tuple #[modV (halfN W k) (halfN H k) B (vRows (lv ag W H k (gv W l)) 0 (halfN W k) 0 (halfN H k)).length d, .int .i64 0] ∧
      hs = [rowH (.slice B (vRows (lv ag W H k (gv W l)) 0 (halfN W k) 0 (halfN H k)).length d) (vRows (lv ag W H k (gv W l)) 0 (halfN W k) 0 (halfN H k)).length 2 1 (ints (vRows (lv ag W H k (gv W l)) 0 (halfN W k) 0 (halfN H k)))] := by
  refine FnR.of_sat fun w hs => ?_
  have hl := (ha.spot hs).1
  clear hs
  have hlev := levN_le hsz
  have hsz' := hsz
  unfold SizeOk at hsz'
  have w1 : 1 ≤ W := by omega
  have w2 : W ≤ 1024 := by omega
  have h1 : 1 ≤ H := by omega
  have h2 : H ≤ 1024 := by omega
  have hmf : ∀ a b, a < W → b < H → MayV (gv W l a b) := fun a b ha hb => by
    unfold gv
    have := idx_lt ha hb
    rw [List.getD_eq_getElem?_getD, List.getElem?_eq_getElem (by rw [hl, ← hn]; exact this)]
    exact hm _ (List.getElem_mem _)
  have lw := half_le (k := k) w1
  have lh := half_le (k := k) h1
  have hszr := fun (g c : Nat) (w : World) s => sz_read (W := W) (H := H) (g := g) (c := c) (w := w) s hk w1 h1
  obtain ⟨LW, hLW⟩ : ∃ LW, halfN W k = LW := ⟨_, rfl⟩
  obtain ⟨LH, hLH⟩ : ∃ LH, halfN H k = LH := ⟨_, rfl⟩
  rw [hLW] at lw hszr
  rw [hLH] at lh hszr
  rw [hLW, hLH]
  have lenB : ∀ j i, j ≤ LH → i ≤ LW → (vA (lv ag W H k (gv W l)) 0 LW 0 j i).length ≤ 1049600 := fun j i hj hi => by
    rw [vA_len]
    have := Nat.mul_le_mul (show j ≤ 1024 by omega) (show LW ≤ 1024 by omega)
    omega
  refine fn_of_run0 false Try.func25 rfl hmix rfl fun w0 => ?_
  conv => whnf
  refine ⟨trivial, CallAt.fn (pre := []) _ (fun h s => s) (fun R' hR' => sSizes2 W H hsz R') ?_⟩
  rintro r hs ⟨sg, sc, rfl, rfl⟩
  conv => whnf
  refine ⟨fun _ => ?_, fun h => absurd h (by simp)⟩
  conv => whnf
  refine ⟨fun _ => ?_, fun h => absurd h (by simp; omega)⟩
  conv => whnf
  refine ⟨fun _ => ?_, fun h => absurd h (by simp; omega)⟩
  conv => whnf
  refine iff_f (by simp; omega) ?_
  conv => whnf
  refine ⟨trivial, RegAt.box 11 9 27 (.tmp 47) hmix (by kernel_rfl) rfl rfl rfl rfl rfl rfl rfl rfl rfl rfl rfl (fun s h => by injection h with h; subst h; rfl) ?_⟩
  conv => whnf
  refine ⟨⟨trivial, by omega⟩, LoadAt.cell (.int .i64 (LW : Int)) rfl rfl (fun w hw => by have := (hszr sg sc w (hw.in_ 0 rfl)).1; simpa using this) ?_⟩
  conv => whnf
  refine ⟨⟨trivial, by omega⟩, LoadAt.cell (.int .i64 (LH : Int)) rfl rfl (fun w hw => by have := (hszr sg sc w (hw.in_ 0 rfl)).2; simpa using this) ?_⟩
  conv => whnf
  refine ⟨trivial, ?_⟩
  conv => whnf
  refine ⟨trivial, LoopAt.of (α := Nat × Option Addr × Nat) [1, 2, 3, 6, 9] (fun a => [(10, .v (.int .i64 (a.1 : Int)))]) (fun a => [(2, 27, [.v (.int .i64 (LW : Int)), .v (.int .i64 (LH : Int)), .v (.slice a.2.1 (vRows (lv ag W H k (gv W l)) 0 LW 0 a.1).length a.2.2)]), (1, 27, [.v (.int .i64 0), .v (.int .i64 0), .v (.slice none 0 0)]), (0, 27, [.v (.int .i64 (W : Int)), .v (.int .i64 (H : Int)), .v (.slice A n c)])]) (fun a => [rowH (.slice a.2.1 (vRows (lv ag W H k (gv W l)) 0 LW 0 a.1).length a.2.2) (vRows (lv ag W H k (gv W l)) 0 LW 0 a.1).length 2 1 (ints (vRows (lv ag W H k (gv W l)) 0 LW 0 a.1))]) (fun a => a.1 ≤ LH) (fun a => LH - a.1) (0, none, 0) (Nat.zero_le _) ?_ ?_⟩
  · exact Le.of (Nat.le_refl _) (Nat.zero_le _) ⟨⟨rfl, rfl⟩, ⟨rfl, rfl⟩, ⟨rfl, rfl⟩, ⟨rfl, rfl⟩, ⟨rfl, rfl⟩, ⟨rfl, rfl⟩, trivial⟩ ⟨⟨rfl, rfl, rfl, rfl⟩, ⟨rfl, rfl, rfl, rfl⟩, ⟨rfl, rfl, rfl, rfl⟩, trivial⟩ fun h s => by
      obtain ⟨h', e, s'⟩ := sub_tail s
      exact ⟨h', e, row_nil _ _ s'⟩
  rintro ⟨j, B, d⟩ hj
  simp only at hj
  conv => whnf
  refine ⟨fun h4 => ?_, fun h4 => ?_⟩
  · have g4 : j < LH := by simpa using h4
    conv => whnf
    refine ⟨trivial, LoopAt.of (α := Nat × Option Addr × Nat) [1, 2, 3, 6, 9, 10] (fun a => [(11, .v (.int .i64 (a.1 : Int)))]) (fun a => [(2, 27, [.v (.int .i64 (LW : Int)), .v (.int .i64 (LH : Int)), .v (.slice a.2.1 (vA (lv ag W H k (gv W l)) 0 LW 0 j a.1).length a.2.2)]), (1, 27, [.v (.int .i64 0), .v (.int .i64 0), .v (.slice none 0 0)]), (0, 27, [.v (.int .i64 (W : Int)), .v (.int .i64 (H : Int)), .v (.slice A n c)])]) (fun a => [rowH (.slice a.2.1 (vA (lv ag W H k (gv W l)) 0 LW 0 j a.1).length a.2.2) (vA (lv ag W H k (gv W l)) 0 LW 0 j a.1).length 2 1 (ints (vA (lv ag W H k (gv W l)) 0 LW 0 j a.1))]) (fun a => a.1 ≤ LW) (fun a => LW - a.1) (0, B, d) (Nat.zero_le _) ?_ ?_⟩
    · exact Le.of (Nat.le_refl _) (Nat.zero_le _) ⟨⟨rfl, rfl⟩, ⟨rfl, rfl⟩, ⟨rfl, rfl⟩, ⟨rfl, rfl⟩, ⟨rfl, rfl⟩, ⟨rfl, rfl⟩, ⟨rfl, rfl⟩, trivial⟩ ⟨⟨by simp [vA, vRow, getO], rfl, rfl, rfl⟩, ⟨rfl, rfl, rfl, rfl⟩, ⟨rfl, rfl, rfl, rfl⟩, trivial⟩ fun h s => sub_same (by simpa [vA, vRow, hd] using s)
    rintro ⟨i, B, d⟩ hi
    simp only at hi
    conv => whnf
    refine ⟨fun h5 => ?_, fun h5 => ?_⟩
    · have g5 : i < LW := by simpa using h5
      have hx : i < halfN W k := by omega
      have hy : j < halfN H k := by omega
      obtain ⟨sx1, sx2⟩ := sp_ok w1 hx
      obtain ⟨sy1, sy2⟩ := sp_ok h1 hy
      have hlen := lenB j i (by omega) (by omega)
      have hsl := spL_len (f := gv W l) w2 h2 w1 h1 hx hy
      have hsm := spL_mem w1 h1 hx hy hmf
      have hval := fun (R' : HP) (hR' : Vs R' A n l) => sRValues (c := c) hR' hn w2 h2 (i * 2 ^ k) (j * 2 ^ k) (spX1 W k i) (spX1 H k j) sx1 sx2 sy1 sy2
      obtain ⟨L, hL⟩ : ∃ L, spL W H k (gv W l) i j = L := ⟨_, rfl⟩
      have hL' : vRows (gv W l) (i * 2 ^ k) (spX1 W k i - i * 2 ^ k + 1) (j * 2 ^ k) (spX1 H k j - j * 2 ^ k + 1) = L := hL
      rw [hL'] at hval
      rw [hL] at hsl hsm
      have hlv : lv ag W H k (gv W l) i j = ag L := by unfold lv; rw [hL]
      conv => whnf
      refine ⟨trivial, RegAt.groups [([.T 0, .T 1, .T 2, .T 3, .T 4, .T 5, .H 6], 7), ([.H 7], 8), ([.T 8, .T 9, .T 10, .T 11], 12), ([.T 12], 13)] hmix (by kernel_rfl) ?_⟩
      conv => whnf
      refine ⟨trivial, CallAt.pure (fun R' hR' => sRSpan W H k i j hsz hk hx hy R') ?_⟩
      conv => whnf
      refine ⟨trivial, ⟨⟨rfl, rfl⟩, fun h s => sub_same s⟩, ?_⟩
      conv => whnf
      refine ⟨trivial, CallAt.fn (pre := []) _ (fun h s => s) (fun R' hR' => hval R' (ha.mono fun w s => (hR' w s).rest)) ?_⟩
      rintro r hs ⟨B2, d2, rfl, rfl⟩
      conv => whnf
      refine ⟨trivial, ?_⟩
      conv => whnf
      refine ⟨trivial, CallAt.pure (fun R' hR' => sRange (Vs.row fun w s => (hR' w s).in_ 0 rfl) (by omega)) ?_⟩
      conv => whnf
      rcases hh with ⟨rfl, rfl⟩ | ⟨rfl, rfl⟩ | ⟨rfl, rfl⟩
      · refine iff_t (by decide) ?_
        conv => whnf
        refine ⟨trivial, OpAt.lit [.int .i64 (mnL L)] 1 rfl rfl rfl rfl rfl (by decide) rfl rfl rfl (by simp [Value.cells]) rfl (by decide) fun g2 => ?_⟩
        conv => whnf
        refine ⟨trivial, OpAt.append (.slice B (vA (lv mnL W H k (gv W l)) 0 LW 0 j i).length d) (vA (lv mnL W H k (gv W l)) 0 LW 0 j i).length 1 8 (ints (vA (lv mnL W H k (gv W l)) 0 LW 0 j i)) [.int .i64 (mnL L)] (some ⟨g2, 0, none⟩) 1 1 _ rfl (fun h s => sepL_pull 2 s) rfl rfl rfl rfl rfl rfl rfl rfl rfl (by decide) (fun w hw => rowH_reads rfl (Sat.left hw)) (ints_one [_]) (by simp only [maxLen]; omega) (by omega) fun B' d' => ?_⟩
        conv => whnf
        refine ⟨⟨trivial, by unfold rng; omega⟩, .mk (i + 1, B', d') (by simp only; omega) (by simp only; omega) ?_⟩
        refine Le.of (Nat.le_of_ble_eq_true rfl) (Nat.zero_le _) ⟨⟨rfl, rfl⟩, ⟨rfl, rfl⟩, ⟨rfl, rfl⟩, ⟨rfl, rfl⟩, ⟨rfl, rfl⟩, ⟨rfl, rfl⟩, ⟨rfl, rfl⟩, trivial⟩ ⟨⟨?_, rfl, rfl, rfl⟩, ⟨rfl, rfl, rfl, rfl⟩, ⟨rfl, rfl, rfl, rfl⟩, trivial⟩ fun h s => ?_
        · rw [vA_next]; simp [getO]
        · obtain ⟨h', e, s'⟩ := sub_drop2 s
          refine ⟨h', e, ?_⟩
          rw [vA_next, ints_append]
          simpa [ints, hlv, hd] using s'
      · refine iff_f (by decide) ?_
        conv => whnf
        refine iff_t (by decide) ?_
        conv => whnf
        refine ⟨trivial, OpAt.lit [.int .i64 (mxL L)] 1 rfl rfl rfl rfl rfl (by decide) rfl rfl rfl (by simp [Value.cells]) rfl (by decide) fun g2 => ?_⟩
        conv => whnf
        refine ⟨trivial, OpAt.append (.slice B (vA (lv mxL W H k (gv W l)) 0 LW 0 j i).length d) (vA (lv mxL W H k (gv W l)) 0 LW 0 j i).length 1 8 (ints (vA (lv mxL W H k (gv W l)) 0 LW 0 j i)) [.int .i64 (mxL L)] (some ⟨g2, 0, none⟩) 1 1 _ rfl (fun h s => sepL_pull 2 s) rfl rfl rfl rfl rfl rfl rfl rfl rfl (by decide) (fun w hw => rowH_reads rfl (Sat.left hw)) (ints_one [_]) (by simp only [maxLen]; omega) (by omega) fun B' d' => ?_⟩
        conv => whnf
        refine ⟨⟨trivial, by unfold rng; omega⟩, .mk (i + 1, B', d') (by simp only; omega) (by simp only; omega) ?_⟩
        refine Le.of (Nat.le_of_ble_eq_true rfl) (Nat.zero_le _) ⟨⟨rfl, rfl⟩, ⟨rfl, rfl⟩, ⟨rfl, rfl⟩, ⟨rfl, rfl⟩, ⟨rfl, rfl⟩, ⟨rfl, rfl⟩, ⟨rfl, rfl⟩, trivial⟩ ⟨⟨?_, rfl, rfl, rfl⟩, ⟨rfl, rfl, rfl, rfl⟩, ⟨rfl, rfl, rfl, rfl⟩, trivial⟩ fun h s => ?_
        · rw [vA_next]; simp [getO]
        · obtain ⟨h', e, s'⟩ := sub_drop2 s
          refine ⟨h', e, ?_⟩
          rw [vA_next, ints_append]
          simpa [ints, hlv, hd] using s'
      · refine iff_f (by decide) ?_
        conv => whnf
        refine iff_f (by decide) ?_
        conv => whnf
        refine ⟨trivial, RegAt.groups [([.T 0, .T 1, .T 2, .H 3, .H 4], 5), ([.H 5], 6), ([.T 6], 7), ([.H 7], 8)] hmix (by kernel_rfl) ?_⟩
        conv => whnf
        refine ⟨trivial, CallAt.pure (fun R' hR' => sRMean (Vs.row fun w s => (hR' w s).in_ 0 rfl) hsl.2 hsl.1 hsm) ?_⟩
        conv => whnf
        refine ⟨trivial, ⟨⟨rfl, rfl⟩, fun h s => sub_same s⟩, ?_⟩
        conv => whnf
        refine ⟨trivial, OpAt.lit [.int .i64 (meanL L)] 1 rfl rfl rfl rfl rfl (by decide) rfl rfl rfl (by simp [Value.cells]) rfl (by decide) fun g2 => ?_⟩
        conv => whnf
        refine ⟨trivial, ⟨⟨rfl, rfl⟩, fun h s => sub_tail s⟩, ?_⟩
        conv => whnf
        refine ⟨trivial, OpAt.append (.slice B (vA (lv meanL W H k (gv W l)) 0 LW 0 j i).length d) (vA (lv meanL W H k (gv W l)) 0 LW 0 j i).length 1 8 (ints (vA (lv meanL W H k (gv W l)) 0 LW 0 j i)) [.int .i64 (meanL L)] (some ⟨g2, 0, none⟩) 1 1 _ rfl (fun h s => sepL_pull 2 s) rfl rfl rfl rfl rfl rfl rfl rfl rfl (by decide) (fun w hw => rowH_reads rfl (Sat.left hw)) (ints_one [_]) (by simp only [maxLen]; omega) (by omega) fun B' d' => ?_⟩
        conv => whnf
        refine ⟨trivial, ?_⟩
        conv => whnf
        refine ⟨⟨trivial, by unfold rng; omega⟩, .mk (i + 1, B', d') (by simp only; omega) (by simp only; omega) ?_⟩
        refine Le.of (Nat.le_of_ble_eq_true rfl) (Nat.zero_le _) ⟨⟨rfl, rfl⟩, ⟨rfl, rfl⟩, ⟨rfl, rfl⟩, ⟨rfl, rfl⟩, ⟨rfl, rfl⟩, ⟨rfl, rfl⟩, ⟨rfl, rfl⟩, trivial⟩ ⟨⟨?_, rfl, rfl, rfl⟩, ⟨rfl, rfl, rfl, rfl⟩, ⟨rfl, rfl, rfl, rfl⟩, trivial⟩ fun h s => ?_
        · rw [vA_next]; simp [getO]
        · obtain ⟨h', e, s'⟩ := sub_drop2 s
          refine ⟨h', e, ?_⟩
          rw [vA_next, ints_append]
          simpa [ints, hlv, hd] using s'
    · have g5 : i = LW := by simp at h5; omega
      subst g5
      conv => whnf
      refine ⟨⟨trivial, by unfold rng; omega⟩, .mk (j + 1, B, d) (by simp only; omega) (by simp only; omega) ?_⟩
      refine Le.of (Nat.le_of_ble_eq_true rfl) (Nat.zero_le _) ⟨⟨rfl, rfl⟩, ⟨rfl, rfl⟩, ⟨rfl, rfl⟩, ⟨rfl, rfl⟩, ⟨rfl, rfl⟩, ⟨rfl, rfl⟩, trivial⟩ ⟨⟨?_, rfl, rfl, rfl⟩, ⟨rfl, rfl, rfl, rfl⟩, ⟨rfl, rfl, rfl, rfl⟩, trivial⟩ fun h s => ?_
      · rw [vRows_succ]; rfl
      · rw [vRows_succ]; exact sub_same s
  · have g4 : j = LH := by simp at h4; omega
    subst g4
    conv => whnf
    exact ⟨trivial, .mk _ (fun w s => s) ⟨B, d, rfl, rfl⟩⟩
end Go.Proofs.Ytccpgalpahfpaaa

/-
  The least and the greatest of a list: they are in it, and none is below or above.
-/
namespace Go.Proofs.Ytccpgalpahfpaaa
open Go.RowKit
open Sy
set_option linter.unusedVariables false
set_option linter.unusedSimpArgs false
set_option maxRecDepth 100000
set_option maxHeartbeats 4000000

theorem foldl_min_mem : ∀ (l : List Int) (a : Int), l.foldl min a = a ∨ l.foldl min a ∈ l
  | [], a => .inl rfl
  | b :: l, a => by
    simp only [List.foldl_cons, List.mem_cons]
    rcases foldl_min_mem l (min a b) with h | h
    · rw [h]
      rcases (show min a b = a ∨ min a b = b by omega) with e | e
      · exact .inl e
      · exact .inr (.inl e)
    · exact .inr (.inr h)
theorem foldl_min_le : ∀ (l : List Int) (a : Int), l.foldl min a ≤ a ∧ ∀ v ∈ l, l.foldl min a ≤ v
  | [], a => ⟨Int.le_refl _, by simp⟩
  | b :: l, a => by
    simp only [List.foldl_cons, List.mem_cons]
    obtain ⟨h1, h2⟩ := foldl_min_le l (min a b)
    refine ⟨by omega, fun v hv => ?_⟩
    rcases hv with rfl | hv
    · omega
    · exact h2 v hv
theorem foldl_max_mem : ∀ (l : List Int) (a : Int), l.foldl max a = a ∨ l.foldl max a ∈ l
  | [], a => .inl rfl
  | b :: l, a => by
    simp only [List.foldl_cons, List.mem_cons]
    rcases foldl_max_mem l (max a b) with h | h
    · rw [h]
      rcases (show max a b = a ∨ max a b = b by omega) with e | e
      · exact .inl e
      · exact .inr (.inl e)
    · exact .inr (.inr h)
theorem foldl_max_le : ∀ (l : List Int) (a : Int), a ≤ l.foldl max a ∧ ∀ v ∈ l, v ≤ l.foldl max a
  | [], a => ⟨Int.le_refl _, by simp⟩
  | b :: l, a => by
    simp only [List.foldl_cons, List.mem_cons]
    obtain ⟨h1, h2⟩ := foldl_max_le l (max a b)
    refine ⟨by omega, fun v hv => ?_⟩
    rcases hv with rfl | hv
    · omega
    · exact h2 v hv
theorem mnL_mem : ∀ {l : List Int}, l ≠ [] → mnL l ∈ l
  | [], h => absurd rfl h
  | a :: l, _ => by
    unfold mnL
    show l.foldl min a ∈ a :: l
    rcases foldl_min_mem l a with h | h
    · rw [h]; exact List.mem_cons_self
    · exact List.mem_cons_of_mem _ h
theorem mxL_mem : ∀ {l : List Int}, l ≠ [] → mxL l ∈ l
  | [], h => absurd rfl h
  | a :: l, _ => by
    unfold mxL
    show l.foldl max a ∈ a :: l
    rcases foldl_max_mem l a with h | h
    · rw [h]; exact List.mem_cons_self
    · exact List.mem_cons_of_mem _ h
theorem mnL_le : ∀ {l : List Int} {v : Int}, v ∈ l → mnL l ≤ v
  | a :: l, v, h => by
    unfold mnL
    obtain ⟨h1, h2⟩ := foldl_min_le l a
    rcases List.mem_cons.1 h with rfl | h
    · exact h1
    · exact h2 v h
theorem le_mxL : ∀ {l : List Int} {v : Int}, v ∈ l → v ≤ mxL l
  | a :: l, v, h => by
    unfold mxL
    obtain ⟨h1, h2⟩ := foldl_max_le l a
    rcases List.mem_cons.1 h with rfl | h
    · exact h1
    · exact h2 v h
theorem mnL_eq {l : List Int} {m : Int} (h : m ∈ l) (hl : ∀ v ∈ l, m ≤ v) : mnL l = m := by
  have h1 := mnL_le h
  have h2 := hl _ (mnL_mem (List.ne_nil_of_mem h))
  omega
theorem mxL_eq {l : List Int} {m : Int} (h : m ∈ l) (hl : ∀ v ∈ l, v ≤ m) : mxL l = m := by
  have h1 := le_mxL h
  have h2 := hl _ (mxL_mem (List.ne_nil_of_mem h))
  omega
theorem mn_may {l : List Int} (h0 : l ≠ []) (h : ∀ v ∈ l, MayV v) : MayV (mnL l) := h _ (mnL_mem h0)
theorem mx_may {l : List Int} (h0 : l ≠ []) (h : ∀ v ∈ l, MayV v) : MayV (mxL l) := h _ (mxL_mem h0)
/-- which cells of the grid a cell of a level stands for -/
theorem mem_spL {W H k x y : Nat} {f : Nat → Nat → Int} (hW : 1 ≤ W) (hH : 1 ≤ H) (hx : x < halfN W k) (hy : y < halfN H k) (v : Int) : v ∈ spL W H k f x y ↔ ∃ a b, a < W ∧ b < H ∧ a / 2 ^ k = x ∧ b / 2 ^ k = y ∧ f a b = v := by
  obtain ⟨sx1, sx2⟩ := sp_ok hW hx
  obtain ⟨sy1, sy2⟩ := sp_ok hH hy
  have hq := pow_pos' k
  unfold spX1 at sx1 sx2 sy1 sy2
  simp only [spL, spX1, vRows, vRow, List.mem_flatMap, List.mem_map, List.mem_range]
  generalize 2 ^ k = q at *
  constructor
  · rintro ⟨j, hj, i, hi, rfl⟩
    refine ⟨x * q + i, y * q + j, by omega, by omega, ?_, ?_, rfl⟩
    · rw [Nat.mul_comm, Nat.mul_add_div hq, Nat.div_eq_of_lt]
      · omega
      · rw [Nat.add_mul] at hi; omega
    · rw [Nat.mul_comm, Nat.mul_add_div hq, Nat.div_eq_of_lt]
      · omega
      · rw [Nat.add_mul] at hj; omega
  · rintro ⟨a, b, ha, hb, rfl, rfl, rfl⟩
    have e1 : a / q * q + a % q = a := by rw [Nat.mul_comm]; exact Nat.div_add_mod a q
    have e2 : b / q * q + b % q = b := by rw [Nat.mul_comm]; exact Nat.div_add_mod b q
    have m1 : a % q < q := Nat.mod_lt _ hq
    have m2 : b % q < q := Nat.mod_lt _ hq
    refine ⟨b % q, ?_, a % q, ?_, by rw [e1, e2]⟩
    · rw [Nat.add_mul]; omega
    · rw [Nat.add_mul]; omega
end Go.Proofs.Ytccpgalpahfpaaa

/-
  law09.Land (as in XPilot); ref18.Level.
-/
namespace Go.Proofs.Ytccpgalpahfpaaa
open Go.RowKit
open Sy
set_option linter.unusedVariables false
set_option linter.unusedSimpArgs false
set_option maxRecDepth 100000
set_option maxHeartbeats 4000000

def LandOk (W H most : Int) (n : Nat) (l : List Int) : Prop := 1 ≤ W ∧ 1 ≤ H ∧ W ≤ most ∧ H ≤ most ∧ W * H ≤ most ∧ W * H = n ∧ ∀ v ∈ l, MayV v
instance (W H most : Int) (n : Nat) (l : List Int) : Decidable (LandOk W H most n l) := by unfold LandOk MayV; infer_instance

theorem sLand {R : HP} (W H most : Int) {A : Option Addr} {n c : Nat} {l : List Int} (ha : Vs R A n l) (hm : most ≤ 4096) (hn : n ≤ 9223372036854775807) :
    PureR Try.prog R 12 [.int .i64 W, .int .i64 H, .slice A n c, .int .i64 most]
      (if LandOk W H most n l then .tuple #[.agg #[.int .i64 W, .int .i64 H, .slice A n c], .bool true] else .tuple #[.agg #[.int .i64 0, .int .i64 0, .slice none 0 0], .bool false]) := by
  refine PureR.of_sat fun w hs => ?_
  obtain ⟨hl, sa⟩ := ha.spot hs
  have no : ∀ {r : Value}, r = .tuple #[.agg #[.int .i64 0, .int .i64 0, .slice none 0 0], .bool false] → ¬ LandOk W H most n l → r = (if LandOk W H most n l then .tuple #[.agg #[.int .i64 W, .int .i64 H, .slice A n c], .bool true] else .tuple #[.agg #[.int .i64 0, .int .i64 0, .slice none 0 0], .bool false]) := fun e h => by rw [if_neg h]; exact e
  refine fn_of_run0 false Try.func12 rfl hmix rfl fun w0 => ?_
  conv => whnf
  refine ⟨fun h1 => ?_, fun h1 => ?_⟩
  rotate_left
  · conv => whnf
    exact ⟨trivial, fin_pure rfl (no rfl (by rintro ⟨a, _⟩; simp at h1; omega))⟩
  have g1 := of_decide_eq_false h1
  conv => whnf
  refine ⟨fun h2 => ?_, fun h2 => ?_⟩
  rotate_left
  · conv => whnf
    exact ⟨trivial, fin_pure rfl (no rfl (by rintro ⟨_, a, _⟩; simp at h2; omega))⟩
  have g2 := of_decide_eq_false h2
  conv => whnf
  refine ⟨fun h3 => ?_, fun h3 => ?_⟩
  rotate_left
  · conv => whnf
    exact ⟨trivial, fin_pure rfl (no rfl (by rintro ⟨_, _, a, _⟩; simp at h3; omega))⟩
  have g3 := of_decide_eq_false h3
  conv => whnf
  refine ⟨fun h4 => ?_, fun h4 => ?_⟩
  rotate_left
  · conv => whnf
    exact ⟨trivial, fin_pure rfl (no rfl (by rintro ⟨_, _, _, a, _⟩; simp at h4; omega))⟩
  have g4 := of_decide_eq_false h4
  have hR0 : 0 ≤ W * H := Int.mul_nonneg (by omega) (by omega)
  have hRp : 0 < W * H := Int.mul_pos (by omega) (by omega)
  have hR1 : rng .i64 (W * H) := by
    have a1 : W * H ≤ 4096 * 4096 := Int.mul_le_mul (by omega) (by omega) (by omega) (by omega)
    exact ⟨by omega, by omega⟩
  conv => whnf
  refine ⟨fun h5 => ?_, fun h5 => ?_⟩
  rotate_left
  · conv => whnf
    exact ⟨⟨trivial, hR1⟩, fin_pure rfl (no rfl (by rintro ⟨_, _, _, _, a, _⟩; simp at h5; omega))⟩
  have g5 := of_decide_eq_false h5
  conv => whnf
  refine ⟨fun h6 => ?_, fun h6 => ?_⟩
  · conv => whnf
    exact ⟨⟨⟨trivial, hR1⟩, hR1⟩, fin_pure rfl (no rfl (by rintro ⟨_, _, _, _, _, a, _⟩; simp at h6; omega))⟩
  have g6 : (n : Int) = W * H := by simpa using h6
  rcases sa with sa | ⟨b, off, rfl, sa⟩
  · omega
  conv => whnf
  refine ⟨⟨⟨trivial, hR1⟩, hR1⟩, ?_⟩
  refine LoopAt.keep (α := Nat) [0, 1, 2, 8] (fun k => [(10, .v (.int .i64 (k : Int)))]) (fun k => k ≤ n ∧ ∀ v ∈ l.take k, MayV v) (fun k => n - k) 0 ⟨Nat.zero_le _, by simp⟩ rfl ⟨⟨rfl, rfl⟩, trivial⟩ ⟨⟨rfl, rfl⟩, ⟨rfl, rfl⟩, ⟨rfl, rfl⟩, ⟨rfl, rfl⟩, trivial⟩ ⟨⟨rfl, rfl, rfl, rfl⟩, trivial⟩ ?_
  rintro k ⟨hk, hmay⟩
  conv => whnf
  refine ⟨fun h7 => ?_, fun h7 => ?_⟩
  · have g7 : k < n := by simpa using h7
    conv => whnf
    refine ⟨⟨trivial, by omega⟩, LoadAt.cell (.int .i64 (l[k]'(by omega))) rfl rfl (fun w hw => ?_) ?_⟩
    · exact sa w hw k (by omega)
    conv => whnf
    refine ⟨trivial, CallAt.pure (fun R' hR' => sMay _ R') ?_⟩
    conv => whnf
    refine ⟨fun h8 => ?_, fun h8 => ?_⟩
    · conv => whnf
      have g8 : ¬ MayV (l[k]'(by omega)) := by simpa using h8
      exact ⟨trivial, fin_pure rfl (no rfl (by rintro ⟨_, _, _, _, _, _, a⟩; exact g8 (a _ (List.getElem_mem _))))⟩
    · have g8 : MayV (l[k]'(by omega)) := by simpa using h8
      conv => whnf
      refine ⟨⟨trivial, by unfold rng; omega⟩, Next.keep (k + 1) ⟨by omega, ?_⟩ (by omega) ⟨⟨rfl, rfl⟩, trivial⟩ ⟨⟨rfl, rfl⟩, ⟨rfl, rfl⟩, ⟨rfl, rfl⟩, ⟨rfl, rfl⟩, trivial⟩ ⟨⟨rfl, rfl, rfl, rfl⟩, trivial⟩ rfl rfl rfl⟩
      rw [List.take_succ_eq_append_getElem (by omega)]
      intro v hv
      rcases List.mem_append.1 hv with hv | hv
      · exact hmay v hv
      · have : v = l[k]'(by omega) := by simpa using hv
        rw [this]; exact g8
  · have g7 : n ≤ k := by simpa using h7
    conv => whnf
    refine ⟨trivial, fin_pure rfl ?_⟩
    rw [if_pos ⟨by omega, by omega, by omega, by omega, by omega, by omega, fun v hv => hmay v (by rw [List.take_of_length_le (by omega)]; exact hv)⟩]
    rfl

/-- what a caller's slice shows -/
theorem ints_of {w : World} {x : Addr} {len cap : Nat} {zs : List Int} (hl : len ≤ cap) (hz : zs.length = cap) (hcell : ∀ i, i < zs.length → w.cell? (x.add i) = some (.int .i64 (zs.getD i 0))) : ∃ l, Reads w w.heap.size 1 (some x) len (ints l) := by
  refine ⟨zs.take len, ?_, fun hn => ⟨x, rfl, ?_, fun j u hu => ?_⟩⟩
  · simp [ints]; omega
  · have h := hcell 0 (by omega)
    rcases Nat.lt_or_ge x.block w.heap.size with hlt | hge
    · exact hlt
    · have : (x.add 0).block = x.block := add_block x 0
      simp [World.cell?, this, Array.getElem?_eq_none hge] at h
  · have hj : j < len := by
      have := (List.getElem?_eq_some_iff.1 hu).1
      simp [ints] at this; omega
    rw [hcell j (by omega)]
    rw [ints_at _ j (by simp; omega)] at hu
    rw [← hu]
    simp [List.getElem_take, List.getD, List.getElem?_eq_getElem (show j < zs.length by omega)]
theorem vs_of_reads {w : World} {A : Option Addr} {n : Nat} {l : List Int} (h : Reads w w.heap.size 1 A n (ints l)) : Vs (was w) A n l := by
  intro w' s
  have ext : ∀ i, i < w.heap.size → w'.heap[i]? = w.heap[i]? := fun i hi => by
    have e : w.heap[i]? = some w.heap[i] := Array.getElem?_eq_getElem hi
    rw [e]; exact sat_ext s e
  have hsz : w.heap.size ≤ w'.heap.size := by
    rcases Nat.lt_or_ge w'.heap.size w.heap.size with c | c
    · have := ext _ c
      rw [Array.getElem?_eq_none (Nat.le_refl _)] at this
      have e : w.heap[w'.heap.size]? = some (w.heap[w'.heap.size]) := Array.getElem?_eq_getElem c
      rw [e] at this; cases this
    · exact c
  refine ⟨h.1, fun hn => ?_⟩
  obtain ⟨ad, e, hb, hc⟩ := h.2 hn
  refine ⟨ad, e, Nat.lt_of_lt_of_le hb hsz, fun j u hu => ?_⟩
  have := hc j u hu
  rw [← this]
  have hj : (ad.add j).block < w.heap.size := by rw [add_block]; exact hb
  simp only [World.cell?, ext _ hj]
theorem sub_all {R : HP} {w : World} : ∀ {l : List HP}, Sat (sepL l R) w → Sat (sepL [] R) w := fun s => Sat.rest s
/-- what a grid of a list's values shows -/
theorem vRows_gv {W H : Nat} {l : List Int} (h : l.length = W * H) : vRows (gv W l) 0 W 0 H = l := by
  apply List.ext_getElem
  · rw [vRows_len, h]; exact Nat.mul_comm _ _
  · intro i h1 h2
    have hW : 0 < W := Nat.pos_of_ne_zero fun c => by subst c; rw [Nat.zero_mul] at h; omega
    have hx : i % W < W := Nat.mod_lt _ hW
    have hy : i / W < H := Nat.div_lt_of_lt_mul (by omega)
    have := gv_vRows (f := gv W l) hx hy
    unfold gv at this
    rw [show i / W * W + i % W = i by rw [Nat.mul_comm]; exact Nat.div_add_mod i W] at this
    have e : (vRows (gv W l) 0 W 0 H).getD i 0 = l.getD i 0 := this
    rw [List.getD_eq_getElem?_getD, List.getD_eq_getElem?_getD, List.getElem?_eq_getElem h1, List.getElem?_eq_getElem h2] at e
    exact e
end Go.Proofs.Ytccpgalpahfpaaa

/-
  slab.Cells, slices.Equal, slices.EqualFunc, grid.Same.
-/
namespace Go.Proofs.Ytccpgalpahfpaaa
open Go.RowKit
open Sy
set_option linter.unusedVariables false
set_option linter.unusedSimpArgs false
set_option maxRecDepth 100000
set_option maxHeartbeats 4000000

def cellsL (n : Nat) (f : Nat → Int) : List Int := (List.range n).map f
theorem cellsL_len (n : Nat) (f : Nat → Int) : (cellsL n f).length = n := by simp [cellsL]
theorem cellsL_eq {n : Nat} {f g : Nat → Int} : cellsL n f = cellsL n g ↔ ∀ k, k < n → f k = g k := by
  constructor
  · intro h k hk
    have := congrArg (fun l => l[k]?) h
    simpa [cellsL, hk] using this
  · intro h
    apply List.ext_getElem?
    intro k
    by_cases c : k < n
    · simp [cellsL, c, h k c]
    · simp [cellsL, c]
/-- filled so far -/
def outK (n k : Nat) (f : Nat → Int) : List Value := (List.range n).map fun i => .int .i64 (if i < k then f i else 0)
theorem outK_zero (n : Nat) (f : Nat → Int) : outK n 0 f = List.replicate n (.int .i64 0) := by
  apply List.ext_getElem?
  intro k
  by_cases c : k < n
  · simp [outK, c]
  · simp [outK, c, List.getElem?_replicate]
theorem outK_all (n : Nat) (f : Nat → Int) : outK n n f = ints (cellsL n f) := by
  apply List.ext_getElem?
  intro k
  by_cases c : k < n
  · simp [outK, ints, cellsL, c]
  · simp [outK, ints, cellsL, c]
theorem outK_put {n k : Nat} {f : Nat → Int} (hk : k < n) : putL (outK n k f) k [.int .i64 (f k)] = outK n (k + 1) f := by
  apply List.ext_getElem?
  intro i
  rw [putL_get (by simp [outK]; omega)]
  by_cases c : i = k
  · subst c
    rw [if_pos (by simp)]
    simp [outK, hk]
  · rw [if_neg (by simp; omega)]
    by_cases c2 : i < n
    · simp only [outK, List.getElem?_map, List.getElem?_range c2, Option.map_some]
      by_cases c3 : i < k
      · rw [if_pos c3, if_pos (by omega)]
      · rw [if_neg c3, if_neg (by omega)]
    · simp [outK, c2]

theorem made_i64 (n : Nat) : (madeCells (Value.int .i64 0).cells (n * 1)).toList = List.replicate n (.int .i64 0) := by
  rw [Nat.mul_one]
  exact made_const (z := #[.int .i64 0]) (by intro i hi; simp at hi; subst hi; rfl) (by simp) n

theorem sCells {R : HP} {b sw sh : Nat} {f : Nat → Int} {q : Option Nat} (hR : ∀ w, Sat R w → SlabIs w b sw sh f q) :
    FnR Try.prog R 70 [.pointer (some ⟨b, 0, none⟩)] [] fun r hs => ∃ A c, r = .slice A (sw * sh) c ∧ hs = [rowH (.slice A (sw * sh) c) (sw * sh) 2 1 (ints (cellsL (sw * sh) f))] := by
  refine FnR.fix fun w hs => ?_
  have hS := hR w hs
  obtain ⟨v, hb, hv⟩ := hS.body
  have hm := hS.may
  have hn1 : sw * sh ≤ 256 := Nat.mul_le_mul hS.w2 hS.h2
  have hn0 : 0 < sw * sh := Nat.mul_pos hS.w1 hS.h1
  have hc : (sw : Int) * (sh : Int) = ((sw * sh : Nat) : Int) := by simp
  obtain ⟨n, hn⟩ : ∃ n, sw * sh = n := ⟨_, rfl⟩
  rw [hn] at hn1 hn0 hc hm hv ⊢
  have hz : outK n 0 f = List.replicate n (.int .i64 0) := outK_zero n f
  have hall : outK n n f = ints (cellsL n f) := outK_all n f
  have hput := fun k (hk : k < n) => outK_put (f := f) hk
  rw [← hall]
  have c0 : ∀ w', Sat (was w) w' → w'.cell? ⟨b, 0, none⟩ = some (.int .i64 sw) := fun w' s => (was_blk s hb).cell 0
  have c1 : ∀ w', Sat (was w) w' → w'.cell? ⟨b, 1, none⟩ = some (.int .i64 sh) := fun w' s => (was_blk s hb).cell 1
  have c2 : ∀ w', Sat (was w) w' → w'.cell? ⟨b, 2, none⟩ = some v := fun w' s => (was_blk s hb).cell 2
  clear hb hall
  have start : FnR Try.prog (was w) 70 [.pointer (some ⟨b, 0, none⟩)] [] fun r hs => ∃ A c, r = .slice A n c ∧ hs = [rowH (.slice A n c) n 2 1 (outK n n f)] := by
    rcases q with _ | q
    · obtain ⟨z, rfl, hf⟩ := hv
      have hat : ∀ (R' : HP) (k : Nat), k < n → PureR Try.prog R' 115 [.int .i32 z, .int .i64 (k : Int)] (.int .i64 (f k)) := fun R' k hk => PureR.of_below fun w' s => by
        have hmm := hm k hk
        rw [hf k hk] at hmm
        refine (flat_at z k w' hmm).mono ?_
        rintro e w'' ⟨rfl, rfl⟩
        exact ⟨by rw [hf k hk], Below.refl _ _⟩
      clear hf
      refine fn_of_run0 false Try.func70 rfl hmix rfl fun w0 => ?_
      conv => whnf
      refine ⟨trivial, RegAt.groups [([.T 0, .T 1, .T 2, .T 3, .T 4, .T 5, .T 6, .T 7], 8), ([.T 8], 9), ([.H 9], 10), ([.T 10], 11)] hmix (by kernel_rfl) ?_⟩
      conv => whnf
      refine ⟨trivial, LoadAt.cell (.int .i64 (sw : Int)) rfl rfl (fun w hw => c0 w hw) ?_⟩
      conv => whnf
      refine ⟨trivial, LoadAt.cell (.int .i64 (sh : Int)) rfl rfl (fun w hw => c1 w hw) ?_⟩
      conv => whnf
      rw [hc]
      refine ⟨⟨trivial, by unfold rng; omega⟩, OpAt.make n 1 (outK n 0 f) rfl rfl rfl rfl rfl rfl rfl rfl (by rw [hz]; exact made_i64 n) (by show 8 * n ≤ _; omega) (by simp only [maxLen]; omega) fun g => ?_⟩
      conv => whnf
      refine ⟨trivial, ?_⟩
      conv => whnf
      refine ⟨trivial, LoopAt.heap (α := Nat) [0, 3, 18] (fun k => [(19, .v (.int .i64 (k : Int)))]) (fun k => [rowH (.slice (some ⟨g, 0, none⟩) n n) n 2 1 (outK n k f)]) (fun k => k ≤ n) (fun k => n - k) 0 (Nat.zero_le _) rfl ⟨⟨rfl, rfl⟩, trivial⟩ ⟨⟨rfl, rfl⟩, ⟨rfl, rfl⟩, ⟨rfl, rfl⟩, trivial⟩ trivial (fun h s => sub_same s) ?_⟩
      intro k hk
      conv => whnf
      refine ⟨fun h1 => ?_, fun h1 => ?_⟩
      · have g1 : k < n := by simpa using h1
        conv => whnf
        refine ⟨trivial, LoadAt.cell (.iface 128 (.int .i32 z)) rfl rfl (fun w hw => c2 w hw.rest) ?_⟩
        conv => whnf
        refine ⟨trivial, OpAt.enterP 115 [.int .i32 z, .int .i64 (k : Int)] (.int .i64 (f k)) rfl rfl (fun w => by kernel_rfl) (fun R' _ => hat R' k g1) ?_⟩
        conv => whnf
        refine ⟨⟨trivial, by omega⟩, OpAt.store g (0 + k) (.int .i64 (f k)) [] rfl (fun h s => s) rfl rfl rfl rfl rfl (by simp [Value.cells, Value.oneCell']) (fun h r => row_put (by simp [Value.cells]; omega) r) ?_⟩
        conv => whnf
        refine ⟨⟨trivial, by unfold rng; omega⟩, Next.heap (k + 1) (by omega) (by omega) ⟨⟨rfl, rfl⟩, trivial⟩ ⟨⟨rfl, rfl⟩, ⟨rfl, rfl⟩, ⟨rfl, rfl⟩, trivial⟩ trivial rfl rfl fun h s => sub_same ?_⟩
        rw [← hput k g1]
        have e : (Value.int .i64 (f k)).cells.toList = [.int .i64 (f k)] := rfl
        simpa only [Nat.zero_add, e] using s
      · have g1 : k = n := by simp at h1; omega
        subst g1
        conv => whnf
        exact ⟨trivial, .mk _ (fun w s => s) ⟨some ⟨g, 0, none⟩, k, rfl, rfl⟩⟩
    · obtain ⟨rfl, hq⟩ := hv
      have hat : ∀ (R' : HP), (∀ w', Sat R' w' → Sat (was w) w') → ∀ (k : Nat), k < n → PureR Try.prog R' 116 [.slice (some ⟨q, 0, none⟩) n n, .int .i64 (k : Int)] (.int .i64 (f k)) := fun R' hR' k hk => PureR.of_below fun w' s => by
        refine (rough_at q n f k w' (was_blk (hR' w' s) hq) hk (hm k hk)).mono ?_
        rintro e w'' ⟨rfl, rfl⟩
        exact ⟨rfl, Below.refl _ _⟩
      clear hq
      refine fn_of_run0 false Try.func70 rfl hmix rfl fun w0 => ?_
      conv => whnf
      refine ⟨trivial, RegAt.groups [([.T 0, .T 1, .T 2, .T 3, .T 4, .T 5, .T 6, .T 7], 8), ([.T 8], 9), ([.H 9], 10), ([.T 10], 11)] hmix (by kernel_rfl) ?_⟩
      conv => whnf
      refine ⟨trivial, LoadAt.cell (.int .i64 (sw : Int)) rfl rfl (fun w hw => c0 w hw) ?_⟩
      conv => whnf
      refine ⟨trivial, LoadAt.cell (.int .i64 (sh : Int)) rfl rfl (fun w hw => c1 w hw) ?_⟩
      conv => whnf
      rw [hc]
      refine ⟨⟨trivial, by unfold rng; omega⟩, OpAt.make n 1 (outK n 0 f) rfl rfl rfl rfl rfl rfl rfl rfl (by rw [hz]; exact made_i64 n) (by show 8 * n ≤ _; omega) (by simp only [maxLen]; omega) fun g => ?_⟩
      conv => whnf
      refine ⟨trivial, ?_⟩
      conv => whnf
      refine ⟨trivial, LoopAt.heap (α := Nat) [0, 3, 18] (fun k => [(19, .v (.int .i64 (k : Int)))]) (fun k => [rowH (.slice (some ⟨g, 0, none⟩) n n) n 2 1 (outK n k f)]) (fun k => k ≤ n) (fun k => n - k) 0 (Nat.zero_le _) rfl ⟨⟨rfl, rfl⟩, trivial⟩ ⟨⟨rfl, rfl⟩, ⟨rfl, rfl⟩, ⟨rfl, rfl⟩, trivial⟩ trivial (fun h s => sub_same s) ?_⟩
      intro k hk
      conv => whnf
      refine ⟨fun h1 => ?_, fun h1 => ?_⟩
      · have g1 : k < n := by simpa using h1
        conv => whnf
        refine ⟨trivial, LoadAt.cell (.iface 135 (.slice (some ⟨q, 0, none⟩) n n)) rfl rfl (fun w hw => c2 w hw.rest) ?_⟩
        conv => whnf
        refine ⟨trivial, OpAt.enterP 116 [.slice (some ⟨q, 0, none⟩) n n, .int .i64 (k : Int)] (.int .i64 (f k)) rfl rfl (fun w => by kernel_rfl) (fun R' hR' => hat R' (fun w s => (hR' w s).rest) k g1) ?_⟩
        conv => whnf
        refine ⟨⟨trivial, by omega⟩, OpAt.store g (0 + k) (.int .i64 (f k)) [] rfl (fun h s => s) rfl rfl rfl rfl rfl (by simp [Value.cells, Value.oneCell']) (fun h r => row_put (by simp [Value.cells]; omega) r) ?_⟩
        conv => whnf
        refine ⟨⟨trivial, by unfold rng; omega⟩, Next.heap (k + 1) (by omega) (by omega) ⟨⟨rfl, rfl⟩, trivial⟩ ⟨⟨rfl, rfl⟩, ⟨rfl, rfl⟩, ⟨rfl, rfl⟩, trivial⟩ trivial rfl rfl fun h s => sub_same ?_⟩
        rw [← hput k g1]
        have e : (Value.int .i64 (f k)).cells.toList = [.int .i64 (f k)] := rfl
        simpa only [Nat.zero_add, e] using s
      · have g1 : k = n := by simp at h1; omega
        subst g1
        conv => whnf
        exact ⟨trivial, .mk _ (fun w s => s) ⟨some ⟨g, 0, none⟩, k, rfl, rfl⟩⟩
  exact start

theorem sEqual {R : HP} {A B : Option Addr} {n m c d : Nat} {l l' : List Int} (ha : Vs R A n l) (hb : Vs R B m l') (hn : n ≤ 9223372036854775807) : PureR Try.prog R 69 [.slice A n c, .slice B m d] (.bool (decide (l = l'))) := by
  refine PureR.of_sat fun w hs => ?_
  obtain ⟨h1, sa⟩ := ha.spot hs
  obtain ⟨h2, sb⟩ := hb.spot hs
  refine fn_of_run0 false Try.func69 rfl hmix rfl fun w0 => ?_
  conv => whnf
  refine ⟨fun h3 => ?_, fun h3 => ?_⟩
  · conv => whnf
    refine ⟨trivial, fin_pure rfl ?_⟩
    have : l ≠ l' := fun e => by subst e; simp at h3; omega
    simp [this, mkRes]
  have g3 : n = m := by simp at h3; omega
  subst g3
  rcases sa with sa | ⟨b, off, rfl, sa⟩
  · have e1 : l = [] := List.eq_nil_of_length_eq_zero (by omega)
    have e2 : l' = [] := List.eq_nil_of_length_eq_zero (by omega)
    subst e1 e2 sa
    conv => whnf
    refine ⟨trivial, LoopAt.keep (α := Unit) [0, 1, 12] (fun k => [(13, .v (.int .i64 0))]) (fun k => True) (fun k => 0) () trivial rfl ⟨⟨rfl, rfl⟩, trivial⟩ ⟨⟨rfl, rfl⟩, ⟨rfl, rfl⟩, ⟨rfl, rfl⟩, trivial⟩ trivial ?_⟩
    rintro ⟨⟩ _
    conv => whnf
    refine iff_f (by decide) ?_
    conv => whnf
    exact ⟨trivial, fin_pure rfl rfl⟩
  rcases sb with sb | ⟨b', off', rfl, sb⟩
  · have e1 : l = [] := List.eq_nil_of_length_eq_zero (by omega)
    have e2 : l' = [] := List.eq_nil_of_length_eq_zero (by omega)
    subst e1 e2 sb
    conv => whnf
    refine ⟨trivial, LoopAt.keep (α := Unit) [0, 1, 12] (fun k => [(13, .v (.int .i64 0))]) (fun k => True) (fun k => 0) () trivial rfl ⟨⟨rfl, rfl⟩, trivial⟩ ⟨⟨rfl, rfl⟩, ⟨rfl, rfl⟩, ⟨rfl, rfl⟩, trivial⟩ trivial ?_⟩
    rintro ⟨⟩ _
    conv => whnf
    refine iff_f (by decide) ?_
    conv => whnf
    exact ⟨trivial, fin_pure rfl rfl⟩
  conv => whnf
  refine ⟨trivial, LoopAt.keep (α := Nat) [0, 1, 12] (fun k => [(13, .v (.int .i64 (k : Int)))]) (fun k => k ≤ n ∧ l.take k = l'.take k) (fun k => n - k) 0 ⟨Nat.zero_le _, by simp⟩ rfl ⟨⟨rfl, rfl⟩, trivial⟩ ⟨⟨rfl, rfl⟩, ⟨rfl, rfl⟩, ⟨rfl, rfl⟩, trivial⟩ trivial ?_⟩
  rintro k ⟨hk, he⟩
  conv => whnf
  refine ⟨fun h4 => ?_, fun h4 => ?_⟩
  · have g4 : k < n := by simpa using h4
    conv => whnf
    refine ⟨trivial, RegAt.quiet hmix (by kernel_rfl) ?_⟩
    conv => whnf
    refine ⟨⟨trivial, by omega⟩, LoadAt.cell (.int .i64 (l[k]'(by omega))) rfl rfl (fun w hw => sa w hw k (by omega)) ?_⟩
    conv => whnf
    refine ⟨⟨trivial, by omega⟩, LoadAt.cell (.int .i64 (l'[k]'(by omega))) rfl rfl (fun w hw => sb w hw k (by omega)) ?_⟩
    conv => whnf
    refine ⟨trivial, ?_⟩
    conv => whnf
    refine ⟨fun h5 => ?_, fun h5 => ?_⟩
    · conv => whnf
      refine ⟨trivial, fin_pure rfl ?_⟩
      have : l ≠ l' := fun e => by subst e; simp at h5
      simp [this, mkRes]
    · have g5 : l[k]'(by omega) = l'[k]'(by omega) := by simpa using h5
      conv => whnf
      refine ⟨⟨trivial, by unfold rng; omega⟩, Next.keep (k + 1) ⟨by omega, ?_⟩ (by omega) ⟨⟨rfl, rfl⟩, trivial⟩ ⟨⟨rfl, rfl⟩, ⟨rfl, rfl⟩, ⟨rfl, rfl⟩, trivial⟩ trivial rfl rfl rfl⟩
      rw [List.take_succ_eq_append_getElem (by omega), List.take_succ_eq_append_getElem (by omega), he, g5]
  · have g4 : k = n := by simp at h4; omega
    subst g4
    conv => whnf
    refine ⟨trivial, fin_pure rfl ?_⟩
    rw [List.take_of_length_le (by omega), List.take_of_length_le (by omega)] at he
    subst he
    simp [mkRes]

theorem sSame1 {R : HP} {b b' sw sh sw' sh' : Nat} {f f' : Nat → Int} {q q' : Option Nat} (h1 : ∀ w, Sat R w → SlabIs w b sw sh f q) (h2 : ∀ w, Sat R w → SlabIs w b' sw' sh' f' q') :
    PureR Try.prog R 68 [.pointer (some ⟨b, 0, none⟩), .pointer (some ⟨b', 0, none⟩)] (.bool (decide (cellsL (sw * sh) f = cellsL (sw' * sh') f'))) := by
  refine PureR.of_sat fun w hs => ?_
  have hS := h1 w hs
  have hn1 : sw * sh ≤ 256 := Nat.mul_le_mul hS.w2 hS.h2
  refine fn_of_run0 false Try.func68 rfl hmix rfl fun w0 => ?_
  conv => whnf
  refine ⟨trivial, CallAt.fn (pre := []) _ (fun h s => s) (fun R' hR' => sCells fun w s => h1 w (hR' w s)) ?_⟩
  rintro r hs ⟨A, c, rfl, rfl⟩
  conv => whnf
  refine ⟨trivial, CallAt.fn (pre := []) _ (fun h s => s) (fun R' hR' => sCells fun w s => h2 w (hR' w s).rest) ?_⟩
  rintro r hs ⟨B, d, rfl, rfl⟩
  conv => whnf
  refine ⟨trivial, CallAt.pure (fun R' hR' => sEqual (Vs.row fun w s => (hR' w s).in_ 1 rfl) (Vs.row fun w s => (hR' w s).in_ 0 rfl) (by omega)) ?_⟩
  conv => whnf
  exact ⟨trivial, .mk [] (fun w s => s.rest) ⟨rfl, rfl⟩⟩

theorem sEqualFunc {R : HP} {sb sb' n m c d : Nat} {p p' : Nat → Nat} {e : Nat → Bool} {r : Bool} (hr : r = true ↔ (n = m ∧ ∀ k, k < n → e k = true)) (hn : n ≤ 1000000) (ha : ∀ w, Sat R w → ∀ k, k < n → w.cell? ⟨sb, k, none⟩ = some (.pointer (some ⟨p k, 0, none⟩))) (hb : ∀ w, Sat R w → ∀ k, k < m → w.cell? ⟨sb', k, none⟩ = some (.pointer (some ⟨p' k, 0, none⟩)))
    (he : n = m → ∀ k, k < n → ∀ R', (∀ w, Sat R' w → Sat R w) → PureR Try.prog R' 68 [.pointer (some ⟨p k, 0, none⟩), .pointer (some ⟨p' k, 0, none⟩)] (.bool (e k))) :
    PureR Try.prog R 67 [.slice (some ⟨sb, 0, none⟩) n c, .slice (some ⟨sb', 0, none⟩) m d, .func (.func 68) #[] #[]] (.bool r) := by
  refine fn_of_run0 false Try.func67 rfl hmix rfl fun w0 => ?_
  conv => whnf
  refine ⟨fun h3 => ?_, fun h3 => ?_⟩
  · conv => whnf
    refine ⟨trivial, fin_pure rfl ?_⟩
    have : r = false := Bool.eq_false_iff.2 fun h => by rw [(hr.1 h).1] at h3; simp at h3
    rw [this]; rfl
  have g3 : n = m := by simp at h3; omega
  subst g3
  have he := he rfl
  conv => whnf
  refine ⟨trivial, LoopAt.keep (α := Nat) [1, 2, 15, 16] (fun k => [(17, .v (.int .i64 (k : Int)))]) (fun k => k ≤ n ∧ ∀ j, j < k → e j = true) (fun k => n - k) 0 ⟨Nat.zero_le _, fun j h => absurd h (Nat.not_lt_zero _)⟩ rfl ⟨⟨rfl, rfl⟩, trivial⟩ ⟨⟨rfl, rfl⟩, ⟨rfl, rfl⟩, ⟨rfl, rfl⟩, ⟨rfl, rfl⟩, trivial⟩ trivial ?_⟩
  rintro k ⟨hk, hj⟩
  conv => whnf
  refine ⟨fun h4 => ?_, fun h4 => ?_⟩
  · have g4 : k < n := by simpa using h4
    conv => whnf
    refine ⟨⟨trivial, by omega⟩, LoadAt.cell (.pointer (some ⟨p k, 0, none⟩)) rfl rfl (fun w hw => by have := ha w hw k g4; simpa using this) ?_⟩
    conv => whnf
    refine ⟨⟨trivial, by omega⟩, LoadAt.cell (.pointer (some ⟨p' k, 0, none⟩)) rfl rfl (fun w hw => by have := hb w hw k g4; simpa using this) ?_⟩
    conv => whnf
    refine ⟨trivial, CallAt.pure (fun R' hR' => he k g4 R' hR') ?_⟩
    conv => whnf
    refine ⟨fun h5 => ?_, fun h5 => ?_⟩
    · conv => whnf
      refine ⟨trivial, fin_pure rfl ?_⟩
      have : r = false := Bool.eq_false_iff.2 fun h => by rw [(hr.1 h).2 k g4] at h5; simp at h5
      rw [this]; rfl
    · have g5 : e k = true := by simpa using h5
      conv => whnf
      refine ⟨⟨trivial, by unfold rng; omega⟩, Next.keep (k + 1) ⟨by omega, fun j hj' => ?_⟩ (by omega) ⟨⟨rfl, rfl⟩, trivial⟩ ⟨⟨rfl, rfl⟩, ⟨rfl, rfl⟩, ⟨rfl, rfl⟩, ⟨rfl, rfl⟩, trivial⟩ trivial rfl rfl rfl⟩
      rcases Nat.lt_or_ge j k with c | c
      · exact hj j c
      · rw [show j = k by omega]; exact g5
  · have g4 : k = n := by simp at h4; omega
    subst g4
    conv => whnf
    refine ⟨trivial, fin_pure rfl ?_⟩
    rw [hr.2 ⟨rfl, hj⟩]; rfl

theorem gridSame_tiles {W H : Nat} {f g : Nat → Nat → Int} (h1 : 1 ≤ W) (h2 : 1 ≤ H) : (∀ k, k < tiles W * tiles H → decide (cellsL (tw W (k % tiles W) * tw H (k / tiles W)) (tileF f W (k % tiles W) (k / tiles W)) = cellsL (tw W (k % tiles W) * tw H (k / tiles W)) (tileF g W (k % tiles W) (k / tiles W))) = true) ↔ ∀ x y, x < W → y < H → f x y = g x y := by
  have ht := tiles_pos h1
  constructor
  · intro h x y hx hy
    have hI := tile_of hx
    have hJ := tile_of hy
    have := of_decide_eq_true (h _ (idx_lt hI.1 hJ.1))
    have e1 : (y / 16 * tiles W + x / 16) % tiles W = x / 16 := by rw [Nat.mul_comm, Nat.mul_add_mod, Nat.mod_eq_of_lt hI.1]
    have e2 : (y / 16 * tiles W + x / 16) / tiles W = y / 16 := by rw [Nat.mul_comm, Nat.mul_add_div (by omega), Nat.div_eq_of_lt hI.1, Nat.add_zero]
    rw [e1, e2, cellsL_eq] at this
    have := this (y % 16 * tw W (x / 16) + x % 16) (cell_lt hI.2 hJ.2)
    rwa [tileF_at (H := H) f hx, tileF_at (H := H) g hx] at this
  · intro h k hk
    have hi : k % tiles W < tiles W := Nat.mod_lt _ (by omega)
    have hj : k / tiles W < tiles H := Nat.div_lt_of_lt_mul hk
    exact decide_eq_true (cellsL_eq.2 fun m hm => tileF_congr h hi hj hm)

theorem sGridSame {R : HP} {ga gb W H W' H' : Nat} {f g : Nat → Nat → Int} {r : Bool} (hr : r = true ↔ (W = W' ∧ H = H' ∧ ∀ x y, x < W → y < H → f x y = g x y)) (ha : ∀ w, Sat R w → GridAt w ga W H f) (hb : ∀ w, Sat R w → GridAt w gb W' H' g) :
    PureR Try.prog R 31 [.pointer (some ⟨ga, 0, none⟩), .pointer (some ⟨gb, 0, none⟩)] (.bool r) := by
  refine PureR.fix fun w hs => ?_
  obtain ⟨sa, ca, pa, qa, hA⟩ := ha w hs
  obtain ⟨sb, cb, pb, qb, hB⟩ := hb w hs
  have up : ∀ {w' : World}, Sat (was w) w' → ∀ {gb W H : Nat} {f : Nat → Nat → Int} {sb c p q}, GridOpen w gb W H f sb c p q → GridOpen w' gb W H f sb c p q := fun s' _ _ _ _ _ _ _ _ hO => hO.agree fun i hi => by
    obtain ⟨t, cs, hb⟩ := hO.there hi
    have hb' : w.heap[i]? = some (.cells cs t (0, 0)) := hb
    rw [hb']; exact was_ext s' hb'
  have w1 := hA.w1; have w2 := hA.w2; have h1 := hA.h1; have h2 := hA.h2
  have hT1 : tiles W ≤ 64 := tiles_le w2
  have hT2 : tiles H ≤ 64 := tiles_le h2
  have hT := Nat.mul_le_mul hT1 hT2
  have hTW := tiles_pos w1
  have A0 : ∀ w', Sat (was w) w' → w'.cell? ⟨ga, 0, none⟩ = some (.int .i64 W) := fun w' s => (up s hA).head.cell 0
  have A1 : ∀ w', Sat (was w) w' → w'.cell? ⟨ga, 1, none⟩ = some (.int .i64 H) := fun w' s => (up s hA).head.cell 1
  have A3 : ∀ w', Sat (was w) w' → w'.cell? ⟨ga, 3, none⟩ = some (.slice (some ⟨sa, 0, none⟩) (tiles W * tiles H) ca) := fun w' s => (up s hA).head.cell 3
  have B0 : ∀ w', Sat (was w) w' → w'.cell? ⟨gb, 0, none⟩ = some (.int .i64 W') := fun w' s => (up s hB).head.cell 0
  have B1 : ∀ w', Sat (was w) w' → w'.cell? ⟨gb, 1, none⟩ = some (.int .i64 H') := fun w' s => (up s hB).head.cell 1
  have B3 : ∀ w', Sat (was w) w' → w'.cell? ⟨gb, 3, none⟩ = some (.slice (some ⟨sb, 0, none⟩) (tiles W' * tiles H') cb) := fun w' s => (up s hB).head.cell 3
  have hE : W = W' → H = H' → ∀ R', (∀ w', Sat R' w' → Sat (was w) w') → PureR Try.prog R' 67 [.slice (some ⟨sa, 0, none⟩) (tiles W * tiles H) ca, .slice (some ⟨sb, 0, none⟩) (tiles W' * tiles H') cb, .func (.func 68) #[] #[]] (.bool r) := by
    rintro rfl rfl R' hR'
    refine sEqualFunc (p := pa) (p' := pb) (e := fun k => decide (cellsL (tw W (k % tiles W) * tw H (k / tiles W)) (tileF f W (k % tiles W) (k / tiles W)) = cellsL (tw W (k % tiles W) * tw H (k / tiles W)) (tileF g W (k % tiles W) (k / tiles W)))) ?_ (by omega)
      (fun w' s k hk => by
        obtain ⟨cur, hc, hl⟩ := (up (hR' w' s) hA).list
        exact (hc.cell _).trans (hl _ hk))
      (fun w' s k hk => by
        obtain ⟨cur, hc, hl⟩ := (up (hR' w' s) hB).list
        exact (hc.cell _).trans (hl _ hk))
      (fun _ k hk R2 hR2 => by
        have hi : k % tiles W < tiles W := Nat.mod_lt _ (by omega)
        have hj : k / tiles W < tiles H := Nat.div_lt_of_lt_mul hk
        have ek : k / tiles W * tiles W + k % tiles W = k := by rw [Nat.mul_comm]; exact Nat.div_add_mod _ _
        refine sSame1 (q := qa k) (q' := qb k) (fun w' s => ?_) fun w' s => ?_
        · have := (up (hR' w' (hR2 w' s)) hA).slabs _ _ hi hj
          rwa [ek] at this
        · have := (up (hR' w' (hR2 w' s)) hB).slabs _ _ hi hj
          rwa [ek] at this)
    rw [hr]
    exact ⟨fun h => ⟨rfl, (gridSame_tiles w1 h1).2 h.2.2⟩, fun h => ⟨rfl, rfl, (gridSame_tiles w1 h1).1 h.2⟩⟩
  clear up hA hB
  have no : ¬ (W = W' ∧ H = H') → r = false := fun c => Bool.eq_false_iff.2 fun h => c ⟨(hr.1 h).1, (hr.1 h).2.1⟩
  refine fn_of_run0 false Try.func31 rfl hmix rfl fun w0 => ?_
  conv => whnf
  refine ⟨trivial, RegAt.quiet hmix (by kernel_rfl) ?_⟩
  conv => whnf
  refine ⟨trivial, LoadAt.cell (.int .i64 (W : Int)) rfl rfl (fun w hw => A0 w hw) ?_⟩
  conv => whnf
  refine ⟨trivial, LoadAt.cell (.int .i64 (W' : Int)) rfl rfl (fun w hw => B0 w hw) ?_⟩
  conv => whnf
  refine ⟨fun g1 => ?_, fun g1 => ?_⟩
  · have e1 : W = W' := by simp at g1; omega
    conv => whnf
    refine ⟨trivial, LoadAt.cell (.int .i64 (H : Int)) rfl rfl (fun w hw => A1 w hw) ?_⟩
    conv => whnf
    refine ⟨trivial, LoadAt.cell (.int .i64 (H' : Int)) rfl rfl (fun w hw => B1 w hw) ?_⟩
    conv => whnf
    refine ⟨fun g2 => ?_, fun g2 => ?_⟩
    · have e2 : H = H' := by simp at g2; omega
      conv => whnf
      refine ⟨trivial, LoadAt.cell (.slice (some ⟨sa, 0, none⟩) (tiles W * tiles H) ca) rfl rfl (fun w hw => A3 w hw) ?_⟩
      conv => whnf
      refine ⟨trivial, LoadAt.cell (.slice (some ⟨sb, 0, none⟩) (tiles W' * tiles H') cb) rfl rfl (fun w hw => B3 w hw) ?_⟩
      conv => whnf
      refine ⟨trivial, CallQ.pure (fun R' hR' => hE e1 e2 R' hR') ?_⟩
      conv => whnf
      refine ⟨trivial, ?_⟩
      conv => whnf
      exact ⟨trivial, fin_pure rfl (by simp [mkRes])⟩
    · have e2 : ¬ (W = W' ∧ H = H') := by simp at g2; omega
      conv => whnf
      refine ⟨trivial, ?_⟩
      conv => whnf
      exact ⟨trivial, fin_pure rfl (by rw [no e2]; rfl)⟩
  · have e1 : ¬ (W = W' ∧ H = H') := by simp at g1; omega
    conv => whnf
    refine ⟨trivial, ?_⟩
    conv => whnf
    exact ⟨trivial, fin_pure rfl (by rw [no e1]; rfl)⟩
end Go.Proofs.Ytccpgalpahfpaaa

/-
  Any level of any grid, in any way, is what the chapter says, or there is its error.
-/
namespace Go.Proofs.Ytccpgalpahfpaaa
open Go.RowKit
open Sy
set_option linter.unusedVariables false
set_option linter.unusedSimpArgs false
set_option maxRecDepth 100000
set_option maxHeartbeats 4000000

theorem sRLevelArg {A : Option Addr} {n c W H : Nat} {k how : Int} (hsz : SizeOk (W : Int) (H : Int)) (hbad : (k < 0 ∨ (levN W H : Int) ≤ k) ∨ (how < 0 ∨ 2 < how)) (R : HP) :
    PureR Try.prog R 25 [modV W H A n c, .int .i64 k, .int .i64 how] (.tuple #[modV 0 0 none 0 0, .int .i64 11]) := by
  have fin : ∀ {hs : List HP}, hs = [] → ∀ {A : HP} w, Sat (sepL [A] R) w → Sat (sepL hs R) w := by
    rintro _ rfl A w ⟨h, hs, s⟩
    obtain ⟨h1, e1, s1⟩ := sub_tail s
    exact ⟨h1, hs.mono e1, s1⟩
  refine fn_of_run0 false Try.func25 rfl hmix rfl fun w0 => ?_
  conv => whnf
  refine ⟨trivial, CallAt.fn (pre := []) _ (fun h s => s) (fun R' hR' => sSizes2 W H hsz R') ?_⟩
  rintro r hs ⟨sg, sc, rfl, rfl⟩
  conv => whnf
  refine ⟨fun g1 => ?_, fun g1 => ?_⟩
  · conv => whnf
    refine ⟨fun g2 => ?_, fun g2 => ?_⟩
    · conv => whnf
      refine ⟨fun g3 => ?_, fun g3 => ?_⟩
      · conv => whnf
        refine iff_t ?_ ?_
        · simp at g1 g2 g3 ⊢; omega
        · conv => whnf
          exact ⟨trivial, .mk [] (fin rfl) ⟨rfl, rfl⟩⟩
      · conv => whnf
        exact ⟨trivial, .mk [] (fin rfl) ⟨rfl, rfl⟩⟩
    · conv => whnf
      exact ⟨trivial, .mk [] (fin rfl) ⟨rfl, rfl⟩⟩
  · conv => whnf
    exact ⟨trivial, .mk [] (fin rfl) ⟨rfl, rfl⟩⟩

theorem land_nat {W H most : Int} {n : Nat} {l : List Int} (h : LandOk W H most n l) (hm : most ≤ 1024) : ∃ W' H' : Nat, W = W' ∧ H = H' ∧ 1 ≤ W' ∧ W' ≤ 1024 ∧ 1 ≤ H' ∧ H' ≤ 1024 ∧ W' * H' = n ∧ 0 < n ∧ (n : Int) ≤ most := by
  obtain ⟨h1, h2, h3, h4, h5, h6, h7⟩ := h
  obtain ⟨W', rfl⟩ : ∃ W' : Nat, W = W' := ⟨W.toNat, by omega⟩
  obtain ⟨H', rfl⟩ : ∃ H' : Nat, H = H' := ⟨H.toNat, by omega⟩
  have e : W' * H' = n := by
    have : ((W' * H' : Nat) : Int) = n := by rw [← h6]; simp
    omega
  refine ⟨W', H', rfl, rfl, by omega, by omega, by omega, by omega, e, ?_, by omega⟩
  rw [← e]; exact Nat.mul_pos (by omega) (by omega)
/-- the grid that a list of values makes -/
theorem sMadeV {R : HP} {W H n c : Nat} {A : Option Addr} {l : List Int} (ha : Vs R A n l) (h1 : 1 ≤ W) (h2 : W ≤ 1024) (h3 : 1 ≤ H) (h4 : H ≤ 1024) (hn : W * H = n) (hm : ∀ v ∈ l, MayV v) :
    FnR Try.prog R 13 [.int .i64 W, .int .i64 H, .slice A n c] [] fun r hs => ∃ gb, r = .tuple #[.pointer (some ⟨gb, 0, none⟩), .bool true] ∧ hs = [gridH gb W H (gv W l)] := by
  refine FnR.of_sat fun w hs => ?_
  obtain ⟨hl, sa⟩ := ha.spot hs
  rcases sa with sa | ⟨b, off, rfl, sa⟩
  · have := Nat.mul_pos h1 h3
    omega
  exact sMade W H b off n c l R h1 h2 h3 h4 hl hn hm sa
theorem sLandYes {R : HP} {W H most : Int} {A : Option Addr} {n c : Nat} {l : List Int} (ha : Vs R A n l) (hm : most ≤ 4096) (hn : n ≤ maxLen) (h : LandOk W H most n l) :
    PureR Try.prog R 12 [.int .i64 W, .int .i64 H, .slice A n c, .int .i64 most] (.tuple #[.agg #[.int .i64 W, .int .i64 H, .slice A n c], .bool true]) := by
  have := sLand W H most (c := c) ha hm (by simp only [maxLen] at hn; omega)
  rwa [if_pos h] at this
theorem sLandNo {R : HP} {W H most : Int} {A : Option Addr} {n c : Nat} {l : List Int} (ha : Vs R A n l) (hm : most ≤ 4096) (hn : n ≤ maxLen) (h : ¬ LandOk W H most n l) :
    PureR Try.prog R 12 [.int .i64 W, .int .i64 H, .slice A n c, .int .i64 most] (.tuple #[.agg #[.int .i64 0, .int .i64 0, .slice none 0 0], .bool false]) := by
  have := sLand W H most (c := c) ha hm (by simp only [maxLen] at hn; omega)
  rwa [if_neg h] at this
/-- a level, in any of the three ways -/
theorem sLevelHow {R : HP} {gb W H k : Nat} {f : Nat → Nat → Int} {how : Int} {ag : List Int → Int} (hR : ∀ w, Sat R w → GridAt w gb W H f) (hk : k < levN W H) (hh : how = 0 ∧ ag = mnL ∨ how = 1 ∧ ag = mxL ∨ how = 2 ∧ ag = meanL) :
    FnR Try.prog R 24 [.pointer (some ⟨gb, 0, none⟩), .int .i64 k, .int .i64 how] [] fun r hs => ∃ g2, r = .tuple #[.pointer (some ⟨g2, 0, none⟩), .int .i64 0] ∧ hs = [gridH g2 (halfN W k) (halfN H k) (lv ag W H k f)] := by
  rcases hh with ⟨rfl, rfl⟩ | ⟨rfl, rfl⟩ | ⟨rfl, rfl⟩
  · exact sLevel hR hk (.inl rfl) (fun R' => sWay0 R') (fun R' A n c l h1 h2 h3 h4 => sMin h1 (by omega) h3) fun l h1 h2 => mn_may h1 h2
  · exact sLevel hR hk (.inr (.inl rfl)) (fun R' => sWay1 R') (fun R' A n c l h1 h2 h3 h4 => sMax h1 (by omega) h3) fun l h1 h2 => mx_may h1 h2
  · exact sLevel hR hk (.inr (.inr rfl)) (fun R' => sWay2 R') (fun R' A n c l h1 h2 h3 h4 => sMean h1 h2 h3 h4) fun l h1 h2 => mean_may h1 h2

theorem DownLevels_walk (W H : Int) (A : Option Addr) (n c : Nat) (l : List Int) (k how : Int) (w : World) (_ : -9223372036854775808 ≤ W) (_ : W ≤ 9223372036854775807) (_ : -9223372036854775808 ≤ H) (_ : H ≤ 9223372036854775807) (ha : Reads w w.heap.size 1 A n (ints l)) (hn : n ≤ maxLen)
    (_ : -9223372036854775808 ≤ k) (_ : k ≤ 9223372036854775807) (_ : -9223372036854775808 ≤ how) (_ : how ≤ 9223372036854775807) :
    Calls Try.prog 5 #[.int .i64 W, .int .i64 H, .slice A n c, .int .i64 k, .int .i64 how] w fun e w' => e = .returned (.bool true) ∧ Below w.heap.size w w' := by
  refine PureR.below (args := [.int .i64 W, .int .i64 H, .slice A n c, .int .i64 k, .int .i64 how]) ?_
  have hv := vs_of_reads ha
  have hl : l.length = n := by have := ha.1; simpa [ints] using this
  by_cases hok : LandOk W H 1000 n l
  · obtain ⟨W, H, rfl, rfl, w1, w2, h1, h2, hWH, hn0, hn1⟩ := land_nat hok (by decide)
    have hm := hok.2.2.2.2.2.2
    have hsz : SizeOk (W : Int) (H : Int) := ⟨by omega, by omega, by omega, by omega⟩
    by_cases hbad : (k < 0 ∨ (levN W H : Int) ≤ k) ∨ (how < 0 ∨ 2 < how)
    · refine fn_of_run0 false Try.func5 rfl hmix rfl fun w0 => ?_
      conv => whnf
      refine ⟨trivial, CallAt.pure (fun R' hR' => sAwake18 R') ?_⟩
      conv => whnf
      refine iff_f (by decide) ?_
      conv => whnf
      refine ⟨trivial, CallAt.pure (fun R' hR' => sLandYes (hv.mono fun w s => hR' w s) (by decide) hn hok) ?_⟩
      conv => whnf
      refine iff_f (by decide) ?_
      conv => whnf
      refine ⟨trivial, CallAt.fn (pre := []) _ (fun h s => s) (fun R' hR' => sMadeV (hv.mono fun w s => hR' w s) w1 w2 h1 h2 hWH hm) ?_⟩
      rintro r hs ⟨gb, rfl, rfl⟩
      conv => whnf
      refine iff_f (by decide) ?_
      conv => whnf
      refine ⟨trivial, CallAt.pure (fun R' hR' => sLevelArg (gridAt_rest 0 rfl hR') hbad) ?_⟩
      conv => whnf
      refine ⟨trivial, CallAt.pure (fun R' hR' => sRLevelArg hsz hbad R') ?_⟩
      conv => whnf
      refine iff_f (by decide) ?_
      conv => whnf
      refine iff_t (by decide) ?_
      conv => whnf
      refine ⟨trivial, .mk [] (fun w s => s.rest) ⟨rfl, rfl⟩⟩
    · obtain ⟨K, rfl⟩ : ∃ K : Nat, k = K := ⟨k.toNat, by omega⟩
      have hk : K < levN W H := by omega
      obtain ⟨ag, hag⟩ : ∃ ag, how = 0 ∧ ag = mnL ∨ how = 1 ∧ ag = mxL ∨ how = 2 ∧ ag = meanL := by
        rcases (show how = 0 ∨ how = 1 ∨ how = 2 by omega) with e | e | e
        · exact ⟨mnL, .inl ⟨e, rfl⟩⟩
        · exact ⟨mxL, .inr (.inl ⟨e, rfl⟩)⟩
        · exact ⟨meanL, .inr (.inr ⟨e, rfl⟩)⟩
      refine fn_of_run0 false Try.func5 rfl hmix rfl fun w0 => ?_
      conv => whnf
      refine ⟨trivial, CallAt.pure (fun R' hR' => sAwake18 R') ?_⟩
      conv => whnf
      refine iff_f (by decide) ?_
      conv => whnf
      refine ⟨trivial, CallAt.pure (fun R' hR' => sLandYes (hv.mono fun w s => hR' w s) (by decide) hn hok) ?_⟩
      conv => whnf
      refine iff_f (by decide) ?_
      conv => whnf
      refine ⟨trivial, CallAt.fn (pre := []) _ (fun h s => s) (fun R' hR' => sMadeV (hv.mono fun w s => hR' w s) w1 w2 h1 h2 hWH hm) ?_⟩
      rintro r hs ⟨gb, rfl, rfl⟩
      conv => whnf
      refine iff_f (by decide) ?_
      conv => whnf
      refine ⟨trivial, CallAt.fn (pre := []) _ (fun h s => s) (fun R' hR' => sLevelHow (gridAt_rest 0 rfl hR') hk hag) ?_⟩
      rintro r hs ⟨g2, rfl, rfl⟩
      conv => whnf
      refine ⟨trivial, CallAt.fn (pre := []) _ (fun h s => s) (fun R' hR' => sRLevel (hv.mono fun w s => (hR' w s).rest) hWH hm hsz hk hag) ?_⟩
      rintro r hs ⟨B, d, rfl, rfl⟩
      conv => whnf
      refine iff_f (by decide) ?_
      conv => whnf
      refine iff_f (by decide) ?_
      conv => whnf
      refine ⟨trivial, CallAt.pure (fun R' hR' => sIs (gridAt_rest 1 rfl hR') (Vs.row fun w s => (hR' w s).in_ 0 rfl) rfl) ?_⟩
      conv => whnf
      refine ⟨fun _ => ?_, fun h => absurd h (by decide)⟩
      conv => whnf
      refine ⟨trivial, CallAt.pure (fun R' hR' => sIs (gridAt_rest 2 rfl hR') (hv.mono fun w s => (hR' w s).rest) (vRows_gv (by rw [hl, hWH]))) ?_⟩
      conv => whnf
      refine ⟨trivial, .mk [] (fun w s => s.rest) ⟨rfl, rfl⟩⟩
  · refine fn_of_run0 false Try.func5 rfl hmix rfl fun w0 => ?_
    conv => whnf
    refine ⟨trivial, CallAt.pure (fun R' hR' => sAwake18 R') ?_⟩
    conv => whnf
    refine iff_f (by decide) ?_
    conv => whnf
    refine ⟨trivial, CallAt.pure (fun R' hR' => sLandNo (hv.mono fun w s => hR' w s) (by decide) hn hok) ?_⟩
    conv => whnf
    refine iff_t (by decide) ?_
    conv => whnf
    exact ⟨trivial, fin_pure rfl rfl⟩
end Go.Proofs.Ytccpgalpahfpaaa

/-
  down.Row: all levels of a grid.
-/
namespace Go.Proofs.Ytccpgalpahfpaaa
open Go.RowKit
open Sy
set_option linter.unusedVariables false
set_option linter.unusedSimpArgs false
set_option maxRecDepth 100000
set_option maxHeartbeats 4000000

/-- the levels 0 .. n-1, the last one first -/
def gridsH (ag : List Int → Int) (W H : Nat) (f : Nat → Nat → Int) : List Nat → List HP
  | [] => []
  | g :: r => gridH g (halfN W r.length) (halfN H r.length) (lv ag W H r.length f) :: gridsH ag W H f r
def ptrs (gs : List Nat) : List Value := gs.reverse.map fun g => .pointer (some ⟨g, 0, none⟩)
theorem ptrs_len (gs : List Nat) : (ptrs gs).length = gs.length := by simp [ptrs]
theorem ptrs_cons (g : Nat) (gs : List Nat) : ptrs (g :: gs) = ptrs gs ++ [.pointer (some ⟨g, 0, none⟩)] := by simp [ptrs]
theorem ptrs_one (gs : List Nat) : ∀ u ∈ ptrs gs, u.oneCell' = true := by
  intro u hu
  simp only [ptrs, List.mem_map] at hu
  obtain ⟨g, _, rfl⟩ := hu
  rfl
/-- the grid of the level k -/
theorem gridsH_at {ag : List Int → Int} {W H : Nat} {f : Nat → Nat → Int} : ∀ {gs : List Nat} {k : Nat}, k < gs.length → ∃ g i : Nat, (ptrs gs)[k]? = some (.pointer (some ⟨g, 0, none⟩)) ∧ (gridsH ag W H f gs)[i]? = some (gridH g (halfN W k) (halfN H k) (lv ag W H k f))
  | [], k, h => absurd h (Nat.not_lt_zero _)
  | g :: r, k, h => by
    rw [ptrs_cons]
    rcases Nat.lt_or_ge k r.length with c | c
    · obtain ⟨g', i, h1, h2⟩ := gridsH_at (gs := r) (f := f) (ag := ag) (W := W) (H := H) c
      refine ⟨g', i + 1, ?_, ?_⟩
      · rw [List.getElem?_append_left (by rw [ptrs_len]; exact c)]; exact h1
      · simpa [gridsH] using h2
    · have e : k = r.length := by simp at h; omega
      subst e
      refine ⟨g, 0, ?_, rfl⟩
      rw [List.getElem?_append_right (by rw [ptrs_len]; exact Nat.le_refl _), ptrs_len]
      simp
theorem sLevels (W H : Nat) (hs : SizeOk (W : Int) (H : Int)) (R : HP) : PureR Try.prog R 40 [.int .i64 W, .int .i64 H] (.tuple #[.int .i64 (levN W H : Nat), .int .i64 0]) := PureR.of_below fun w _ => Levels_ok W H w hs

theorem sRow {R : HP} {gb W H : Nat} {f : Nat → Nat → Int} {how : Int} {ag : List Int → Int} (hR : ∀ w, Sat R w → GridAt w gb W H f) (hh : how = 0 ∧ ag = mnL ∨ how = 1 ∧ ag = mxL ∨ how = 2 ∧ ag = meanL) :
    FnR Try.prog R 27 [.pointer (some ⟨gb, 0, none⟩), .int .i64 how] [] fun r hs => ∃ gs A c, gs.length = levN W H ∧ r = .tuple #[.slice A (levN W H) c, .int .i64 0] ∧
      hs = rowH (.slice A (levN W H) c) (levN W H) 30 1 (ptrs gs) :: gridsH ag W H f gs := by
  refine FnR.of_sat fun w hs => ?_
  obtain ⟨w1, w2, h1, h2⟩ := (hR w hs).size
  have hsz : SizeOk (W : Int) (H : Int) := ⟨by omega, by omega, by omega, by omega⟩
  have hl := levN_le hsz
  have hl1 : 1 ≤ levN W H := by unfold levN; omega
  have hlv := fun (k : Nat) (hk : k < levN W H) (R' : HP) (hR' : ∀ w, Sat R' w → GridAt w gb W H f) => sLevelHow hR' hk hh
  have hls := fun R' => sLevels W H hsz R'
  obtain ⟨L, hL⟩ : ∃ L, levN W H = L := ⟨_, rfl⟩
  rw [hL] at hl hl1 hlv hls ⊢
  have hmax : max (L : Int) 1 = (L : Int) := by omega
  refine fn_of_run0 false Try.func27 rfl hmix rfl fun w0 => ?_
  conv => whnf
  refine ⟨trivial, CallAt.pure (fun R' hR' => gSize_p fun w s => hR w (hR' w s)) ?_⟩
  conv => whnf
  refine ⟨trivial, CallAt.pure (fun R' hR' => hls R') ?_⟩
  conv => whnf
  rw [hmax]
  refine ⟨trivial, LoopAt.heap (α := List Nat × Option Addr × Nat) [0, 1, 21] (fun a => [(8, .v (.slice a.2.1 a.1.length a.2.2)), (22, .v (.int .i64 (a.1.length : Int)))])
    (fun a => rowH (.slice a.2.1 a.1.length a.2.2) a.1.length 30 1 (ptrs a.1) :: gridsH ag W H f a.1) (fun a => a.1.length ≤ L) (fun a => L - a.1.length) ([], none, 0) (Nat.zero_le _) rfl ⟨⟨rfl, rfl⟩, ⟨rfl, rfl⟩, trivial⟩ ⟨⟨rfl, rfl⟩, ⟨rfl, rfl⟩, ⟨rfl, rfl⟩, trivial⟩ trivial (fun h s => sub_same (row_nil _ _ s)) ?_⟩
  rintro ⟨gs, B, d⟩ hk
  simp only at hk
  conv => whnf
  refine ⟨fun h4 => ?_, fun h4 => ?_⟩
  · have g4 : gs.length < L := by simpa using h4
    conv => whnf
    refine ⟨trivial, CallAt.fn (pre := []) _ (fun h s => s) (fun R' hR' => hlv gs.length g4 R' fun w s => hR w (hR' w s).rest) ?_⟩
    rintro r hs ⟨g2, rfl, rfl⟩
    conv => whnf
    refine iff_f (by decide) ?_
    conv => whnf
    refine ⟨trivial, OpAt.lit [.pointer (some ⟨g2, 0, none⟩)] 1 rfl rfl rfl rfl rfl (by decide) rfl rfl rfl (by simp [Value.cells]) rfl (by decide) fun g3 => ?_⟩
    conv => whnf
    refine ⟨trivial, OpAt.append (.slice B gs.length d) gs.length 1 8 (ptrs gs) [.pointer (some ⟨g2, 0, none⟩)] (some ⟨g3, 0, none⟩) 1 1 _ rfl (fun h s => sepL_pull 2 s) rfl rfl rfl rfl rfl rfl rfl rfl rfl (by decide) (fun w hw => rowH_reads rfl (Sat.left hw)) (by simp [Value.oneCell']) (by simp only [maxLen]; omega) (by omega) fun B' d' => ?_⟩
    conv => whnf
    refine ⟨⟨trivial, by unfold rng; simp only; omega⟩, Next.heap (g2 :: gs, B', d') (by simp only [List.length_cons]; omega) (by simp only [List.length_cons]; omega) ⟨⟨rfl, rfl⟩, ⟨rfl, rfl⟩, trivial⟩ ⟨⟨rfl, rfl⟩, ⟨rfl, rfl⟩, ⟨rfl, rfl⟩, trivial⟩ trivial rfl rfl fun h s => ?_⟩
    obtain ⟨h', e, s'⟩ := sub_drop1 s
    refine ⟨h', e, ?_⟩
    rw [ptrs_cons]
    exact s'
  · have g4 : gs.length = L := by simp at h4; omega
    subst g4
    conv => whnf
    exact ⟨trivial, .mk _ (fun w s => s) ⟨gs, B, d, rfl, rfl, rfl⟩⟩
theorem sRow2 {R : HP} {gb W H : Nat} {f : Nat → Nat → Int} {how : Int} {ag : List Int → Int} (hR : ∀ w, Sat R w → GridAt w gb W H f) (hh : how = 0 ∧ ag = mnL ∨ how = 1 ∧ ag = mxL ∨ how = 2 ∧ ag = meanL) :
    FnR Try.prog R 27 [.pointer (some ⟨gb, 0, none⟩), .int .i64 how] [] fun r hs => ∃ gs g c, gs.length = levN W H ∧ r = .tuple #[.slice (some ⟨g, 0, none⟩) (levN W H) c, .int .i64 0] ∧
      hs = rowH (.slice (some ⟨g, 0, none⟩) (levN W H) c) (levN W H) 30 1 (ptrs gs) :: gridsH ag W H f gs := by
  intro w s
  refine (sRow hR hh w s).mono ?_
  rintro e w' ⟨r, hs, rfl, ⟨gs, A, c, hl, rfl, rfl⟩, s', hw⟩
  obtain ⟨g, rfl, _⟩ := rowH_at (Sat.left s') (by unfold levN; omega)
  exact ⟨_, _, rfl, ⟨gs, g, c, hl, rfl, rfl⟩, s', hw⟩
theorem sRowArg {R : HP} {gb W H : Nat} {f : Nat → Nat → Int} {how : Int} (hR : ∀ w, Sat R w → GridAt w gb W H f) (hh : how < 0 ∨ 2 < how) :
    PureR Try.prog R 27 [.pointer (some ⟨gb, 0, none⟩), .int .i64 how] (.tuple #[.slice none 0 0, .int .i64 11]) := by
  refine PureR.of_sat fun w hs => ?_
  obtain ⟨w1, w2, h1, h2⟩ := (hR w hs).size
  have hsz : SizeOk (W : Int) (H : Int) := ⟨by omega, by omega, by omega, by omega⟩
  have hls := fun R' => sLevels W H hsz R'
  have hl1 : 1 ≤ levN W H := by unfold levN; omega
  obtain ⟨L, hL⟩ : ∃ L, levN W H = L := ⟨_, rfl⟩
  rw [hL] at hls hl1
  have hmax : max (L : Int) 1 = (L : Int) := by omega
  refine fn_of_run0 false Try.func27 rfl hmix rfl fun w0 => ?_
  conv => whnf
  refine ⟨trivial, CallAt.pure (fun R' hR' => gSize_p fun w s => hR w (hR' w s)) ?_⟩
  conv => whnf
  refine ⟨trivial, CallAt.pure (fun R' hR' => hls R') ?_⟩
  conv => whnf
  rw [hmax]
  refine ⟨trivial, LoopAt.keep (α := Unit) [0, 1, 8, 21] (fun a => [(22, .v (.int .i64 0))]) (fun _ => True) (fun _ => 0) () trivial rfl ⟨⟨rfl, rfl⟩, trivial⟩ ⟨⟨rfl, rfl⟩, ⟨rfl, rfl⟩, ⟨rfl, rfl⟩, ⟨rfl, rfl⟩, trivial⟩ trivial ?_⟩
  rintro ⟨⟩ _
  conv => whnf
  refine iff_t (decide_eq_true (by omega)) ?_
  conv => whnf
  refine ⟨trivial, CallAt.pure (fun R' hR' => sLevelArg (fun w s => hR w (hR' w s)) (.inr hh)) ?_⟩
  conv => whnf
  refine iff_t (by decide) ?_
  conv => whnf
  exact ⟨trivial, fin_pure rfl rfl⟩

theorem row_at {g n c size : Nat} {e : TypeId} {xs : List Value} {w : World} (s : Sat (rowH (.slice (some ⟨g, 0, none⟩) n c) n e size xs) w) (hn : 0 < n) {j : Nat} {u : Value} (h : xs[j]? = some u) : w.cell? ⟨g, j, none⟩ = some u := by
  obtain ⟨g', e, hr⟩ := rowH_at s hn
  injection e with e
  injection e with e
  subst e
  exact hr j u h
theorem in_app {l m : List HP} {i : Nat} {A : HP} (h : l[i]? = some A) : (l ++ m)[i]? = some A := by
  rw [List.getElem?_append_left (List.getElem?_eq_some_iff.1 h).1]; exact h
theorem in_app2 {B C : HP} {l m : List HP} {i : Nat} {A : HP} (h : l[i]? = some A) : (B :: C :: (l ++ m))[i + 2]? = some A := in_app h
theorem in_end {l m : List HP} {A : HP} {n : Nat} (h : l.length = n) : (l ++ A :: m)[n]? = some A := by
  subst h
  rw [List.getElem?_append_right (Nat.le_refl _)]
  simp
theorem gridsH_len {ag : List Int → Int} {W H : Nat} {f : Nat → Nat → Int} : ∀ gs : List Nat, (gridsH ag W H f gs).length = gs.length
  | [] => rfl
  | g :: r => by simp [gridsH, gridsH_len r]
theorem lv_zero {ag : List Int → Int} {W H : Nat} {f : Nat → Nat → Int} {x y : Nat} (hag : ∀ v, ag [v] = v) (hx : x < W) (hy : y < H) : lv ag W H 0 f x y = f x y := by
  have e1 : spX1 W 0 x = x := by unfold spX1; simp; omega
  have e2 : spX1 H 0 y = y := by unfold spX1; simp; omega
  unfold lv spL
  rw [e1, e2, Nat.pow_zero, Nat.mul_one, Nat.mul_one, Nat.sub_self, Nat.sub_self]
  show ag [f (x + 0) (y + 0)] = _
  rw [hag]; simp
theorem ag_one {how : Int} {ag : List Int → Int} (hh : how = 0 ∧ ag = mnL ∨ how = 1 ∧ ag = mxL ∨ how = 2 ∧ ag = meanL) (v : Int) : ag [v] = v := by
  rcases hh with ⟨_, rfl⟩ | ⟨_, rfl⟩ | ⟨_, rfl⟩
  · rfl
  · rfl
  · simp [meanL, sumL]
theorem halfN_zero {W : Nat} (h : 1 ≤ W) : halfN W 0 = W := by unfold halfN; simp; omega
end Go.Proofs.Ytccpgalpahfpaaa

/-
  A level of the level ahead; no mean is below the least, or above the greatest.
-/
namespace Go.Proofs.Ytccpgalpahfpaaa
open Go.RowKit
open Sy
set_option linter.unusedVariables false
set_option linter.unusedSimpArgs false
set_option maxRecDepth 100000
set_option maxHeartbeats 4000000

theorem halfN_step (W j : Nat) : halfN (halfN W j) 1 = halfN W (j + 1) := by
  unfold halfN
  rw [Nat.add_sub_cancel, Nat.pow_one, Nat.pow_succ, Nat.div_div_eq_div_mul]
theorem div_step (a j : Nat) : a / 2 ^ j / 2 ^ 1 = a / 2 ^ (j + 1) := by rw [Nat.pow_one, Nat.pow_succ, Nat.div_div_eq_div_mul]
theorem cell_in {W a : Nat} (j : Nat) (h : a < W) : a / 2 ^ j < halfN W j := by
  unfold halfN
  exact Nat.lt_succ_of_le (Nat.div_le_div_right (by omega))
theorem spL_ne {W H k x y : Nat} {f : Nat → Nat → Int} (hW : 1 ≤ W) (hH : 1 ≤ H) (hx : x < halfN W k) (hy : y < halfN H k) : spL W H k f x y ≠ [] := by
  have hx' := half_mul hx
  have hy' := half_mul hy
  refine List.ne_nil_of_mem ((mem_spL hW hH hx hy (f (x * 2 ^ k) (y * 2 ^ k))).2 ⟨_, _, by omega, by omega, ?_, ?_, rfl⟩)
  · exact Nat.mul_div_cancel _ (pow_pos' k)
  · exact Nat.mul_div_cancel _ (pow_pos' k)
theorem lv_mn_step {W H j x y : Nat} {f : Nat → Nat → Int} (hW : 1 ≤ W) (hH : 1 ≤ H) (hx : x < halfN W (j + 1)) (hy : y < halfN H (j + 1)) :
    lv mnL (halfN W j) (halfN H j) 1 (lv mnL W H j f) x y = lv mnL W H (j + 1) f x y := by
  have w1 := (half_le (k := j) hW).1
  have h1 := (half_le (k := j) hH).1
  have hx' : x < halfN (halfN W j) 1 := by rw [halfN_step]; exact hx
  have hy' : y < halfN (halfN H j) 1 := by rw [halfN_step]; exact hy
  symm
  unfold lv
  refine mnL_eq ?_ fun v hv => ?_
  · have := mnL_mem (spL_ne (f := lv mnL W H j f) w1 h1 hx' hy')
    obtain ⟨a, b, ha, hb, ex, ey, e⟩ := (mem_spL w1 h1 hx' hy' _).1 this
    rw [show (fun x y => mnL (spL W H j f x y)) = lv mnL W H j f from rfl, ← e]
    have := mnL_mem (spL_ne (f := f) hW hH ha hb)
    obtain ⟨a', b', ha', hb', ex', ey', e'⟩ := (mem_spL hW hH ha hb _).1 this
    refine (mem_spL hW hH hx hy _).2 ⟨a', b', ha', hb', ?_, ?_, e'⟩
    · rw [← div_step, ex']; exact ex
    · rw [← div_step, ey']; exact ey
  · obtain ⟨a, b, ha, hb, ex, ey, e⟩ := (mem_spL hW hH hx hy _).1 hv
    have ha' := cell_in j ha
    have hb' := cell_in j hb
    have h1' : mnL (spL W H j f (a / 2 ^ j) (b / 2 ^ j)) ≤ v := mnL_le ((mem_spL hW hH ha' hb' _).2 ⟨a, b, ha, hb, rfl, rfl, e⟩)
    refine Int.le_trans (mnL_le ((mem_spL w1 h1 hx' hy' _).2 ⟨a / 2 ^ j, b / 2 ^ j, ha', hb', ?_, ?_, rfl⟩)) h1'
    · rw [div_step]; exact ex
    · rw [div_step]; exact ey
theorem lv_mx_step {W H j x y : Nat} {f : Nat → Nat → Int} (hW : 1 ≤ W) (hH : 1 ≤ H) (hx : x < halfN W (j + 1)) (hy : y < halfN H (j + 1)) :
    lv mxL (halfN W j) (halfN H j) 1 (lv mxL W H j f) x y = lv mxL W H (j + 1) f x y := by
  have w1 := (half_le (k := j) hW).1
  have h1 := (half_le (k := j) hH).1
  have hx' : x < halfN (halfN W j) 1 := by rw [halfN_step]; exact hx
  have hy' : y < halfN (halfN H j) 1 := by rw [halfN_step]; exact hy
  symm
  unfold lv
  refine mxL_eq ?_ fun v hv => ?_
  · have := mxL_mem (spL_ne (f := lv mxL W H j f) w1 h1 hx' hy')
    obtain ⟨a, b, ha, hb, ex, ey, e⟩ := (mem_spL w1 h1 hx' hy' _).1 this
    rw [show (fun x y => mxL (spL W H j f x y)) = lv mxL W H j f from rfl, ← e]
    have := mxL_mem (spL_ne (f := f) hW hH ha hb)
    obtain ⟨a', b', ha', hb', ex', ey', e'⟩ := (mem_spL hW hH ha hb _).1 this
    refine (mem_spL hW hH hx hy _).2 ⟨a', b', ha', hb', ?_, ?_, e'⟩
    · rw [← div_step, ex']; exact ex
    · rw [← div_step, ey']; exact ey
  · obtain ⟨a, b, ha, hb, ex, ey, e⟩ := (mem_spL hW hH hx hy _).1 hv
    have ha' := cell_in j ha
    have hb' := cell_in j hb
    have h1' : v ≤ mxL (spL W H j f (a / 2 ^ j) (b / 2 ^ j)) := le_mxL ((mem_spL hW hH ha' hb' _).2 ⟨a, b, ha, hb, rfl, rfl, e⟩)
    refine Int.le_trans h1' (le_mxL ((mem_spL w1 h1 hx' hy' _).2 ⟨a / 2 ^ j, b / 2 ^ j, ha', hb', ?_, ?_, rfl⟩))
    · rw [div_step]; exact ex
    · rw [div_step]; exact ey

theorem sumL_go : ∀ (l : List Int) (s a b : Int), (∀ v ∈ l, a ≤ v ∧ v ≤ b) → s + a * l.length ≤ l.foldl (· + ·) s ∧ l.foldl (· + ·) s ≤ s + b * l.length
  | [], s, a, b, _ => by simp
  | v :: l, s, a, b, h => by
    obtain ⟨h1, h2⟩ := sumL_go l (s + v) a b fun u hu => h u (List.mem_cons_of_mem _ hu)
    obtain ⟨h3, h4⟩ := h v List.mem_cons_self
    simp only [List.foldl_cons, List.length_cons]
    have e1 : a * ((l.length + 1 : Nat) : Int) = a * (l.length : Int) + a := by rw [Int.natCast_add, Int.mul_add]; simp
    have e2 : b * ((l.length + 1 : Nat) : Int) = b * (l.length : Int) + b := by rw [Int.natCast_add, Int.mul_add]; simp
    rw [e1, e2]
    omega
theorem mean_mid {l : List Int} (h0 : l ≠ []) : mnL l ≤ meanL l ∧ meanL l ≤ mxL l := by
  obtain ⟨h1, h2⟩ := sumL_go l 0 (mnL l) (mxL l) fun v hv => ⟨mnL_le hv, le_mxL hv⟩
  have hl : (0 : Int) < l.length := by have := List.length_pos_iff.2 h0; omega
  unfold meanL sumL
  refine ⟨(Int.le_ediv_iff_mul_le hl).2 (by omega), Int.le_of_lt_add_one ((Int.ediv_lt_iff_lt_mul hl).2 ?_)⟩
  rw [Int.add_mul]
  omega
theorem lv_mid {W H k x y : Nat} {f : Nat → Nat → Int} (hW : 1 ≤ W) (hH : 1 ≤ H) (hx : x < halfN W k) (hy : y < halfN H k) : lv mnL W H k f x y ≤ lv meanL W H k f x y ∧ lv meanL W H k f x y ≤ lv mxL W H k f x y := mean_mid (spL_ne hW hH hx hy)
/-- what holds at each cell holds at each place of the lists -/
theorem vRows_rel {W H : Nat} {f g : Nat → Nat → Int} {P : Int → Int → Prop} (h : ∀ x y, x < W → y < H → P (f x y) (g x y)) {i : Nat} (h1 : i < (vRows f 0 W 0 H).length) (h2 : i < (vRows g 0 W 0 H).length) : P ((vRows f 0 W 0 H)[i]) ((vRows g 0 W 0 H)[i]) := by
  have hl : i < W * H := by rw [vRows_len, Nat.mul_comm] at h1; exact h1
  have hW : 0 < W := Nat.pos_of_ne_zero fun c => by subst c; rw [Nat.zero_mul] at hl; omega
  have hx : i % W < W := Nat.mod_lt _ hW
  have hy : i / W < H := Nat.div_lt_of_lt_mul hl
  have e := fun (f : Nat → Nat → Int) => gv_vRows (f := f) hx hy
  have ei : i / W * W + i % W = i := by rw [Nat.mul_comm]; exact Nat.div_add_mod i W
  have e1 : (vRows f 0 W 0 H).getD (i / W * W + i % W) 0 = f (i % W) (i / W) := e f
  have e2 : (vRows g 0 W 0 H).getD (i / W * W + i % W) 0 = g (i % W) (i / W) := e g
  rw [ei, List.getD_eq_getElem?_getD, List.getElem?_eq_getElem h1] at e1
  rw [ei, List.getD_eq_getElem?_getD, List.getElem?_eq_getElem h2] at e2
  simp only [Option.getD_some] at e1 e2
  rw [e1, e2]
  exact h _ _ hx hy
end Go.Proofs.Ytccpgalpahfpaaa

