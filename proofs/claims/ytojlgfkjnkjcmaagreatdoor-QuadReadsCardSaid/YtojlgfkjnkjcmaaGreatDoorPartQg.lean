/-
  Texts of the proofs, one behind the other: QuadOfW.
-/
import Derived.Test.YtojlgfkjnkjcmaaGreatDoorPartQd
import Derived.Test.YtojlgfkjnkjcmaaGreatDoorPartQc
/-
  SETS BY SQUARES: the walk of QuadOf.
-/
namespace Go.Proofs.YtojlgfkjnkjcmaaGreatDoor
open Go.RowKit
open Sy
set_option linter.unusedVariables false
set_option linter.unusedSimpArgs false
set_option maxRecDepth 100000
set_option maxHeartbeats 4000000

/-- in every later world -/
theorem numW_wasQ {W w : World} (h : NumW W) (s : Sat (was W) w) : NumW w := by
  have key : ∀ n cs, W.var? Tryz.prog n = some cs → w.var? Tryz.prog n = some cs := fun n cs e => by
    unfold World.var? at e ⊢
    obtain ⟨g, hg, e⟩ := Option.bind_eq_some_iff.1 e
    rw [hg]
    simp only [Option.bind_some]
    split at e
    · rename_i cs' _ _ hh
      rw [was_ext s hh]
      exact e
    · cases e
  exact ⟨key _ _ h.1, h.2.1.imp fun _ => Exists.imp fun _ => key _ _, h.2.2.imp fun _ => Exists.imp fun _ => key _ _⟩
theorem over_gS {W H : Nat} {l : List Int} (hl : l.length = W * H) (t : Int) (n : Nat) : canon (inQ W H (overQ (gv W l) t)) n 0 0 = canon (gS W H (ovl l t)) n 0 0 := canon_congr fun u v i => by
  unfold InSq at i
  unfold gS inQ
  by_cases hu : u < W
  · by_cases hv : v < H
    · rw [decide_eq_true hu, decide_eq_true hv]
      simp only [Bool.true_and]
      obtain ⟨a, rfl⟩ : ∃ a : Nat, u = a := ⟨u.toNat, by omega⟩
      obtain ⟨b, rfl⟩ : ∃ b : Nat, v = b := ⟨v.toNat, by omega⟩
      have hlt := ix_lt (W := W) (H := H) (u := a) (v := b) (by omega) (by omega)
      unfold overQ gv inL ovl
      rw [Int.toNat_natCast, Int.toNat_natCast, show ((b : Int) * W + (a : Int)).toNat = b * W + a by rw [← Int.natCast_mul, ← Int.natCast_add, Int.toNat_natCast], List.getElem?_map, List.getElem?_eq_getElem (by omega), List.getD_eq_getElem?_getD, List.getElem?_eq_getElem (by omega)]
      rfl
    · rw [decide_eq_false hv]; simp
  · rw [decide_eq_false hu]; simp
theorem sHasAny {R : HP} {a W H n : Nat} {l : List Bool} (ha : QuadOf R a W H n (gS W H l)) (hn : n ≤ 10) (hS : Side (max (W : Int) H) n) (x y : Int) : PureR Tryz.prog R 20 [ptV a, ceV x y] (.bool (decide (0 ≤ x) && decide (0 ≤ y) && gS W H l x y)) := by
  by_cases h : 0 ≤ x ∧ 0 ≤ y ∧ x < W ∧ y < H
  · obtain ⟨h1, h2, h3, h4⟩ := h
    have := sHasIn ha hn hS ⟨h1, h3⟩ ⟨h2, h4⟩
    rw [decide_eq_true h1, decide_eq_true h2]
    simp only [Bool.true_and]
    exact this
  · have e : (decide (0 ≤ x) && decide (0 ≤ y) && gS W H l x y) = false := by
      by_cases h1 : 0 ≤ x
      · by_cases h2 : 0 ≤ y
        · rw [gS_out (by omega)]; simp
        · rw [decide_eq_false h2]; simp
      · rw [decide_eq_false h1]; simp
    rw [e]
    exact sHasOut ha (by omega)
theorem canon_even {W H : Int} {n : Nat} (hS : Side (max W H) n) (f : Int → Int → Bool) : oddQ W H n (canon (inQ W H f) n 0 0) 0 0 = false := by
  refine (odd_canon canon_fits).2 (canon_congr fun u v i => ?_)
  unfold inQ
  rw [look_canon i]
  by_cases hu : u < W
  · by_cases hv : v < H
    · rw [decide_eq_true hu, decide_eq_true hv]; rfl
    · rw [decide_eq_false hv]; simp
  · rw [decide_eq_false hu]; simp
theorem side_text {W : Int} (h0 : -9223372036854775808 ≤ W) (h1 : W ≤ 9223372036854775807) (pre : List UInt8) (rest : List UInt8) : sideV (pre ++ (Lib.itoa W ++ 32 :: rest)) pre.length = some (W, pre.length + (Lib.itoa W).length + 1) := by
  have hs := scan_itoa W h0 h1 (32 :: rest) (fun c hc => by simp at hc; rw [← hc]; rfl)
  have hk : pre.length ≤ (pre ++ (Lib.itoa W ++ 32 :: rest)).length := by simp
  have h2 := scan_shift (pre ++ (Lib.itoa W ++ 32 :: rest)) hk
  rw [List.drop_left, hs] at h2
  simp only [if_pos] at h2
  unfold sideV
  rw [h2]
  have e : ((pre.length : Int) + ((Lib.itoa W).length : Int)).toNat = pre.length + (Lib.itoa W).length := by omega
  rw [if_pos ⟨rfl, by rw [e]; simp, by rw [e, List.getElem?_append_right (by omega), Nat.add_sub_cancel_left, List.getElem?_append_right (by omega), Nat.sub_self]; rfl⟩]
  simp only [e]
/-- what is printed is read: plain -/
theorem runes_print {n : Nat} {t : QT} (h : fitsQ n t) : parseQ n (runesL (printQ t)) = some (t, []) := by
  have h1 := parse_print n t [] h
  rw [List.append_nil] at h1
  rcases both_parse n (printQ t) with ⟨e, _⟩ | ⟨t', r, e1, e2⟩
  · rw [h1] at e; cases e
  · rw [h1] at e1
    injection e1 with e1
    injection e1 with a b
    subst a
    have : r = [] := by
      cases r with
      | nil => rfl
      | cons c r => simp [sgnQ] at b
    rw [e2, this]
    rfl
theorem sReadText {R : HP} (hN : ∀ w, Sat R w → NumW w) {W H n : Nat} (w1 : 1 ≤ W) (w2 : W ≤ 1024) (h1 : 1 ≤ H) (h2 : H ≤ 1024) (hn : n ≤ 9) (hS : Side (max (W : Int) H) n) (f : Int → Int → Bool) :
    FnR Tryz.prog R 17 [.string (bs (textQ W H (canon (inQ W H f) n 0 0)))] [] fun r hs => ∃ qb, r = .tuple #[ptV qb, .int .i64 0] ∧ hs = [quadG qb W H n (inQ W H f)] := by
  have hlt := print_le (canon_fits (g := inQ W H f) (n := n) (x := 0) (y := 0))
  have h4 : ∀ n, n ≤ 9 → 2 * 4 ^ n ≤ 524288 := by decide
  have h4 := h4 n hn
  have l1 := itoa_len4 w2
  have l2 := itoa_len4 h2
  have hev := canon_even hS f
  have hrp := runes_print (canon_fits (g := inQ W H f) (n := n) (x := 0) (y := 0))
  unfold quadG
  generalize canon (inQ W H f) n 0 0 = t at *
  have e1 : textQ W H t = [] ++ (Lib.itoa W ++ 32 :: (Lib.itoa H ++ 32 :: printQ t)) := by simp [textQ]
  have e2 : textQ W H t = (Lib.itoa W ++ [32]) ++ (Lib.itoa H ++ 32 :: printQ t) := by simp [textQ]
  have s1 := side_text (W := (W : Int)) (by omega) (by omega) [] (Lib.itoa H ++ 32 :: printQ t)
  have s2 := side_text (W := (H : Int)) (by omega) (by omega) (Lib.itoa W ++ [32]) (printQ t)
  rw [← e1] at s1
  rw [← e2] at s2
  have elen : (textQ W H t).length = (Lib.itoa W).length + 1 + (Lib.itoa H).length + 1 + (printQ t).length := by simp [textQ]; omega
  have k1 : ([] : List UInt8).length + (Lib.itoa W).length + 1 = (Lib.itoa W ++ [32]).length := by simp
  rw [k1] at s1
  refine sQReadOk fun R' hR' => ?_
  refine sReadG (fun w s => hN w (hR' w s)) (l := textQ W H t) (W := W) (H := H) (k1 := (Lib.itoa W ++ [32]).length) (k2 := (Lib.itoa W ++ [32]).length + (Lib.itoa H).length + 1) (by omega) s1 (by rw [elen, List.length_append, List.length_cons, List.length_nil]; omega) s2 (by rw [elen, List.length_append, List.length_cons, List.length_nil]; omega) ⟨by omega, by omega⟩ ⟨by omega, by omega⟩ ⟨by omega, by omega, by omega, by omega⟩ (q := printQ t) ?_ rfl (n := n) (by omega) hS (t := t) (r := []) hrp rfl hev
  rw [e2, show Lib.itoa W ++ [32] ++ (Lib.itoa H ++ 32 :: printQ t) = (Lib.itoa W ++ [32] ++ Lib.itoa H ++ [32]) ++ printQ t by simp]
  have e3 : (Lib.itoa (W : Int) ++ [32]).length + (Lib.itoa (H : Int)).length + 1 = (Lib.itoa (W : Int) ++ [32] ++ Lib.itoa (H : Int) ++ [32]).length := by simp; omega
  rw [e3, List.drop_left]
theorem quadOf_gS {R : HP} {qb : Nat} {W H n : Nat} {l : List Int} {t : Int} {L : List HP} {R' : HP} (hl : l.length = W * H) (i : Nat) (h : ∀ w, Sat R w → Sat (sepL L R') w) (hi : L[i]? = some (quadH qb W H (canon (inQ W H (overQ (gv W l) t)) n 0 0))) : QuadOf R qb W H n (gS W H (ovl l t)) := fun w s => by
  have := quadAt_of ((h w s).in_ i hi)
  rwa [over_gS hl] at this
theorem setAt_row {R : HP} {W H c : Nat} {A : Option Addr} {l : List Int} {t : Int} (w1 : 1 ≤ W) (w2 : W ≤ 1024) (h1 : 1 ≤ H) (h2 : H ≤ 1024) (hl : l.length = W * H) (h : ∀ w, Sat R w → Sat (rowH (.slice A (W * H) c) (W * H) 4 1 (bls (ovl l t))) w) : SetAt R W H A (ovl l t) := ⟨w1, w2, h1, h2, by rw [ovl_len, hl], Sl.row h⟩
theorem QuadOf_walk (W H : Int) (A : Option Addr) (m c : Nat) (l : List Int) (t cx cy : Int) (w : World) (hT : NumW w) (ha : Reads w w.heap.size 1 A m (ints l)) (hm : m ≤ maxLen) :
    Calls Tryz.prog 5 #[.int .i64 W, .int .i64 H, .slice A m c, .int .i64 t, ceV cx cy] w fun e w' => e = .returned (.bool true) ∧ Below w.heap.size w w' := by
  refine PureR.below (args := [.int .i64 W, .int .i64 H, .slice A m c, .int .i64 t, ceV cx cy]) ?_
  have hv := vs_of_reads ha
  have hNW := fun R' (h : ∀ w', Sat R' w' → Sat (was w) w') => fun w' (s : Sat R' w') => numW_wasQ hT (h w' s)
  have haw := fun R' (h : ∀ w', Sat R' w' → Sat (was w) w') => sAwake50 (R := R') fun w' s => (hNW R' h w' s).1
  by_cases hok : LandOk W H 400 m l
  · obtain ⟨W, H, rfl, rfl, w1, w2, h1, h2, hWH, hn0, hn1⟩ := land_nat hok (by decide)
    have hvm := hok.2.2.2.2.2.2
    have hml : l.length = m := by have := ha.1; simpa [ints] using this
    subst hWH
    have hsmall : W ≤ 400 ∧ H ≤ 400 := by
      have a := hok.2.2.1
      have b := hok.2.2.2.1
      omega
    obtain ⟨n, hn, hS⟩ := side_ex 9 (max (W : Int) H) (by have : (2 : Int) ^ 9 = 512 := rfl; omega)
    have hcnt := cnt_leaves (l := ovl l t) (by rw [ovl_len, hml]) w2 h2 hS
    have hrt := fun R' h => sReadText (R := R') (hNW R' h) w1 w2 h1 h2 hn hS (inL W (ovl l t))
    have hpl : (printQ (canon (gS W H (ovl l t)) n 0 0)).length ≤ 900000 := by
      have := print_le (canon_fits (g := gS W H (ovl l t)) (n := n) (x := 0) (y := 0))
      have h4 : ∀ n, n ≤ 9 → 2 * 4 ^ n ≤ 524288 := by decide
      have h4 := h4 n hn
      omega
    have hpr := fun (R' : HP) (h : ∀ w', Sat R' w' → Sat (was w) w') qb (hq : QuadOf R' qb W H n (gS W H (ovl l t))) => sPrintQ (R := R') (fun w' s => (hNW R' h w' s).1) hq (by omega) (by omega) (itoa_len4 w2) (itoa_len4 h2) hpl
    refine fn_of_run0 false Tryz.func5 rfl hmix rfl fun w0 => ?_
    conv => whnf
    refine ⟨trivial, CallAt.pure (fun R' hR' => haw R' hR') ?_⟩
    conv => whnf
    refine iff_f rfl ?_
    conv => whnf
    refine ⟨trivial, CallAt.pure (fun R' hR' => sLandYes (hv.mono fun w s => hR' w s) (by decide) hm hok) ?_⟩
    conv => whnf
    repeat (first | (refine ⟨fun _ => ?_, fun h => absurd h (by decide)⟩; conv => whnf) | (refine ⟨fun h => absurd h (by decide), fun _ => ?_⟩; conv => whnf))
    refine ⟨trivial, CallAt.fn (pre := []) _ (fun h s => s) (fun R' hR' => sMadeV (hv.mono fun w s => (hR' w s).rest) w1 w2 h1 h2 rfl hvm) ?_⟩
    rintro r hs ⟨g1, rfl, rfl⟩
    conv => whnf
    refine ⟨trivial, CallAt.fn (pre := []) _ (fun h s => s) (fun R' hR' => sQOf t (gridAt_rest 0 rfl hR') (by omega) hS) ?_⟩
    rintro r hs ⟨q1, rfl, rfl⟩
    conv => whnf
    refine ⟨trivial, CallAt.fn (pre := []) _ (fun h s => s) (fun R' hR' => rOfQ t (hv.mono fun w s => (hR' w s).rest) (by omega)) ?_⟩
    rintro r hs ⟨A2, c2, rfl, rfl⟩
    conv => whnf
    refine ⟨trivial, RegAt.quiet hmix (by kernel_rfl) ?_⟩
    conv => whnf
    repeat (first | (refine And.intro ?_ ?_; rotate_left; (focus (intro g; exfalso; first | (simp at g; done) | (simp at g; omega) | (revert g; decide))); intro _; conv => whnf) | (refine And.intro ?_ ?_; (focus (intro g; exfalso; first | (simp at g; done) | (simp at g; omega) | (revert g; decide))); intro _; conv => whnf))
    refine ⟨trivial, CallQ.pure (fun R' hR' => sIsQ (fun w s => (hNW R' (fun w s => (hR' w s).rest) w s).1) (quadOf_gS hml 1 hR' rfl) (setAt_row w1 w2 h1 h2 hml fun w s => (hR' w s).in_ 0 rfl) hn hS hcnt) ?_⟩
    conv => whnf
    repeat (first | (refine And.intro ?_ ?_; rotate_left; (focus (intro g; exfalso; first | (simp at g; done) | (simp at g; omega) | (revert g; decide))); intro _; conv => whnf) | (refine And.intro ?_ ?_; (focus (intro g; exfalso; first | (simp at g; done) | (simp at g; omega) | (revert g; decide))); intro _; conv => whnf))
    refine ⟨trivial, CallQ.pure (fun R' hR' => sHasAny (quadOf_gS hml 1 hR' rfl) (by omega) hS cx cy) ?_⟩
    conv => whnf
    refine ⟨trivial, CallQ.pure (fun R' hR' => rHas (setAt_row w1 w2 h1 h2 hml fun w s => (hR' w s).in_ 0 rfl) cx cy) ?_⟩
    conv => whnf
    refine ⟨trivial, ?_⟩
    conv => whnf
    repeat (first | (refine And.intro ?_ ?_; rotate_left; (focus (intro g; exfalso; first | (simp at g; done) | (simp at g; omega) | (revert g; decide))); intro _; conv => whnf) | (refine And.intro ?_ ?_; (focus (intro g; exfalso; first | (simp at g; done) | (simp at g; omega) | (revert g; decide))); intro _; conv => whnf))
    refine ⟨trivial, CallAt.pure (fun R' hR' => hpr R' (fun w s => (hR' w s).rest) q1 (quadOf_gS hml 1 hR' rfl)) ?_⟩
    conv => whnf
    refine ⟨trivial, CallAt.fn (pre := []) _ (fun h s => s) (fun R' hR' => hrt R' fun w s => (hR' w s).rest) ?_⟩
    rintro r hs ⟨q2, rfl, rfl⟩
    conv => whnf
    repeat (first | (refine And.intro ?_ ?_; rotate_left; (focus (intro g; exfalso; first | (simp at g; done) | (simp at g; omega) | (revert g; decide))); intro _; conv => whnf) | (refine And.intro ?_ ?_; (focus (intro g; exfalso; first | (simp at g; done) | (simp at g; omega) | (revert g; decide))); intro _; conv => whnf))
    refine ⟨trivial, CallAt.pure (fun R' hR' => sIsQ (fun w s => (hNW R' (fun w s => (hR' w s).rest) w s).1) (quadOf_at 0 hR' rfl) (setAt_row w1 w2 h1 h2 hml fun w s => (hR' w s).in_ 1 rfl) hn hS hcnt) ?_⟩
    conv => whnf
    exact ⟨trivial, fin_drop rfl⟩
  · refine fn_of_run0 false Tryz.func5 rfl hmix rfl fun w0 => ?_
    conv => whnf
    refine ⟨trivial, CallAt.pure (fun R' hR' => haw R' hR') ?_⟩
    conv => whnf
    refine iff_f rfl ?_
    conv => whnf
    refine ⟨trivial, CallAt.pure (fun R' hR' => sLandNo (hv.mono fun w s => hR' w s) (by decide) hm hok) ?_⟩
    conv => whnf
    repeat (first | (refine ⟨fun _ => ?_, fun h => absurd h (by decide)⟩; conv => whnf) | (refine ⟨fun h => absurd h (by decide), fun _ => ?_⟩; conv => whnf))
    exact ⟨trivial, fin_drop rfl⟩
end Go.Proofs.YtojlgfkjnkjcmaaGreatDoor

