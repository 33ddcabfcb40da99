/-
  The statement QuadOf: for every input the call returns true. The texts: QuadOfW, NumDoor, QuadOfRow.
-/
import Derived.Test.YtojlgfkjnkjcmaaGreatDoorPartQd
import Derived.Test.YtojlgfkjnkjcmaaGreatDoorPartQc
import Derived.Test.YtojlgfkjnkjcmaaGreatDoorPartV
import Derived.ProofKit
import Derived.OpenShut
import Derived.Lib.SmallJoins
import Derived.LaidMore
import Derived.Stop.Joined
import Derived.Stop.LaidErr
import Derived.Lib.LaidTab
import Derived.SevenTiedAt
import Derived.Test.YtojlgfkjnkjcmaaGreatDoorCards
import Derived.Test.YtojlgfkjnkjcmaaGreatDoorTie
/-
  SETS BY SQUARES: the walk of QuadOf.
-/
namespace Go.Proofs.YtojlgfkjnkjcmaaGreatDoor
open Go.RowKit
open Sy
set_option linter.unusedVariables false
set_option linter.unusedSimpArgs false
set_option maxRecDepth 100000
set_option maxHeartbeats 4000000

/-- in every later world -/
theorem numW_wasQ {W w : World} (h : NumW W) (s : Sat (was W) w) : NumW w := by
  have key : ∀ n cs, W.var? Tryz.prog n = some cs → w.var? Tryz.prog n = some cs := fun n cs e => by
    unfold World.var? at e ⊢
    obtain ⟨g, hg, e⟩ := Option.bind_eq_some_iff.1 e
    rw [hg]
    simp only [Option.bind_some]
    split at e
    · rename_i cs' _ _ hh
      rw [was_ext s hh]
      exact e
    · cases e
  exact ⟨key _ _ h.1, h.2.1.imp fun _ => Exists.imp fun _ => key _ _, h.2.2.imp fun _ => Exists.imp fun _ => key _ _⟩
theorem over_gS {W H : Nat} {l : List Int} (hl : l.length = W * H) (t : Int) (n : Nat) : canon (inQ W H (overQ (gv W l) t)) n 0 0 = canon (gS W H (ovl l t)) n 0 0 := canon_congr fun u v i => by
  unfold InSq at i
  unfold gS inQ
  by_cases hu : u < W
  · by_cases hv : v < H
    · rw [decide_eq_true hu, decide_eq_true hv]
      simp only [Bool.true_and]
      obtain ⟨a, rfl⟩ : ∃ a : Nat, u = a := ⟨u.toNat, by omega⟩
      obtain ⟨b, rfl⟩ : ∃ b : Nat, v = b := ⟨v.toNat, by omega⟩
      have hlt := ix_lt (W := W) (H := H) (u := a) (v := b) (by omega) (by omega)
      unfold overQ gv inL ovl
      rw [Int.toNat_natCast, Int.toNat_natCast, show ((b : Int) * W + (a : Int)).toNat = b * W + a by rw [← Int.natCast_mul, ← Int.natCast_add, Int.toNat_natCast], List.getElem?_map, List.getElem?_eq_getElem (by omega), List.getD_eq_getElem?_getD, List.getElem?_eq_getElem (by omega)]
      rfl
    · rw [decide_eq_false hv]; simp
  · rw [decide_eq_false hu]; simp
theorem sHasAny {R : HP} {a W H n : Nat} {l : List Bool} (ha : QuadOf R a W H n (gS W H l)) (hn : n ≤ 10) (hS : Side (max (W : Int) H) n) (x y : Int) : PureR Tryz.prog R 20 [ptV a, ceV x y] (.bool (decide (0 ≤ x) && decide (0 ≤ y) && gS W H l x y)) := by
  by_cases h : 0 ≤ x ∧ 0 ≤ y ∧ x < W ∧ y < H
  · obtain ⟨h1, h2, h3, h4⟩ := h
    have := sHasIn ha hn hS ⟨h1, h3⟩ ⟨h2, h4⟩
    rw [decide_eq_true h1, decide_eq_true h2]
    simp only [Bool.true_and]
    exact this
  · have e : (decide (0 ≤ x) && decide (0 ≤ y) && gS W H l x y) = false := by
      by_cases h1 : 0 ≤ x
      · by_cases h2 : 0 ≤ y
        · rw [gS_out (by omega)]; simp
        · rw [decide_eq_false h2]; simp
      · rw [decide_eq_false h1]; simp
    rw [e]
    exact sHasOut ha (by omega)
theorem canon_even {W H : Int} {n : Nat} (hS : Side (max W H) n) (f : Int → Int → Bool) : oddQ W H n (canon (inQ W H f) n 0 0) 0 0 = false := by
  refine (odd_canon canon_fits).2 (canon_congr fun u v i => ?_)
  unfold inQ
  rw [look_canon i]
  by_cases hu : u < W
  · by_cases hv : v < H
    · rw [decide_eq_true hu, decide_eq_true hv]; rfl
    · rw [decide_eq_false hv]; simp
  · rw [decide_eq_false hu]; simp
theorem side_text {W : Int} (h0 : -9223372036854775808 ≤ W) (h1 : W ≤ 9223372036854775807) (pre : List UInt8) (rest : List UInt8) : sideV (pre ++ (Lib.itoa W ++ 32 :: rest)) pre.length = some (W, pre.length + (Lib.itoa W).length + 1) := by
  have hs := scan_itoa W h0 h1 (32 :: rest) (fun c hc => by simp at hc; rw [← hc]; rfl)
  have hk : pre.length ≤ (pre ++ (Lib.itoa W ++ 32 :: rest)).length := by simp
  have h2 := scan_shift (pre ++ (Lib.itoa W ++ 32 :: rest)) hk
  rw [List.drop_left, hs] at h2
  simp only [if_pos] at h2
  unfold sideV
  rw [h2]
  have e : ((pre.length : Int) + ((Lib.itoa W).length : Int)).toNat = pre.length + (Lib.itoa W).length := by omega
  rw [if_pos ⟨rfl, by rw [e]; simp, by rw [e, List.getElem?_append_right (by omega), Nat.add_sub_cancel_left, List.getElem?_append_right (by omega), Nat.sub_self]; rfl⟩]
  simp only [e]
/-- what is printed is read: plain -/
theorem runes_print {n : Nat} {t : QT} (h : fitsQ n t) : parseQ n (runesL (printQ t)) = some (t, []) := by
  have h1 := parse_print n t [] h
  rw [List.append_nil] at h1
  rcases both_parse n (printQ t) with ⟨e, _⟩ | ⟨t', r, e1, e2⟩
  · rw [h1] at e; cases e
  · rw [h1] at e1
    injection e1 with e1
    injection e1 with a b
    subst a
    have : r = [] := by
      cases r with
      | nil => rfl
      | cons c r => simp [sgnQ] at b
    rw [e2, this]
    rfl
theorem sReadText {R : HP} (hN : ∀ w, Sat R w → NumW w) {W H n : Nat} (w1 : 1 ≤ W) (w2 : W ≤ 1024) (h1 : 1 ≤ H) (h2 : H ≤ 1024) (hn : n ≤ 9) (hS : Side (max (W : Int) H) n) (f : Int → Int → Bool) :
    FnR Tryz.prog R 17 [.string (bs (textQ W H (canon (inQ W H f) n 0 0)))] [] fun r hs => ∃ qb, r = .tuple #[ptV qb, .int .i64 0] ∧ hs = [quadG qb W H n (inQ W H f)] := by
  have hlt := print_le (canon_fits (g := inQ W H f) (n := n) (x := 0) (y := 0))
  have h4 : ∀ n, n ≤ 9 → 2 * 4 ^ n ≤ 524288 := by decide
  have h4 := h4 n hn
  have l1 := itoa_len4 w2
  have l2 := itoa_len4 h2
  have hev := canon_even hS f
  have hrp := runes_print (canon_fits (g := inQ W H f) (n := n) (x := 0) (y := 0))
  unfold quadG
  generalize canon (inQ W H f) n 0 0 = t at *
  have e1 : textQ W H t = [] ++ (Lib.itoa W ++ 32 :: (Lib.itoa H ++ 32 :: printQ t)) := by simp [textQ]
  have e2 : textQ W H t = (Lib.itoa W ++ [32]) ++ (Lib.itoa H ++ 32 :: printQ t) := by simp [textQ]
  have s1 := side_text (W := (W : Int)) (by omega) (by omega) [] (Lib.itoa H ++ 32 :: printQ t)
  have s2 := side_text (W := (H : Int)) (by omega) (by omega) (Lib.itoa W ++ [32]) (printQ t)
  rw [← e1] at s1
  rw [← e2] at s2
  have elen : (textQ W H t).length = (Lib.itoa W).length + 1 + (Lib.itoa H).length + 1 + (printQ t).length := by simp [textQ]; omega
  have k1 : ([] : List UInt8).length + (Lib.itoa W).length + 1 = (Lib.itoa W ++ [32]).length := by simp
  rw [k1] at s1
  refine sQReadOk fun R' hR' => ?_
  refine sReadG (fun w s => hN w (hR' w s)) (l := textQ W H t) (W := W) (H := H) (k1 := (Lib.itoa W ++ [32]).length) (k2 := (Lib.itoa W ++ [32]).length + (Lib.itoa H).length + 1) (by omega) s1 (by rw [elen, List.length_append, List.length_cons, List.length_nil]; omega) s2 (by rw [elen, List.length_append, List.length_cons, List.length_nil]; omega) ⟨by omega, by omega⟩ ⟨by omega, by omega⟩ ⟨by omega, by omega, by omega, by omega⟩ (q := printQ t) ?_ rfl (n := n) (by omega) hS (t := t) (r := []) hrp rfl hev
  rw [e2, show Lib.itoa W ++ [32] ++ (Lib.itoa H ++ 32 :: printQ t) = (Lib.itoa W ++ [32] ++ Lib.itoa H ++ [32]) ++ printQ t by simp]
  have e3 : (Lib.itoa (W : Int) ++ [32]).length + (Lib.itoa (H : Int)).length + 1 = (Lib.itoa (W : Int) ++ [32] ++ Lib.itoa (H : Int) ++ [32]).length := by simp; omega
  rw [e3, List.drop_left]
theorem quadOf_gS {R : HP} {qb : Nat} {W H n : Nat} {l : List Int} {t : Int} {L : List HP} {R' : HP} (hl : l.length = W * H) (i : Nat) (h : ∀ w, Sat R w → Sat (sepL L R') w) (hi : L[i]? = some (quadH qb W H (canon (inQ W H (overQ (gv W l) t)) n 0 0))) : QuadOf R qb W H n (gS W H (ovl l t)) := fun w s => by
  have := quadAt_of ((h w s).in_ i hi)
  rwa [over_gS hl] at this
theorem setAt_row {R : HP} {W H c : Nat} {A : Option Addr} {l : List Int} {t : Int} (w1 : 1 ≤ W) (w2 : W ≤ 1024) (h1 : 1 ≤ H) (h2 : H ≤ 1024) (hl : l.length = W * H) (h : ∀ w, Sat R w → Sat (rowH (.slice A (W * H) c) (W * H) 4 1 (bls (ovl l t))) w) : SetAt R W H A (ovl l t) := ⟨w1, w2, h1, h2, by rw [ovl_len, hl], Sl.row h⟩
theorem QuadOf_walk (W H : Int) (A : Option Addr) (m c : Nat) (l : List Int) (t cx cy : Int) (w : World) (hT : NumW w) (ha : Reads w w.heap.size 1 A m (ints l)) (hm : m ≤ maxLen) :
    Calls Tryz.prog 5 #[.int .i64 W, .int .i64 H, .slice A m c, .int .i64 t, ceV cx cy] w fun e w' => e = .returned (.bool true) ∧ Below w.heap.size w w' := by
  refine PureR.below (args := [.int .i64 W, .int .i64 H, .slice A m c, .int .i64 t, ceV cx cy]) ?_
  have hv := vs_of_reads ha
  have hNW := fun R' (h : ∀ w', Sat R' w' → Sat (was w) w') => fun w' (s : Sat R' w') => numW_wasQ hT (h w' s)
  have haw := fun R' (h : ∀ w', Sat R' w' → Sat (was w) w') => sAwake50 (R := R') fun w' s => (hNW R' h w' s).1
  by_cases hok : LandOk W H 400 m l
  · obtain ⟨W, H, rfl, rfl, w1, w2, h1, h2, hWH, hn0, hn1⟩ := land_nat hok (by decide)
    have hvm := hok.2.2.2.2.2.2
    have hml : l.length = m := by have := ha.1; simpa [ints] using this
    subst hWH
    have hsmall : W ≤ 400 ∧ H ≤ 400 := by
      have a := hok.2.2.1
      have b := hok.2.2.2.1
      omega
    obtain ⟨n, hn, hS⟩ := side_ex 9 (max (W : Int) H) (by have : (2 : Int) ^ 9 = 512 := rfl; omega)
    have hcnt := cnt_leaves (l := ovl l t) (by rw [ovl_len, hml]) w2 h2 hS
    have hrt := fun R' h => sReadText (R := R') (hNW R' h) w1 w2 h1 h2 hn hS (inL W (ovl l t))
    have hpl : (printQ (canon (gS W H (ovl l t)) n 0 0)).length ≤ 900000 := by
      have := print_le (canon_fits (g := gS W H (ovl l t)) (n := n) (x := 0) (y := 0))
      have h4 : ∀ n, n ≤ 9 → 2 * 4 ^ n ≤ 524288 := by decide
      have h4 := h4 n hn
      omega
    have hpr := fun (R' : HP) (h : ∀ w', Sat R' w' → Sat (was w) w') qb (hq : QuadOf R' qb W H n (gS W H (ovl l t))) => sPrintQ (R := R') (fun w' s => (hNW R' h w' s).1) hq (by omega) (by omega) (itoa_len4 w2) (itoa_len4 h2) hpl
    refine fn_of_run0 false Tryz.func5 rfl hmix rfl fun w0 => ?_
    conv => whnf
    refine ⟨trivial, CallAt.pure (fun R' hR' => haw R' hR') ?_⟩
    conv => whnf
    refine iff_f rfl ?_
    conv => whnf
    refine ⟨trivial, CallAt.pure (fun R' hR' => sLandYes (hv.mono fun w s => hR' w s) (by decide) hm hok) ?_⟩
    conv => whnf
    repeat (first | (refine ⟨fun _ => ?_, fun h => absurd h (by decide)⟩; conv => whnf) | (refine ⟨fun h => absurd h (by decide), fun _ => ?_⟩; conv => whnf))
    refine ⟨trivial, CallAt.fn (pre := []) _ (fun h s => s) (fun R' hR' => sMadeV (hv.mono fun w s => (hR' w s).rest) w1 w2 h1 h2 rfl hvm) ?_⟩
    rintro r hs ⟨g1, rfl, rfl⟩
    conv => whnf
    refine ⟨trivial, CallAt.fn (pre := []) _ (fun h s => s) (fun R' hR' => sQOf t (gridAt_rest 0 rfl hR') (by omega) hS) ?_⟩
    rintro r hs ⟨q1, rfl, rfl⟩
    conv => whnf
    refine ⟨trivial, CallAt.fn (pre := []) _ (fun h s => s) (fun R' hR' => rOfQ t (hv.mono fun w s => (hR' w s).rest) (by omega)) ?_⟩
    rintro r hs ⟨A2, c2, rfl, rfl⟩
    conv => whnf
    refine ⟨trivial, RegAt.quiet hmix (by kernel_rfl) ?_⟩
    conv => whnf
    repeat (first | (refine And.intro ?_ ?_; rotate_left; (focus (intro g; exfalso; first | (simp at g; done) | (simp at g; omega) | (revert g; decide))); intro _; conv => whnf) | (refine And.intro ?_ ?_; (focus (intro g; exfalso; first | (simp at g; done) | (simp at g; omega) | (revert g; decide))); intro _; conv => whnf))
    refine ⟨trivial, CallQ.pure (fun R' hR' => sIsQ (fun w s => (hNW R' (fun w s => (hR' w s).rest) w s).1) (quadOf_gS hml 1 hR' rfl) (setAt_row w1 w2 h1 h2 hml fun w s => (hR' w s).in_ 0 rfl) hn hS hcnt) ?_⟩
    conv => whnf
    repeat (first | (refine And.intro ?_ ?_; rotate_left; (focus (intro g; exfalso; first | (simp at g; done) | (simp at g; omega) | (revert g; decide))); intro _; conv => whnf) | (refine And.intro ?_ ?_; (focus (intro g; exfalso; first | (simp at g; done) | (simp at g; omega) | (revert g; decide))); intro _; conv => whnf))
    refine ⟨trivial, CallQ.pure (fun R' hR' => sHasAny (quadOf_gS hml 1 hR' rfl) (by omega) hS cx cy) ?_⟩
    conv => whnf
    refine ⟨trivial, CallQ.pure (fun R' hR' => rHas (setAt_row w1 w2 h1 h2 hml fun w s => (hR' w s).in_ 0 rfl) cx cy) ?_⟩
    conv => whnf
    refine ⟨trivial, ?_⟩
    conv => whnf
    repeat (first | (refine And.intro ?_ ?_; rotate_left; (focus (intro g; exfalso; first | (simp at g; done) | (simp at g; omega) | (revert g; decide))); intro _; conv => whnf) | (refine And.intro ?_ ?_; (focus (intro g; exfalso; first | (simp at g; done) | (simp at g; omega) | (revert g; decide))); intro _; conv => whnf))
    refine ⟨trivial, CallAt.pure (fun R' hR' => hpr R' (fun w s => (hR' w s).rest) q1 (quadOf_gS hml 1 hR' rfl)) ?_⟩
    conv => whnf
    refine ⟨trivial, CallAt.fn (pre := []) _ (fun h s => s) (fun R' hR' => hrt R' fun w s => (hR' w s).rest) ?_⟩
    rintro r hs ⟨q2, rfl, rfl⟩
    conv => whnf
    repeat (first | (refine And.intro ?_ ?_; rotate_left; (focus (intro g; exfalso; first | (simp at g; done) | (simp at g; omega) | (revert g; decide))); intro _; conv => whnf) | (refine And.intro ?_ ?_; (focus (intro g; exfalso; first | (simp at g; done) | (simp at g; omega) | (revert g; decide))); intro _; conv => whnf))
    refine ⟨trivial, CallAt.pure (fun R' hR' => sIsQ (fun w s => (hNW R' (fun w s => (hR' w s).rest) w s).1) (quadOf_at 0 hR' rfl) (setAt_row w1 w2 h1 h2 hml fun w s => (hR' w s).in_ 1 rfl) hn hS hcnt) ?_⟩
    conv => whnf
    exact ⟨trivial, fin_drop rfl⟩
  · refine fn_of_run0 false Tryz.func5 rfl hmix rfl fun w0 => ?_
    conv => whnf
    refine ⟨trivial, CallAt.pure (fun R' hR' => haw R' hR') ?_⟩
    conv => whnf
    refine iff_f rfl ?_
    conv => whnf
    refine ⟨trivial, CallAt.pure (fun R' hR' => sLandNo (hv.mono fun w s => hR' w s) (by decide) hm hok) ?_⟩
    conv => whnf
    repeat (first | (refine ⟨fun _ => ?_, fun h => absurd h (by decide)⟩; conv => whnf) | (refine ⟨fun h => absurd h (by decide), fun _ => ?_⟩; conv => whnf))
    exact ⟨trivial, fin_drop rfl⟩
end Go.Proofs.YtojlgfkjnkjcmaaGreatDoor

/-
  What the rows' condition on the listed variables gives.
-/
namespace Go.Proofs.YtojlgfkjnkjcmaaGreatDoor
open Go.ChangeShapes Go.WideShapes Go.ChangeAt Go.RowKit Go.Joins Sy
set_option linter.unusedVariables false
set_option linter.unusedSimpArgs false
set_option maxRecDepth 100000
set_option maxHeartbeats 4000000

abbrev L5 : List (String × DataW Unit) := [("math/bits.deBruijn32tab", Rows.laid_math_bits_deBruijn32tab), ("math/bits.deBruijn64tab", Rows.laid_math_bits_deBruijn64tab), ("internal/strconv.uint64pow10", Rows.laid_internal_strconv_uint64pow10), ("strconv.ErrRange", Rows.laid_strconv_ErrRange), ("strconv.ErrSyntax", Rows.laid_strconv_ErrSyntax)]
theorem starN : "*" ++ "errors.errorString" = "*errors.errorString" := by decide
theorem rowN (u : TypeId) (h : Tryz.prog.typeName? 3 u = some "*errors.errorString") : u = 209 :=
  typeName_ptr_named (nm := "errors.errorString") (by rw [starN]; kernel_rfl) (by kernel_rfl) (by decide) u (by rw [starN]; exact h)
theorem numW_of {W : World} (h : laidMet Tryz.prog L5 W) : NumW W := by
  have h3 := h.tail.tail
  have h4 := h3.tail
  have h5 := h4.tail
  refine ⟨?_, ?_, ?_⟩
  · exact Lib.tabIs_of_head (n := 20) (e := 81) (t := 182) (g := 0) (by kernel_rfl) (by kernel_rfl) Tryz.underlying182 Tryz.underlying81 (by kernel_rfl) (by kernel_rfl) h3
  · obtain ⟨a0, s0, hv0, -, -, -⟩ := laid_sentinel (g := 2) (ti := 94) h4 (by kernel_rfl) (by kernel_rfl) Tryz.underlying94 rowN Tryz.underlying209 Tryz.underlying211 rfl rfl Tryz.underlying9 (by kernel_rfl) (by kernel_rfl)
    exact ⟨_, _, hv0⟩
  · obtain ⟨a0, s0, hv0, -, -, -⟩ := laid_sentinel (g := 1) (ti := 94) h5 (by kernel_rfl) (by kernel_rfl) Tryz.underlying94 rowN Tryz.underlying209 Tryz.underlying211 rfl rfl Tryz.underlying9 (by kernel_rfl) (by kernel_rfl)
    exact ⟨_, _, hv0⟩
theorem num_of_laid {W : World} (h : laidMetH Tryz.prog L5 W) : NumW W := by
  rw [MakeChecks.laidMetH_plain _ _ _ (by kernel_rfl)] at h
  exact numW_of h
theorem num_door (os : Os) (args : Array Value) : laidMetH Tryz.prog L5 ((World.doorLaid Tryz.prog 400 os).forCall (fun _ _ => 0) ⟨#[], args, []⟩).memory :=
  laidMetH_of_parts3 (fuel := 8) (laidMet_of_run' 8 (by kernel_rfl) (by kernel_rfl)) (by kernel_rfl) (by kernel_rfl)
/-- in every later world -/
theorem numW_was {W w : World} (h : NumW W) (s : Sat (was W) w) : NumW w := by
  have key : ∀ n cs, W.var? Tryz.prog n = some cs → w.var? Tryz.prog n = some cs := fun n cs e => by
    unfold World.var? at e ⊢
    obtain ⟨g, hg, e⟩ := Option.bind_eq_some_iff.1 e
    rw [hg]
    simp only [Option.bind_some]
    split at e
    · rename_i cs' _ _ hh
      rw [was_ext s hh]
      exact e
    · cases e
  exact ⟨key _ _ h.1, h.2.1.imp fun _ => Exists.imp fun _ => key _ _, h.2.2.imp fun _ => Exists.imp fun _ => key _ _⟩
end Go.Proofs.YtojlgfkjnkjcmaaGreatDoor

/-
  The statement of hachurelaw50.QuadOf: for every input the call returns true, and each argument reads afterwards as it read before. The row's own frame round the walk 'QuadOf_walk'.
-/
namespace Go.Proofs.YtojlgfkjnkjcmaaGreatDoor.quadOfRow
open Go.Proofs.YtojlgfkjnkjcmaaGreatDoor
open Go.ChangeShapes Go.WideShapes Go.ChangeAt Go.RowKit Go.Joins
set_option linter.unusedVariables false

theorem own : ownKnob Tryz.prog.godebug = none := by kernel_rfl
theorem laidOut : laidOutB Tryz.prog = true := by kernel_rfl


set_option maxRecDepth 100000 in
theorem lifted (os : Os) (started : os.Started) (H : Type) (enc : TypeId × Value → H) :
    ReturnsInHanded {} Tryz.checked os 5 .any (fun w args => (Rows.quadOfSpec.pre enc Tryz.prog Tryz.f5 [] false w args ∧ laidMetH Tryz.prog L5 w) ∧ sizedMet enc Tryz.prog Tryz.f5 (OpenSpec.ofChange Rows.quadOfSpec) false w args)
      (Rows.quadOfSpec.post enc Tryz.prog Tryz.f5 false true false false) := by
  refine returnsInHanded_of_change_and (C := Tryz.checked) (X := fun w _ => laidMetH Tryz.prog L5 w) (fun _ _ _ hh h => h.of_heap hh) own started (by kernel_rfl) Tryz.func5
    (ChangeSpec.witness_shaped (enc := enc) (C := Tryz.checked) (os := os) (X := fun w _ => laidMetH Tryz.prog L5 w) false (World.doorLaid Tryz.prog 400 os) #[.int .i64 0, .int .i64 0, .slice none 0 0, .int .i64 0, .agg #[.int .i64 0, .int .i64 0]] 8 rfl (World.shaped_of_RefB (by kernel_rfl) (by kernel_rfl)) (by kernel_rfl) (by kernel_rfl) (by kernel_rfl) (num_door os _)) ?_
  intro W base args ds gs before hval0 hW _ _ hL _
  have hval : ∀ (j : Nat) t v, Tryz.f5.params[j]? = some t → args[j]? = some v → Value.okWide Tryz.prog W .any base t v := hval0
  have hW' := hW
  obtain ⟨p, q, hA0, hV, rfl, hfz, hnd⟩ := hW
  have hA : DataW.TrodAll enc Tryz.prog W 0 (fun _ => true) true Tryz.f5.params.toList args.toList ds p := hA0
  rw [Tryz.params5] at hA hval
  obtain ⟨v0, vs0, d0, ds0, p0, q0, hargs, rfl, rfl, h0, r0⟩ := trodAll_cons hA
  obtain ⟨v1, vs1, d1, ds1, p1, q1, rfl, rfl, rfl, h1, r1⟩ := trodAll_cons r0
  obtain ⟨v2, vs2, d2, ds2, p2, q2, rfl, rfl, rfl, h2, r2⟩ := trodAll_cons r1
  obtain ⟨v3, vs3, d3, ds3, p3, q3, rfl, rfl, rfl, h3, r3⟩ := trodAll_cons r2
  obtain ⟨v4, vs4, d4, ds4, p4, q4, rfl, rfl, rfl, h4, r4⟩ := trodAll_cons r3
  obtain ⟨rfl, rfl, rfl⟩ := trodAll_nil r4
  obtain rfl : args = #[v0, v1, v2, v3, v4] := by cases args; simp_all
  obtain ⟨rfl, rfl⟩ := trodVars_none hV
  have k0 := h0
  have lt0 : ∀ x ∈ p0, x.block < W.heap.size := by obtain ⟨m, hm⟩ := k0; exact DataW.trod_lt m _ _ _ hm
  have k1 := h1
  have lt1 : ∀ x ∈ p1, x.block < W.heap.size := by obtain ⟨m, hm⟩ := k1; exact DataW.trod_lt m _ _ _ hm
  have k2 := h2
  have lt2 : ∀ x ∈ p2, x.block < W.heap.size := by obtain ⟨m, hm⟩ := k2; exact DataW.trod_lt m _ _ _ hm
  have k3 := h3
  have lt3 : ∀ x ∈ p3, x.block < W.heap.size := by obtain ⟨m, hm⟩ := k3; exact DataW.trod_lt m _ _ _ hm
  have k4 := h4
  have lt4 : ∀ x ∈ p4, x.block < W.heap.size := by obtain ⟨m, hm⟩ := k4; exact DataW.trod_lt m _ _ _ hm
  obtain ⟨a0, rfl, rfl, rfl, w0⟩ := open_int Tryz.underlying2 (hval 0 2 v0 rfl rfl) h0
  have b0 := bounds_i64 w0
  obtain ⟨a1, rfl, rfl, rfl, w1⟩ := open_int Tryz.underlying2 (hval 1 2 v1 rfl rfl) h1
  have b1 := bounds_i64 w1
  obtain ⟨a2, len2, cap2, rfl⟩ := okWide_slice Tryz.underlying22 (hval 2 22 v2 rfl rfl)
  obtain ⟨l2, hl2, hn2⟩ : ∃ l, Reads W W.heap.size 1 a2 len2 (ints l) ∧ len2 ≤ maxLen := by
    obtain ⟨fuel, hf⟩ := h2
    rcases open_ints Tryz.underlying22 Tryz.underlying2 (by kernel_rfl) hf with ⟨hcs, _⟩ | ⟨x, l, c, zs, hcs, _, hl, hm, hz, _, hcell, hwz⟩
    · simp [Value.cells] at hcs
      obtain ⟨rfl, rfl, rfl⟩ := hcs
      exact ⟨[], Reads.empty, by simp [maxLen]⟩
    · simp [Value.cells] at hcs
      obtain ⟨rfl, rfl, rfl⟩ := hcs
      obtain ⟨l, hl2⟩ := ints_of hl (by simpa using hz) hcell
      exact ⟨l, hl2, Nat.le_trans hl hm⟩
  obtain ⟨a3, rfl, rfl, rfl, w3⟩ := open_int Tryz.underlying2 (hval 3 2 v3 rfl rfl) h3
  have b3 := bounds_i64 w3
  obtain ⟨c4, e4, y4, z4, m4, rfl, rfl, rfl, hy4, hz4⟩ := open_agg2 Tryz.underlying52 (by kernel_rfl) (by kernel_rfl) (hval 4 52 v4 rfl rfl) h4
  obtain ⟨x4, f4, rfl, wx4⟩ := DataW.trod_int Tryz.underlying2 hy4
  obtain ⟨u4, g4, rfl, wu4⟩ := DataW.trod_int Tryz.underlying2 hz4
  simp at f4 g4
  subst f4 g4
  have bx4 := bounds_i64 wx4
  have bu4 := bounds_i64 wu4
  clear hA0 hval0
  refine (QuadOf_walk a0 a1 a2 len2 cap2 l2 a3 x4 u4 W (num_of_laid hL) hl2 hn2).mono fun e W' ⟨he, bel⟩ => ?_
  subst he
  exact ⟨_, rfl, _, _, _, [], _, [], hW', trodAll_mk1 (shut_bool Tryz.underlying4 _), (trodAll_cons_mk (Below.trod laidOut (by kernel_rfl) (of_decide_eq_true (by kernel_rfl)) k0 bel lt0) (trodAll_cons_mk (Below.trod laidOut (by kernel_rfl) (of_decide_eq_true (by kernel_rfl)) k1 bel lt1) (trodAll_cons_mk (Below.trod laidOut (by kernel_rfl) (of_decide_eq_true (by kernel_rfl)) k2 bel lt2) (trodAll_cons_mk (Below.trod laidOut (by kernel_rfl) (of_decide_eq_true (by kernel_rfl)) k3 bel lt3) (trodAll_cons_mk (Below.trod laidOut (by kernel_rfl) (of_decide_eq_true (by kernel_rfl)) k4 bel lt4) trodAll_mk0))))), rfl, bel.frame _, fun h => by cases h⟩

theorem over : Rows.quadOfRow.holds Tryz.pinned (OpenSpec.ofChange Rows.quadOfSpec) :=
  OpenClaim.holds_of_wide 5 Tryz.f5 rfl rfl rfl rfl rfl rfl rfl ⟨rfl, rfl, rfl, rfl, rfl⟩ rfl rfl rfl rfl rfl (by kernel_rfl) Tryz.func5 (by kernel_rfl)
    (of_decide_eq_true (by kernel_rfl)) (by unfold Func.isWrapper; first | (rw [if_pos (by decide +kernel)]; kernel_rfl) | (rw [if_neg (by decide +kernel)]; exact ⟨rfl, rfl⟩))
    (fun os started H enc _ => lifted os started H enc)
end Go.Proofs.YtojlgfkjnkjcmaaGreatDoor.quadOfRow
namespace Go.Proofs.YtojlgfkjnkjcmaaGreatDoor

theorem quadOf_said : Rows.QuadOfSaid := quadOfRow.over
theorem quadOf_holds : Rows.QuadOfCardSaid :=
  Claim7.holds_tied_plain_at .later [] [.data, .data, .data, .sentinel, .sentinel] true _ true
    quadOf_said (fun _ h => by cases h) (by kernel_rfl) (fun _ h => by cases h) quadOf_row_tie rfl ⟨rfl, rfl⟩ (by kernel_rfl) rfl
    (fun f fn hf hfn => by
      obtain rfl : f = 5 := Option.some.inj ((show Tryz.prog.funcNamed "hachure/hachurelaw50.QuadOf" = some 5 by kernel_rfl).symm.trans hf) |>.symm
      obtain rfl : fn = Tryz.f5 := (Option.some.inj (Tryz.func5.symm.trans hfn)).symm
      exact ⟨by kernel_rfl, fun j t ht => by
        rw [Tryz.params5] at ht
        have hm : t ∈ [2, 2, 22, 2, 52] := by simpa using Array.mem_of_getElem? ht
        have hall : ([2, 2, 22, 2, 52].all fun u => !Tryz.prog.wantsStandIn u) = true := by kernel_rfl
        exact (show Tryz.prog.wantsStandIn t = false by simpa using List.all_eq_true.1 hall t hm)⟩)
    (by kernel_rfl)
#print axioms quadOf_holds
end Go.Proofs.YtojlgfkjnkjcmaaGreatDoor

