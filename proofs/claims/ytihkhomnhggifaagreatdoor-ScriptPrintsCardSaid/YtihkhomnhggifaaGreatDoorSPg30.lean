/-
  Texts of the proofs, one behind the other: ScQd, ScriptPrints.
-/
import Derived.Test.YtihkhomnhggifaaGreatDoorSPg28
import Derived.Test.YtihkhomnhggifaaGreatDoorSPg29
import Derived.Test.YtihkhomnhggifaaGreatDoorSPg21
import Derived.Test.YtihkhomnhggifaaGreatDoorSPg22
import Derived.Test.YtihkhomnhggifaaGreatDoorSPg27
/-
  The document's Print: bytes, legends, what has no line.
-/
namespace Go.Proofs.YtihkhomnhggifaaGreatDoor
open Go.RowKit
open Sy
set_option linter.unusedVariables false
set_option linter.unusedSimpArgs false
set_option maxRecDepth 100000
set_option maxHeartbeats 4000000

theorem sRfPrint24 {R : HP} {q : OpA} {x : OpF} (ok : x.ok) (few : x.few) (hS : OpS R q x) (hk : x.o.kind = 24) : PureR Tryz.prog R 7 [opV q x] (.tuple #[.string (bs (lineF x)), .bool true]) := by
  have f2 := few.byts
  have l2 := hexW_len x.byts
  obtain ⟨⟨kind, x0, y0, x1, y1, ax, ay, bx, b_y, n, m⟩, vals, byts, bands⟩ := x
  have s2 := hS.byts
  unfold opV opCs opC
  simp only at *
  subst hk
  have a8 := wds_l1 (m := 70000) (z := hexW byts) (by omega)
  have hv := (verb_chars _ (verb_mem (k := 24) (by decide) (by decide))).2
  have hl : lineF (⟨⟨24, x0, y0, x1, y1, ax, ay, bx, b_y, n, m⟩, vals, byts, bands⟩ : OpF) = verbT 24 ++ wds 32 [hexW byts] := by
    simp [lineF, opW, rectW, jn_cons, wds, w1]
  rw [hl]
  clear hl
  have hve := fun R' => sVerb (R := R') (k := 24) (by decide) (by decide)
  generalize verbT 24 = z at *
  refine fn_of_run0 false Tryz.func7 rfl hmix rfl fun w0 => ?_
  conv => whnf
  refine ⟨trivial, CallAt.pure (fun R' hR' => hve R') ?_⟩
  conv => whnf
  repeat (first | (refine ⟨fun _ => ?_, fun h => absurd h (by decide)⟩; conv => whnf) | (refine ⟨fun h => absurd h (by decide), fun _ => ?_⟩; conv => whnf))
  refine ⟨trivial, CallAt.pure (fun R' hR' => sRfBytes byts rfl (by omega) (s2.mono fun w s => sat_base (hR' w s))) ?_⟩
  conv => whnf
  refine ⟨(by (repeat' apply And.intro) <;> first | exact True.intro | (simp only [bs_append, bs_size, List.length_append]; omega) | omega), fin_pure rfl ?_⟩
  simp only [bs_append]
  rfl
theorem sRfPrint27 {R : HP} {q : OpA} {x : OpF} (ok : x.ok) (few : x.few) (hS : OpS R q x) (hk : x.o.kind = 27) : ∃ z, (∀ R1 : HP, (∀ w, Sat R1 w → Sat R w) → PureR Tryz.prog R1 7 [opV q x] (.tuple #[.string (bs z), .bool (decide (RightL x.bands))])) ∧ (RightL x.bands → z = lineF x) := by
  have f3 := few.bands
  obtain ⟨⟨kind, x0, y0, x1, y1, ax, ay, bx, b_y, n, m⟩, vals, byts, bands⟩ := x
  have ko := ok.o
  have kb := ok.bands
  have s3 := hS.bands
  unfold opV opCs opC
  simp only at *
  subst hk
  have a6 : (wds 32 [Lib.itoa x0, Lib.itoa y0, Lib.itoa x1, Lib.itoa y1]).length ≤ 88 := wds_l4 ko.x0 ko.y0 ko.x1 ko.y1
  have hv := (verb_chars _ (verb_mem (k := 27) (by decide) (by decide))).2
  have hve := fun R' => sVerb (R := R') (k := 27) (by decide) (by decide)
  have hri := fun (R' : HP) (h : ∀ w, Sat R' w → Sat R w) => sRRight (R := R') (c := q.c3) (by omega) (s3.mono h)
  obtain ⟨t, ht, hpr, hte⟩ : ∃ t : List UInt8, t.length ≤ 1100 ∧ (∀ R' : HP, (∀ w, Sat R' w → Sat R w) → PureR Tryz.prog R' 23 [.slice q.A3 bands.length q.c3] (.string (bs t))) ∧ (RightL bands → t = printT bands) := by
    by_cases hR : RightL bands
    · exact ⟨printT bands, by have := printT_len hR; omega, fun R' h => sRPrint33 hR.2.1 (s3.mono h) hR.good, fun _ => rfl⟩
    · exact ⟨printA bands, by have := printA_le (l := bands) fun b hb => (kb b hb).1; omega, fun R' h => sRPrint33Any (by omega) (s3.mono h) kb, fun h => absurd h hR⟩
  generalize decide (RightL bands) = rb at *
  refine ⟨verbT 27 ++ wds 32 [Lib.itoa x0, Lib.itoa y0, Lib.itoa x1, Lib.itoa y1] ++ [32] ++ t, fun R1 hR1 => ?_, fun h => ?_⟩
  rotate_left
  · rw [hte h]
    simp [lineF, opW, rectW, jn_cons, wds]
  generalize verbT 27 = z at *
  refine fn_of_run0 false Tryz.func7 rfl hmix rfl fun w0 => ?_
  conv => whnf
  refine ⟨trivial, CallAt.pure (fun R' hR' => hve R') ?_⟩
  conv => whnf
  repeat (first | (refine ⟨fun _ => ?_, fun h => absurd h (by decide)⟩; conv => whnf) | (refine ⟨fun h => absurd h (by decide), fun _ => ?_⟩; conv => whnf))
  refine ⟨trivial, RegAt.quiet hmix (by kernel_rfl) ?_⟩
  conv => whnf
  refine ⟨trivial, CallQ.pure (fun R' hR' => sRfRect x0 y0 x1 y1 ko.x0 ko.y0 ko.x1 ko.y1) ?_⟩
  conv => whnf
  rw [show (⟨#[32]⟩ : ByteArray) = bs [32] from rfl]
  refine ⟨(by (repeat' apply And.intro) <;> first | exact True.intro | (simp only [bs_append, bs_size, List.length_append, List.length_cons, List.length_nil]; omega) | omega), CallQ.pure (fun R' hR' => hpr R' fun w s => hR1 w (sat_base (hR' w s))) ?_⟩
  conv => whnf
  refine ⟨(by (repeat' apply And.intro) <;> first | exact True.intro | (simp only [bs_append, bs_size, List.length_append, List.length_cons, List.length_nil]; omega) | omega), CallQ.pure (fun R' hR' => hri R' fun w s => hR1 w (sat_base (hR' w s))) ?_⟩
  conv => whnf
  refine ⟨(by (repeat' apply And.intro) <;> first | exact True.intro | (simp only [bs_append, bs_size, List.length_append, List.length_cons, List.length_nil]; omega) | omega), ?_⟩
  conv => whnf
  refine ⟨(by (repeat' apply And.intro) <;> first | exact True.intro | (simp only [bs_append, bs_size, List.length_append, List.length_cons, List.length_nil]; omega) | omega), fin_pure rfl ?_⟩
  simp only [bs_append]
  rfl
theorem sVerbOut {R : HP} {k : Int} (h : k < 1 ∨ 27 < k) : PureR Tryz.prog R 17 [.int .i64 k] (.string (bs [])) := by
  refine fn_of_run0 false Tryz.func17 rfl hmix rfl fun w0 => ?_
  conv => whnf
  refine ⟨trivial, OpAt.lit ((verbsL.drop 1).map fun z => .string (bs z)) 1 rfl rfl rfl rfl rfl (by decide) rfl rfl rfl (by simp [Value.cells, verbsL]) rfl (by decide) fun g => ?_⟩
  conv => whnf
  rcases h with h | h
  · refine ⟨fun g => absurd h (of_decide_eq_false g), fun _ => ?_⟩
    conv => whnf
    exact ⟨trivial, fin_drop rfl⟩
  · refine ⟨fun _ => ?_, fun g => absurd (show k < 1 by simpa using g) (by omega)⟩
    conv => whnf
    refine iff_t (decide_eq_true h) ?_
    conv => whnf
    exact ⟨trivial, fin_drop rfl⟩
theorem sRfPrintOut {R : HP} {q : OpA} {x : OpF} (h : x.o.kind < 1 ∨ 27 < x.o.kind) : PureR Tryz.prog R 7 [opV q x] (.tuple #[.string (bs []), .bool false]) := by
  obtain ⟨⟨kind, x0, y0, x1, y1, ax, ay, bx, b_y, n, m⟩, vals, byts, bands⟩ := x
  unfold opV opCs opC
  simp only at *
  refine fn_of_run0 false Tryz.func7 rfl hmix rfl fun w0 => ?_
  conv => whnf
  refine ⟨trivial, CallAt.pure (fun R' hR' => sVerbOut h) ?_⟩
  conv => whnf
  repeat (refine iff_f (decide_eq_false (by omega)) ?_; conv => whnf)
  exact ⟨trivial, fin_pure rfl rfl⟩
theorem sRfPrintAll {R : HP} {q : OpA} {x : OpF} (ok : x.ok) (few : x.few) (hS : OpS R q x) : ∃ z, (∀ R1 : HP, (∀ w, Sat R1 w → Sat R w) → PureR Tryz.prog R1 7 [opV q x] (.tuple #[.string (bs z), .bool (decide (HasLine x))])) ∧ (HasLine x → z = lineF x) := by
  by_cases h1 : x.o.kind < 1 ∨ 27 < x.o.kind
  · refine ⟨[], fun R1 hR1 => ?_, fun h => absurd h.1 (by have := h.2.1; omega)⟩
    rw [decide_eq_false (show ¬ HasLine x from fun h => by have := h.1; have := h.2.1; omega)]
    exact sRfPrintOut h1
  by_cases h27 : x.o.kind = 27
  · obtain ⟨z, hz, he⟩ := sRfPrint27 ok few hS h27
    refine ⟨z, fun R1 hR1 => ?_, fun h => he (h.2.2 h27)⟩
    rw [show decide (HasLine x) = decide (RightL x.bands) from decide_eq_decide.2 ⟨fun h => h.2.2 h27, fun h => ⟨by omega, by omega, fun _ => h⟩⟩]
    exact hz R1 hR1
  refine ⟨lineF x, fun R1 hR1 => ?_, fun _ => rfl⟩
  have hS := hS.mono hR1
  rw [decide_eq_true (show HasLine x from ⟨by omega, by omega, fun h => absurd h h27⟩)]
  by_cases h24 : x.o.kind = 24
  · exact sRfPrint24 ok few hS h24
  by_cases k0 : x.o.kind ≤ 5
  · exact sRfPrint0 ok few hS (by omega)
  by_cases k1 : x.o.kind ≤ 11
  · exact sRfPrint1 ok few hS (by omega)
  by_cases k2 : x.o.kind ≤ 19
  · exact sRfPrint2 ok few hS (by omega)
  · exact sRfPrint3 ok few hS (by omega)
end Go.Proofs.YtihkhomnhggifaaGreatDoor

/-
  ScriptPrints: the law's own walk.
-/
namespace Go.Proofs.YtihkhomnhggifaaGreatDoor
open Go.RowKit
open Sy
set_option linter.unusedVariables false
set_option linter.unusedSimpArgs false
set_option maxRecDepth 100000
set_option maxHeartbeats 4000000

theorem named_few {x : OpF} (h1 : 1 ≤ x.o.kind) (h2 : x.o.kind ≤ 27) (few : x.few) : (named x).vals.length ≤ 3000 ∧ (named x).byts.length ≤ 3000 ∧ (named x).bands.length ≤ 3000 := by
  have f1 := few.vals
  have f2 := few.byts
  have f3 := few.bands
  obtain ⟨⟨kind, x0, y0, x1, y1, ax, ay, bx, b_y, n, m⟩, vals, byts, bands⟩ := x
  simp only at *
  rcases kinds27 h1 h2 with rfl | rfl | rfl | rfl | rfl | rfl | rfl | rfl | rfl | rfl | rfl | rfl | rfl | rfl | rfl | rfl | rfl | rfl | rfl | rfl | rfl | rfl | rfl | rfl | rfl | rfl | rfl
  all_goals simp [named]
  all_goals omega
theorem sScriptPrints {R : HP} {q : OpA} {x : OpF} (hW : ∀ w, Sat R w → ScrW w) (ok : x.ok) (hS : OpS R q x) : PureR Tryz.prog R 3 [opV q x] (.bool true) := by
  have hR : ∀ w, Sat R w → ReadW w := fun w s => by
    obtain ⟨h1, ⟨m, hm⟩, _⟩ := hW w s
    exact ⟨h1, ⟨m, (Blk.cell hm 0).trans rfl⟩⟩
  have hV : ∀ w, Sat R w → VerbsW w := fun w s => (hW w s).verbs
  have hbig := fun R' => sBig (R := R') (q := q) (x := x)
  by_cases hb : 500 < x.vals.length ∨ 2000 < x.byts.length ∨ 40 < x.bands.length
  · have e : (decide (500 < x.vals.length) || (decide (2000 < x.byts.length) || decide (40 < x.bands.length))) = true := by simpa using hb
    rw [e] at hbig
    unfold opV opCs opC at hbig ⊢
    refine fn_of_run0 false Tryz.func3 rfl hmix rfl fun w0 => ?_
    conv => whnf
    refine ⟨trivial, CallAt.pure (fun R' hR' => sAwake37 fun w hw => hW w (sat_base (hR' w hw))) ?_⟩
    conv => whnf
    repeat (first | (refine ⟨fun _ => ?_, fun h => absurd h (by decide)⟩; conv => whnf) | (refine ⟨fun h => absurd h (by decide), fun _ => ?_⟩; conv => whnf))
    refine ⟨trivial, CallAt.pure (fun R' hR' => hbig R') ?_⟩
    conv => whnf
    repeat (first | (refine ⟨fun _ => ?_, fun h => absurd h (by decide)⟩; conv => whnf) | (refine ⟨fun h => absurd h (by decide), fun _ => ?_⟩; conv => whnf))
    exact ⟨trivial, fin_drop rfl⟩
  have e : (decide (500 < x.vals.length) || (decide (2000 < x.byts.length) || decide (40 < x.bands.length))) = false := by simpa using hb
  rw [e] at hbig
  have few : x.few := ⟨by omega, by omega, by omega⟩
  obtain ⟨z, hdoc, hze⟩ := sRfPrintAll ok few hS
  by_cases hl : HasLine x
  · rw [decide_eq_true hl] at hdoc
    obtain rfl := hze hl
    have h1 := hl.1
    have h2 := hl.2.1
    have hpr := fun (R' : HP) (h : ∀ w, Sat R' w → Sat R w) => sScPrintYes (R := R') (fun w s => hR w (h w s)) (fun w s => hV w (h w s)) ok few hl (hS.mono h)
    have hpa := fun (R' : HP) (h : ∀ w, Sat R' w → Sat R w) => sParseYes (R := R') (fun w s => hV w (h w s)) (fun w s => (hR w (h w s)).2) (by have := line_len ok few hl; omega) (line_pcs hl) (by rw [kd_verb h1 h2]; omega) rfl (partsN (fun w s => hR w (h w s)) ok few hl)
    have hnm := fun (R' : HP) => sNamed (R := R') (q := q) h1 h2
    have hns := named_S h1 h2 hS
    have hnf := named_few h1 h2 few
    generalize lineF x = line at *
    unfold opV opCs opC at hbig hdoc hpr ⊢
    unfold opV opCs opC at hnm
    generalize qNamed q x.o.kind = q2 at *
    unfold QN at hpa
    generalize named x = y at *
    refine fn_of_run0 false Tryz.func3 rfl hmix rfl fun w0 => ?_
    conv => whnf
    refine ⟨trivial, CallAt.pure (fun R' hR' => sAwake37 fun w hw => hW w (sat_base (hR' w hw))) ?_⟩
    conv => whnf
    repeat (first | (refine ⟨fun _ => ?_, fun h => absurd h (by decide)⟩; conv => whnf) | (refine ⟨fun h => absurd h (by decide), fun _ => ?_⟩; conv => whnf))
    refine ⟨trivial, CallAt.pure (fun R' hR' => hbig R') ?_⟩
    conv => whnf
    repeat (first | (refine ⟨fun _ => ?_, fun h => absurd h (by decide)⟩; conv => whnf) | (refine ⟨fun h => absurd h (by decide), fun _ => ?_⟩; conv => whnf))
    refine ⟨trivial, CallAt.fn (pre := []) _ (fun h s => s) (fun R' hR' => hpr R' fun w s => sat_base (hR' w s)) ?_⟩
    rintro r hs ⟨rfl, rfl⟩
    conv => whnf
    refine ⟨trivial, CallAt.pure (fun R' hR' => hdoc R' (fun w s => sat_base (hR' w s))) ?_⟩
    conv => whnf
    repeat (first | (refine ⟨fun _ => ?_, fun h => absurd h (by decide)⟩; conv => whnf) | (refine ⟨fun h => absurd h (by decide), fun _ => ?_⟩; conv => whnf))
    refine ⟨trivial, CallAt.fn (pre := []) _ (fun h s => s) (fun R' hR' => hpa R' fun w s => sat_base (hR' w s)) ?_⟩
    rintro r hs ⟨q3, y3, rfl, rfl, H, rfl, hH⟩
    unfold opCs opC
    conv => whnf
    refine ⟨trivial, RegAt.quiet hmix (by kernel_rfl) ?_⟩
    conv => whnf
    refine ⟨fun _ => ?_, fun g => absurd g (by simp)⟩
    conv => whnf
    refine ⟨fun _ => ?_, fun g => absurd g (by simp)⟩
    conv => whnf
    refine ⟨fun _ => ?_, fun g => absurd g (by simp)⟩
    conv => whnf
    refine ⟨trivial, CallQ.pure (fun R' hR' => hnm R') ?_⟩
    conv => whnf
    refine ⟨trivial, CallQ.pure (fun R' hR' => sSameOp (q := q3) (r := q2) (x := y3) (hH R' fun w s => (hR' w s).in_ 0 rfl) (hns.mono fun w s => sat_base (hR' w s)) hnf) ?_⟩
    conv => whnf
    refine ⟨trivial, ?_⟩
    conv => whnf
    exact ⟨trivial, fin_drop rfl⟩
  · rw [decide_eq_false hl] at hdoc
    have hpr : ∀ R' : HP, (∀ w, Sat R' w → Sat R w) → PureR Tryz.prog R' 6 [opV q x] (.tuple #[.string (bs []), .int .i64 13]) := fun R' h => by
      by_cases ho : x.o.kind < 1 ∨ 27 < x.o.kind
      · exact sScPrintOut ho
      · have hk : x.o.kind = 27 := by
          by_cases c : x.o.kind = 27
          · exact c
          · exact absurd ⟨by omega, by omega, fun h => absurd h c⟩ hl
        exact sScPrintNo (fun w s => hR w (h w s)) (fun w s => hV w (h w s)) ok hk (fun h => hl ⟨by omega, by omega, fun _ => h⟩) (hS.mono h)
    unfold opV opCs opC at hbig hdoc hpr ⊢
    refine fn_of_run0 false Tryz.func3 rfl hmix rfl fun w0 => ?_
    conv => whnf
    refine ⟨trivial, CallAt.pure (fun R' hR' => sAwake37 fun w hw => hW w (sat_base (hR' w hw))) ?_⟩
    conv => whnf
    repeat (first | (refine ⟨fun _ => ?_, fun h => absurd h (by decide)⟩; conv => whnf) | (refine ⟨fun h => absurd h (by decide), fun _ => ?_⟩; conv => whnf))
    refine ⟨trivial, CallAt.pure (fun R' hR' => hbig R') ?_⟩
    conv => whnf
    repeat (first | (refine ⟨fun _ => ?_, fun h => absurd h (by decide)⟩; conv => whnf) | (refine ⟨fun h => absurd h (by decide), fun _ => ?_⟩; conv => whnf))
    refine ⟨trivial, CallAt.pure (fun R' hR' => hpr R' (fun w s => sat_base (hR' w s))) ?_⟩
    conv => whnf
    refine ⟨trivial, CallAt.pure (fun R' hR' => hdoc R' (fun w s => sat_base (hR' w s))) ?_⟩
    conv => whnf
    repeat (first | (refine ⟨fun _ => ?_, fun h => absurd h (by decide)⟩; conv => whnf) | (refine ⟨fun h => absurd h (by decide), fun _ => ?_⟩; conv => whnf))
    exact ⟨trivial, fin_drop rfl⟩
theorem ScriptPrints_walk (q : OpA) (x : OpF) (w : World) (hW : ScrW w) (ok : x.ok) (hs : OpS (was w) q x) :
    Calls Tryz.prog 3 #[opV q x] w fun e w' => e = .returned (.bool true) ∧ Below w.heap.size w w' :=
  PureR.below (args := [opV q x]) (sScriptPrints (R := was w) (fun w' h => scrW_was hW h) ok hs)
end Go.Proofs.YtihkhomnhggifaaGreatDoor

