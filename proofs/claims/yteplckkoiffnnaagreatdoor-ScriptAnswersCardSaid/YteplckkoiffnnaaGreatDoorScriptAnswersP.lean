/-
  The statement ScriptAnswers: for every input the call returns true. The texts: ScLw, ScriptAnswers, ScriptAnswersRow.
-/
import Derived.Test.YteplckkoiffnnaaGreatDoorSaB
import Derived.Test.YteplckkoiffnnaaGreatDoorSaC
import Derived.Test.YteplckkoiffnnaaGreatDoorSaF
import Derived.Test.YteplckkoiffnnaaGreatDoorSaD
import Derived.Test.YteplckkoiffnnaaGreatDoorScriptAnswersFacts
import Derived.ProofKit
import Derived.OpenShut
import Derived.Lib.SmallJoins
import Derived.LaidMore
import Derived.Lay
import Derived.Stop.Joined
import Derived.Lib.LaidTab
import Derived.SevenTiedAt
import Derived.Test.YteplckkoiffnnaaGreatDoorCards
import Derived.Test.YteplckkoiffnnaaGreatDoorTie
/-
  ScriptAnswers: the law's own walk.
-/
namespace Go.Proofs.YteplckkoiffnnaaGreatDoor
open Go.RowKit
open Sy
set_option linter.unusedVariables false
set_option linter.unusedSimpArgs false
set_option maxRecDepth 100000
set_option maxHeartbeats 4000000

theorem sAnswerAll {R : HP} {q : RepA} {x : Rep} (hN : ∀ w, Sat R w → NumW w) (hM : ∀ w, Sat R w → MaxW w) (kind : Int) (ok : x.ok) (few : x.few) (hs : RepS R q x) :
    FnR Tryz.prog R 7 [.int .i64 kind, repV q x] [] fun r hs => ∃ A c, r = .slice A (ans kind x).length c ∧ hs = [rowH (.slice A (ans kind x).length c) (ans kind x).length 9 1 (strV (ans kind x))] := by
  by_cases hc : x.code = 0
  · by_cases k1 : kind = 6 ∨ kind = 7 ∨ kind = 10 ∨ kind = 11 ∨ kind = 20 ∨ kind = 21 ∨ kind = 22
    · exact sAnswer1 hN kind ok few hc k1
    by_cases k2 : kind = 8 ∨ kind = 9
    · exact sAnswer2 hN kind ok few hc hs k2
    by_cases k3 : kind = 12
    · cases hy : x.yes with
      | true => exact sAnswer3 hN kind ok few hc hs ⟨k3, hy⟩
      | false => exact sAnswer4 hN kind ok few hc hs ⟨k3, hy⟩
    by_cases k4 : kind = 17
    · exact sAnswer5 hN hM kind ok few hc hs k4
    by_cases k5 : kind = 23
    · exact sAnswer6 hN kind ok few hc hs k5
    by_cases k6 : kind = 15
    · exact sAnswer7 hN kind ok few hc hs k6
    by_cases k7 : kind = 27
    · exact sAnswer9 hN kind ok few hc hs k7
    by_cases k8 : kind = 13
    · exact sAnswer11 hN kind ok few hc hs k8
    by_cases k9 : kind = 16
    · exact sAnswer12 hN kind ok few hc hs k9
    by_cases k10 : kind = 14
    · exact sAnswer13 hN kind ok few hc hs k10
    exact sAnswer8 hN kind ok few hc hs (by omega)
  · exact sAnswer10 hN kind ok hc
theorem rAnswerAll {R : HP} {q : RepA} {x : Rep} (kind : Int) (ok : x.ok) (few : x.few) (hs : RepS R q x) :
    FnR Tryz.prog R 8 [.int .i64 kind, repV q x] [] fun r hs => ∃ A c, r = .slice A (ans kind x).length c ∧ hs = [rowH (.slice A (ans kind x).length c) (ans kind x).length 9 1 (strV (ans kind x))] := by
  by_cases hc : x.code = 0
  · by_cases k1 : kind = 6 ∨ kind = 7 ∨ kind = 10 ∨ kind = 11 ∨ kind = 20 ∨ kind = 21 ∨ kind = 22
    · exact rAnswer1 kind ok few hc hs k1
    by_cases k2 : kind = 8 ∨ kind = 9
    · exact rAnswer2 kind ok few hc hs k2
    by_cases k3 : kind = 12
    · exact rAnswer3 kind ok few hc hs k3
    by_cases k4 : kind = 17
    · exact rAnswer17 kind ok few hc hs k4
    by_cases k5 : kind = 23
    · exact rAnswer23 kind ok few hc hs k5
    by_cases k6 : kind = 15
    · exact rAnswer15 kind ok few hc hs k6
    by_cases k7 : kind = 27
    · exact rAnswer27 kind ok few hc hs k7
    by_cases k8 : kind = 13 ∨ kind = 16
    · exact rAnswer13 kind ok few hc hs k8
    by_cases k10 : kind = 14
    · exact rAnswer14 kind ok few hc hs k10
    exact rAnswer8 kind ok few hc hs (by omega)
  · exact rAnswer10 kind ok hc
theorem ans_len {x : Rep} (few : x.few) (kind : Int) : (ans kind x).length ≤ 501 := by
  have h1 := few.parts
  have h2 := few.lines
  unfold ans ansM
  split
  · simp
  · split
    · simp; omega
    · split
      · simp; omega
      · simp
end Go.Proofs.YteplckkoiffnnaaGreatDoor

/-
  ScriptAnswers: the law's own walk.
-/
namespace Go.Proofs.YteplckkoiffnnaaGreatDoor
open Go.RowKit
open Sy
set_option linter.unusedVariables false
set_option linter.unusedSimpArgs false
set_option maxRecDepth 100000
set_option maxHeartbeats 4000000

theorem sScriptAnswers {R : HP} {q : RepA} {x : Rep} (hW : ∀ w, Sat R w → ScrW w) (kind : Int) (ok : x.ok) (hs : RepS R q x) : PureR Tryz.prog R 3 [.int .i64 kind, repV q x] (.bool true) := by
  have hN : ∀ w, Sat R w → NumW w := fun w s => (hW w s).num
  have hM : ∀ w, Sat R w → MaxW w := fun w s => by
    obtain ⟨_, ⟨m, hm⟩, _⟩ := hW w s
    exact ⟨m, (Blk.cell hm 0).trans rfl⟩
  have k1 := hs.k1
  have k2 := hs.k2
  have k3 := hs.k3
  have k4 := hs.k4
  have k5 := hs.k5
  simp only [maxLen] at k1 k2 k3 k4 k5
  unfold repV
  refine fn_of_run0 false Tryz.func3 rfl hmix rfl fun w0 => ?_
  conv => whnf
  refine ⟨trivial, CallAt.pure (fun R' hR' => sAwake37 fun w hw => hW w (sat_base (hR' w hw))) ?_⟩
  conv => whnf
  repeat (first | (refine ⟨fun _ => ?_, fun h => absurd h (by decide)⟩; conv => whnf) | (refine ⟨fun h => absurd h (by decide), fun _ => ?_⟩; conv => whnf))
  refine ⟨fun hA1 => ?_, fun hA1 => ?_⟩
  rotate_left
  · conv => whnf
    repeat (first | (refine ⟨fun _ => ?_, fun h => absurd h (by decide)⟩; conv => whnf) | (refine ⟨fun h => absurd h (by decide), fun _ => ?_⟩; conv => whnf))
    exact ⟨trivial, fin_drop rfl⟩
  conv => whnf
  repeat (first | (refine ⟨fun _ => ?_, fun h => absurd h (by decide)⟩; conv => whnf) | (refine ⟨fun h => absurd h (by decide), fun _ => ?_⟩; conv => whnf))
  refine ⟨fun hA2 => ?_, fun hA2 => ?_⟩
  rotate_left
  · conv => whnf
    repeat (first | (refine ⟨fun _ => ?_, fun h => absurd h (by decide)⟩; conv => whnf) | (refine ⟨fun h => absurd h (by decide), fun _ => ?_⟩; conv => whnf))
    exact ⟨trivial, fin_drop rfl⟩
  conv => whnf
  repeat (first | (refine ⟨fun _ => ?_, fun h => absurd h (by decide)⟩; conv => whnf) | (refine ⟨fun h => absurd h (by decide), fun _ => ?_⟩; conv => whnf))
  refine ⟨fun hA3 => ?_, fun hA3 => ?_⟩
  rotate_left
  · conv => whnf
    repeat (first | (refine ⟨fun _ => ?_, fun h => absurd h (by decide)⟩; conv => whnf) | (refine ⟨fun h => absurd h (by decide), fun _ => ?_⟩; conv => whnf))
    exact ⟨trivial, fin_drop rfl⟩
  conv => whnf
  repeat (first | (refine ⟨fun _ => ?_, fun h => absurd h (by decide)⟩; conv => whnf) | (refine ⟨fun h => absurd h (by decide), fun _ => ?_⟩; conv => whnf))
  refine ⟨fun hA4 => ?_, fun hA4 => ?_⟩
  rotate_left
  · conv => whnf
    repeat (first | (refine ⟨fun _ => ?_, fun h => absurd h (by decide)⟩; conv => whnf) | (refine ⟨fun h => absurd h (by decide), fun _ => ?_⟩; conv => whnf))
    exact ⟨trivial, fin_drop rfl⟩
  conv => whnf
  repeat (first | (refine ⟨fun _ => ?_, fun h => absurd h (by decide)⟩; conv => whnf) | (refine ⟨fun h => absurd h (by decide), fun _ => ?_⟩; conv => whnf))
  refine ⟨trivial, CallAt.fn (pre := []) _ (fun h s => s) (fun R' hR' => sLong x.lines rfl (by omega) (hs.lines.mono fun w s => sat_base (hR' w s))) ?_⟩
  rintro r hs' ⟨b, rfl, hb, rfl⟩
  cases b
  rotate_left
  · conv => whnf
    repeat (first | (refine ⟨fun _ => ?_, fun h => absurd h (by decide)⟩; conv => whnf) | (refine ⟨fun h => absurd h (by decide), fun _ => ?_⟩; conv => whnf))
    exact ⟨trivial, fin_drop rfl⟩
  have few : x.few := ⟨by have := of_decide_eq_false hA1; omega, by have := of_decide_eq_false hA2; omega, by have := of_decide_eq_false hA3; omega, by have := of_decide_eq_false hA4; omega, hb rfl⟩
  conv => whnf
  repeat (first | (refine ⟨fun _ => ?_, fun h => absurd h (by decide)⟩; conv => whnf) | (refine ⟨fun h => absurd h (by decide), fun _ => ?_⟩; conv => whnf))
  refine ⟨trivial, RegAt.groups [([.T 0, .T 1, .T 3, .T 4, .H 2], 5), ([.H 5], 6), ([.H 6], 7), ([.T 7], 8)] hmix (by kernel_rfl) ?_⟩
  conv => whnf
  refine ⟨trivial, CallAt.fn (pre := []) _ (fun h s => s) (fun R' hR' => sAnswerAll (fun w s => hN w (sat_base (hR' w s))) (fun w s => hM w (sat_base (hR' w s))) kind ok few ⟨hs.cells.mono fun w s => sat_base (hR' w s), hs.vals.mono fun w s => sat_base (hR' w s), hs.parts.mono fun w s => sat_base (hR' w s), hs.byts.mono fun w s => sat_base (hR' w s), hs.lines.mono fun w s => sat_base (hR' w s), hs.k1, hs.k2, hs.k3, hs.k4, hs.k5⟩) ?_⟩
  rintro r hs' ⟨A1, c1, rfl, rfl⟩
  conv => whnf
  refine ⟨trivial, ⟨⟨rfl, rfl⟩, fun h s => sub_nil s⟩, ?_⟩
  conv => whnf
  refine ⟨trivial, CallAt.fn (pre := []) _ (fun h s => s) (fun R' hR' => rAnswerAll kind ok few ⟨hs.cells.mono fun w s => Sat.rest (hR' w s), hs.vals.mono fun w s => Sat.rest (hR' w s), hs.parts.mono fun w s => Sat.rest (hR' w s), hs.byts.mono fun w s => Sat.rest (hR' w s), hs.lines.mono fun w s => Sat.rest (hR' w s), hs.k1, hs.k2, hs.k3, hs.k4, hs.k5⟩) ?_⟩
  rintro r hs' ⟨A2, c2, rfl, rfl⟩
  conv => whnf
  have hal := ans_len few kind
  refine ⟨trivial, CallAt.pure (fun R' hR' => sSameS (ans kind x) rfl (by omega) (Sl.row fun w s => (hR' w s).in_ 1 rfl) (Sl.row fun w s => (hR' w s).in_ 0 rfl)) ?_⟩
  conv => whnf
  refine ⟨trivial, ?_⟩
  conv => whnf
  exact ⟨trivial, fin_drop rfl⟩
theorem ScriptAnswers_walk (kind : Int) (q : RepA) (x : Rep) (w : World) (hW : ScrW w) (_ : -9223372036854775808 ≤ kind) (_ : kind ≤ 9223372036854775807) (ok : x.ok) (hs : RepS (was w) q x) :
    Calls Tryz.prog 3 #[.int .i64 kind, repV q x] w fun e w' => e = .returned (.bool true) ∧ Below w.heap.size w w' :=
  PureR.below (args := [.int .i64 kind, repV q x]) (sScriptAnswers (R := was w) (fun w' h => scrW_was hW h) kind ok hs)
end Go.Proofs.YteplckkoiffnnaaGreatDoor

/-
  The statement of hachurelaw37.ScriptAnswers: for every input the call returns true, and each argument reads afterwards as it read before. The row's own frame round the walk 'ScriptAnswers_walk'.
-/
namespace Go.Proofs.YteplckkoiffnnaaGreatDoor.scriptAnswersRow
open Go.Proofs.YteplckkoiffnnaaGreatDoor
open Go.ChangeShapes Go.WideShapes Go.ChangeAt Go.RowKit Go.Joins
set_option linter.unusedVariables false

theorem own : ownKnob Tryz.prog.godebug = none := by kernel_rfl
theorem laidOut : laidOutB Tryz.prog = true := by kernel_rfl


set_option maxRecDepth 100000 in
theorem lifted (os : Os) (started : os.Started) (H : Type) (enc : TypeId × Value → H) :
    ReturnsInHanded {} Tryz.checked os 3 .any (fun w args => (Rows.scriptAnswersSpec.pre enc Tryz.prog Tryz.f3 [] false w args ∧ laidMetH Tryz.prog L9 w) ∧ sizedMet enc Tryz.prog Tryz.f3 (OpenSpec.ofChange Rows.scriptAnswersSpec) false w args)
      (Rows.scriptAnswersSpec.post enc Tryz.prog Tryz.f3 false true false false) := by
  refine handed_shaped (C := Tryz.checked) (X := fun w _ => laidMetH Tryz.prog L9 w) (fun _ _ _ hh h => h.of_heap hh) own started (by kernel_rfl) Tryz.func3
    (ChangeSpec.witness_shaped (enc := enc) (C := Tryz.checked) (os := os) (X := fun w _ => laidMetH Tryz.prog L9 w) false (World.laidAll Tryz.prog os L9) #[.int .i64 0, .agg #[.int .i64 0, .int .i64 0, .bool false, .int .i64 0, .int .i64 0, .slice none 0 0, .slice none 0 0, .slice none 0 0, .slice none 0 0, .slice none 0 0]] 8 (World.laidAll_os _ _ _) (World.shaped_of_ZipB (by kernel_rfl) (by kernel_rfl)) (by kernel_rfl) (by kernel_rfl) (by kernel_rfl) (scr_door os _)) ?_
  intro W base args ds gs before hval0 hW hL hsh
  have hval : ∀ (j : Nat) t v, Tryz.f3.params[j]? = some t → args[j]? = some v → Value.okWide Tryz.prog W .any base t v := hval0
  have hW' := hW
  obtain ⟨p, q, hA0, hV, rfl, hfz, hnd⟩ := hW
  have hA : DataW.TrodAll enc Tryz.prog W 0 (fun _ => true) true Tryz.f3.params.toList args.toList ds p := hA0
  rw [Tryz.params3] at hA hval
  obtain ⟨v0, vs0, d0, ds0, p0, q0, hargs, rfl, rfl, h0, r0⟩ := trodAll_cons hA
  obtain ⟨v1, vs1, d1, ds1, p1, q1, rfl, rfl, rfl, h1, r1⟩ := trodAll_cons r0
  obtain ⟨rfl, rfl, rfl⟩ := trodAll_nil r1
  obtain rfl : args = #[v0, v1] := by cases args; simp_all
  obtain ⟨rfl, rfl⟩ := trodVars_none hV
  have k0 := h0
  have lt0 : ∀ x ∈ p0, x.block < W.heap.size := by obtain ⟨m, hm⟩ := k0; exact DataW.trod_lt m _ _ _ hm
  have k1 := h1
  have lt1 : ∀ x ∈ p1, x.block < W.heap.size := by obtain ⟨m, hm⟩ := k1; exact DataW.trod_lt m _ _ _ hm
  obtain ⟨a0, rfl, rfl, rfl, w0⟩ := open_int Tryz.underlying3 (hval 0 3 v0 rfl rfl) h0
  have b0 := bounds_i64 w0
  obtain ⟨u1, x1, rfl, ok1, rs1⟩ := open_reply (hval 1 31 v1 rfl rfl) h1
  clear hA0 hval0
  refine (ScriptAnswers_walk a0 u1 x1 W (scrW_of hL hsh) b0.1 b0.2 ok1 rs1).mono fun e W' ⟨he, bel⟩ => ?_
  subst he
  exact ⟨_, rfl, _, _, _, [], _, [], hW', trodAll_mk1 (shut_bool Tryz.underlying4 _), (trodAll_cons_mk (Below.trod laidOut (by kernel_rfl) (of_decide_eq_true (by kernel_rfl)) k0 bel lt0) (trodAll_cons_mk (Below.trod laidOut (by kernel_rfl) (of_decide_eq_true (by kernel_rfl)) k1 bel lt1) trodAll_mk0)), rfl, bel.frame _, fun h => by cases h⟩

theorem over : Rows.scriptAnswersRow.holds Tryz.pinned (OpenSpec.ofChange Rows.scriptAnswersSpec) :=
  OpenClaim.holds_of_wide 3 Tryz.f3 rfl rfl rfl rfl rfl rfl rfl ⟨rfl, rfl, rfl, rfl, rfl⟩ rfl rfl rfl rfl rfl (by kernel_rfl) Tryz.func3 scriptAnswersFacts.closed
    (of_decide_eq_true (by kernel_rfl)) (by unfold Func.isWrapper; first | (rw [if_pos (by decide +kernel)]; kernel_rfl) | (rw [if_neg (by decide +kernel)]; exact ⟨rfl, rfl⟩))
    (fun os started H enc _ => lifted os started H enc)
end Go.Proofs.YteplckkoiffnnaaGreatDoor.scriptAnswersRow
namespace Go.Proofs.YteplckkoiffnnaaGreatDoor

theorem scriptAnswers_said : Rows.ScriptAnswersSaid := scriptAnswersRow.over
theorem scriptAnswers_holds : Rows.ScriptAnswersCardSaid :=
  Claim7.holds_tied_plain_at .later [] [.data, .data, .data, .data, .sentinel, .sentinel, .data, .data, .pinned] true _ true
    scriptAnswers_said (fun _ h => by cases h) (by kernel_rfl) (fun _ h => by cases h) scriptAnswers_row_tie rfl ⟨rfl, rfl⟩ (by kernel_rfl) rfl
    (fun f fn hf hfn => by
      obtain rfl : f = 3 := Option.some.inj ((show Tryz.prog.funcNamed "hachure/hachurelaw37.ScriptAnswers" = some 3 by kernel_rfl).symm.trans hf) |>.symm
      obtain rfl : fn = Tryz.f3 := (Option.some.inj (Tryz.func3.symm.trans hfn)).symm
      exact ⟨scriptAnswersFacts.looks, fun j t ht => by
        rw [Tryz.params3] at ht
        have hm : t ∈ [3, 31] := by simpa using Array.mem_of_getElem? ht
        have hall : ([3, 31].all fun u => !Tryz.prog.wantsStandIn u) = true := by kernel_rfl
        exact (show Tryz.prog.wantsStandIn t = false by simpa using List.all_eq_true.1 hall t hm)⟩)
    scriptAnswersFacts.goes
#print axioms scriptAnswers_holds
end Go.Proofs.YteplckkoiffnnaaGreatDoor

