/-
  The statement of hachurelaw40.JournalTorn: for every input the call returns true, and each argument reads afterwards as it read before. The row's own frame round the walk 'JournalTorn_walk'.
-/
import Derived.Test.YtgelgkgmgjhmnaaDoorJournalTorn
import Derived.ProofKit
import Derived.OpenShut
import Derived.Lib.SmallJoins
import Derived.Test.YtgelgkgmgjhmnaaDoorOpenRows
import Derived.LaidMore
import Derived.Stop.Joined
import Derived.Lib.LaidTab
import Derived.SevenTiedAt
import Derived.Test.YtgelgkgmgjhmnaaDoorCards
import Derived.Test.YtgelgkgmgjhmnaaDoorTie
namespace Go.Proofs.YtgelgkgmgjhmnaaDoor.journalTornRow
open Go.Proofs.YtgelgkgmgjhmnaaDoor
open Go.ChangeShapes Go.WideShapes Go.ChangeAt Go.RowKit Go.Joins
set_option linter.unusedVariables false

theorem own : ownKnob Tryd.prog.godebug = none := by kernel_rfl
theorem laidOut : laidOutB Tryd.prog = true := by kernel_rfl


/-- what the row's condition gives the walks: the table of crc -/
theorem door_met (os : Os) (args : Array Value) : laidMetH Tryd.prog [("hachure/crc.halves", Rows.laid_hachure_crc_halves)] ((World.doorLaid Tryd.prog 400 os).forCall (fun _ _ => 0) ⟨#[], args, []⟩).memory :=
  laidMetH_of_parts3 (fuel := 8) (laidMet_of_run' 8 (by kernel_rfl) (by kernel_rfl)) (by kernel_rfl) (by kernel_rfl)
theorem of_laid {W : World} (h : laidMetH Tryd.prog [("hachure/crc.halves", Rows.laid_hachure_crc_halves)] W) : Tab W := by
  rw [MakeChecks.laidMetH_plain _ _ _ (by kernel_rfl)] at h
  have h2 : laidMet Tryd.prog [("hachure/crc.halves", Lib.tabData .u32 (halves.map fun z : Nat => (z : Int)))] W := h
  have hg : Tryd.prog.globalNamed "hachure/crc.halves" = some 0 := by kernel_rfl
  have ht := Lib.tabIs_of_head (n := 16) (e := 23) (t := 45) hg (by kernel_rfl) Tryd.underlying45 Tryd.underlying23 (by kernel_rfl) (by kernel_rfl) h2
  have hcell : ∀ i, i < 16 → W.cell? ⟨0, i, none⟩ = some (.int .u32 ((halves.getD i 0 : Nat) : Int)) := fun i hi => by
    have := ht.cell hg i (by simpa [halves] using hi)
    rw [this]
    have hall : ∀ r : Fin 16, (halves.map fun z : Nat => (z : Int)).getD r.val 0 = ((halves.getD r.val 0 : Nat) : Int) := by decide
    exact congrArg (fun z => some (Value.int .u32 z)) (hall ⟨i, hi⟩)
  refine ⟨?_, hcell⟩
  exact World.block_lt_of_cell? W ⟨0, 0, none⟩ (hcell 0 (by omega))

set_option maxRecDepth 100000 in
theorem lifted (os : Os) (started : os.Started) (H : Type) (enc : TypeId × Value → H) :
    ReturnsInHanded {} Tryd.checked os 8 .any (fun w args => (Rows.journalTornSpec.pre enc Tryd.prog Tryd.f8 [] false w args ∧ laidMetH Tryd.prog [("hachure/crc.halves", Rows.laid_hachure_crc_halves)] w) ∧ sizedMet enc Tryd.prog Tryd.f8 (OpenSpec.ofChange Rows.journalTornSpec) false w args)
      (Rows.journalTornSpec.post enc Tryd.prog Tryd.f8 false true false false) := by
  refine returnsInHanded_of_change_and (C := Tryd.checked) (X := fun w _ => laidMetH Tryd.prog [("hachure/crc.halves", Rows.laid_hachure_crc_halves)] w) (fun _ _ _ hh h => h.of_heap hh) own started (by kernel_rfl) Tryd.func8
    (ChangeSpec.witness_shaped (enc := enc) (C := Tryd.checked) (os := os) (X := fun w _ => laidMetH Tryd.prog [("hachure/crc.halves", Rows.laid_hachure_crc_halves)] w) false (World.doorLaid Tryd.prog 400 os) #[.slice none 0 0, .slice none 0 0, .int .i64 0] 8 rfl (World.shaped_of_RefB (by kernel_rfl) (by kernel_rfl)) (by kernel_rfl) (by kernel_rfl) (by kernel_rfl) (door_met os _)) ?_
  intro W base args ds gs before hval0 hW _ _ hL _
  have hval : ∀ (j : Nat) t v, Tryd.f8.params[j]? = some t → args[j]? = some v → Value.okWide Tryd.prog W .any base t v := hval0
  have hW' := hW
  obtain ⟨p, q, hA0, hV, rfl, hfz, hnd⟩ := hW
  have hA : DataW.TrodAll enc Tryd.prog W 0 (fun _ => true) true Tryd.f8.params.toList args.toList ds p := hA0
  rw [Tryd.params8] at hA hval
  obtain ⟨v0, vs0, d0, ds0, p0, q0, hargs, rfl, rfl, h0, r0⟩ := trodAll_cons hA
  obtain ⟨v1, vs1, d1, ds1, p1, q1, rfl, rfl, rfl, h1, r1⟩ := trodAll_cons r0
  obtain ⟨v2, vs2, d2, ds2, p2, q2, rfl, rfl, rfl, h2, r2⟩ := trodAll_cons r1
  obtain ⟨rfl, rfl, rfl⟩ := trodAll_nil r2
  obtain rfl : args = #[v0, v1, v2] := by cases args; simp_all
  obtain ⟨rfl, rfl⟩ := trodVars_none hV
  have k0 := h0
  have lt0 : ∀ x ∈ p0, x.block < W.heap.size := by obtain ⟨m, hm⟩ := k0; exact DataW.trod_lt m _ _ _ hm
  have k1 := h1
  have lt1 : ∀ x ∈ p1, x.block < W.heap.size := by obtain ⟨m, hm⟩ := k1; exact DataW.trod_lt m _ _ _ hm
  have k2 := h2
  have lt2 : ∀ x ∈ p2, x.block < W.heap.size := by obtain ⟨m, hm⟩ := k2; exact DataW.trod_lt m _ _ _ hm
  obtain ⟨a0, len0, cap0, rfl⟩ := okWide_slice Tryd.underlying39 (hval 0 39 v0 rfl rfl)
  obtain ⟨hs0, ls0, hle0, hR0, hP0, hM0⟩ : ∃ hs ls, hs.length = len0 ∧ Reads W W.heap.size 1 a0 hs.length (hs.map Hd.val) ∧ Parts W W.heap.size hs ls ∧ hs.length ≤ maxLen := by
    obtain ⟨fuel, hf⟩ := h0
    rcases Go.Deep.open_int_rows Tryd.underlying39 Tryd.underlying22 Tryd.underlying5 (by kernel_rfl) (by kernel_rfl) hf with ⟨hcs, _⟩ | ⟨x, len, cap, A, L, C, Z, hcs, _, hl, hm, _, hrow⟩
    · simp [Value.cells] at hcs
      obtain ⟨rfl, rfl, rfl⟩ := hcs
      exact ⟨[], [], rfl, Reads.empty, ⟨rfl, fun k h1 => by simp at h1⟩, by simp [maxLen]⟩
    · simp [Value.cells] at hcs
      obtain ⟨rfl, rfl, rfl⟩ := hcs
      obtain ⟨hs, ls, e1, e2, e3⟩ := rows_of hl hrow
      exact ⟨hs, ls, e1, e2, e3, by rw [e1]; exact Nat.le_trans hl hm⟩
  subst hle0
  obtain ⟨a1, len1, cap1, rfl⟩ := okWide_slice Tryd.underlying22 (hval 1 22 v1 rfl rfl)
  obtain ⟨l1, hl1, hn1, hc1⟩ : ∃ l, Bts W W.heap.size a1 len1 l ∧ (a1 = none → len1 = 0 ∧ cap1 = 0) ∧ len1 ≤ cap1 ∧ cap1 ≤ maxLen := by
    obtain ⟨fuel, hf⟩ := h1
    rcases open_ints Tryd.underlying22 Tryd.underlying5 (by kernel_rfl) hf with ⟨hcs, _⟩ | ⟨x, l, c, zs, hcs, _, hl, hm, hz, _, hcell, hwz⟩
    · simp [Value.cells] at hcs
      obtain ⟨rfl, rfl, rfl⟩ := hcs
      exact ⟨[], Reads.empty, fun _ => ⟨rfl, rfl⟩, Nat.le_refl _, by simp [maxLen]⟩
    · simp [Value.cells] at hcs
      obtain ⟨rfl, rfl, rfl⟩ := hcs
      obtain ⟨l, hl2⟩ := bts_of_ints hl (by simpa using hz) hcell hwz
      exact ⟨l, hl2, (fun h => by cases h), hl, hm⟩
  obtain ⟨a2, rfl, rfl, rfl, w2⟩ := open_int Tryd.underlying3 (hval 2 3 v2 rfl rfl) h2
  have b2 := bounds_i64 w2
  clear hA0 hval0
  refine (JournalTorn_walk a0 cap0 hs0 ls0 a1 len1 cap1 l1 a2 W (of_laid hL) hR0 hP0 hM0 hl1 hn1 hc1.1 hc1.2 b2.1 b2.2).mono fun e W' ⟨he, bel⟩ => ?_
  subst he
  exact ⟨_, rfl, _, _, _, [], _, [], hW', trodAll_mk1 (shut_bool Tryd.underlying4 _), (trodAll_cons_mk (Below.trod laidOut (by kernel_rfl) (of_decide_eq_true (by kernel_rfl)) k0 bel lt0) (trodAll_cons_mk (Below.trod laidOut (by kernel_rfl) (of_decide_eq_true (by kernel_rfl)) k1 bel lt1) (trodAll_cons_mk (Below.trod laidOut (by kernel_rfl) (of_decide_eq_true (by kernel_rfl)) k2 bel lt2) trodAll_mk0))), rfl, bel.frame _, fun h => by cases h⟩

theorem over : Rows.journalTornRow.holds Tryd.pinned (OpenSpec.ofChange Rows.journalTornSpec) :=
  OpenClaim.holds_of_wide 8 Tryd.f8 rfl rfl rfl rfl rfl rfl rfl ⟨rfl, rfl, rfl, rfl, rfl⟩ rfl rfl rfl rfl rfl (by kernel_rfl) Tryd.func8 (by kernel_rfl)
    (of_decide_eq_true (by kernel_rfl)) (by unfold Func.isWrapper; first | (rw [if_pos (by decide +kernel)]; kernel_rfl) | (rw [if_neg (by decide +kernel)]; exact ⟨rfl, rfl⟩))
    (fun os started H enc _ => lifted os started H enc)
end Go.Proofs.YtgelgkgmgjhmnaaDoor.journalTornRow
namespace Go.Proofs.YtgelgkgmgjhmnaaDoor

theorem journalTorn_said : Rows.JournalTornSaid := journalTornRow.over
theorem journalTorn_holds : Rows.JournalTornCardSaid :=
  Claim7.holds_tied_plain_at .later [] [.data] true _ false
    journalTorn_said (fun _ h => by cases h) (by kernel_rfl) (fun _ h => by cases h) journalTorn_row_tie rfl ⟨rfl, rfl⟩ (by kernel_rfl) rfl
    (fun f fn hf hfn => by
      obtain rfl : f = 8 := Option.some.inj ((show Tryd.prog.funcNamed "hachure/hachurelaw40.JournalTorn" = some 8 by kernel_rfl).symm.trans hf) |>.symm
      obtain rfl : fn = Tryd.f8 := (Option.some.inj (Tryd.func8.symm.trans hfn)).symm
      exact ⟨by kernel_rfl, fun j t ht => by
        rw [Tryd.params8] at ht
        have hm : t ∈ [39, 22, 3] := by simpa using Array.mem_of_getElem? ht
        have hall : ([39, 22, 3].all fun u => !Tryd.prog.wantsStandIn u) = true := by kernel_rfl
        exact (show Tryd.prog.wantsStandIn t = false by simpa using List.all_eq_true.1 hall t hm)⟩)
    (by kernel_rfl)
#print axioms journalTorn_holds
end Go.Proofs.YtgelgkgmgjhmnaaDoor
