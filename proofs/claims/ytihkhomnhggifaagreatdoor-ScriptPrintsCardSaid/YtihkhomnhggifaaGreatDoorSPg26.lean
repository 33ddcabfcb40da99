/-
  Texts of the proofs, one behind the other: ScQa.
-/
import Derived.Test.YtihkhomnhggifaaGreatDoorSPg25
/-
  The document's Verb, Named.
-/
namespace Go.Proofs.YtihkhomnhggifaaGreatDoor
open Go.RowKit
open Sy
set_option linter.unusedVariables false
set_option linter.unusedSimpArgs false
set_option maxRecDepth 100000
set_option maxHeartbeats 4000000

theorem verbs_27 : ∀ k : Fin 27, (verbsL.drop 1)[k.val]? = some (verbT ((k.val : Int) + 1)) := by decide
theorem sVerb {R : HP} {k : Int} (h1 : 1 ≤ k) (h2 : k ≤ 27) : PureR Tryz.prog R 17 [.int .i64 k] (.string (bs (verbT k))) := by
  have hv := verbs_27 ⟨(k - 1).toNat, by omega⟩
  simp only at hv
  rw [show (((k - 1).toNat : Nat) : Int) + 1 = k by omega] at hv
  refine fn_of_run0 false Tryz.func17 rfl hmix rfl fun w0 => ?_
  conv => whnf
  refine ⟨trivial, OpAt.lit ((verbsL.drop 1).map fun z => .string (bs z)) 1 rfl rfl rfl rfl rfl (by decide) rfl rfl rfl (by simp [Value.cells, verbsL]) rfl (by decide) fun g => ?_⟩
  conv => whnf
  refine ⟨fun _ => ?_, fun g => absurd (show k < 1 by simpa using g) (by omega)⟩
  conv => whnf
  refine ⟨fun g => absurd (of_decide_eq_true g) (by omega), fun _ => ?_⟩
  conv => whnf
  refine ⟨⟨⟨trivial, by unfold rng; omega⟩, by omega⟩, LoadAt.cell (.string (bs (verbT k))) rfl rfl (fun w hw => ?_) ?_⟩
  · have hrd := rowH_reads rfl (hw.in_ 0 rfl)
    obtain ⟨ad, e1, _, e2⟩ := hrd.2 (by decide)
    injection e1 with e1
    subst e1
    have := e2 (k - 1).toNat (.string (bs (verbT k))) (by show ((verbsL.drop 1).map fun z => Value.string (bs z))[(k - 1).toNat]? = _; rw [List.getElem?_map, hv]; rfl)
    rw [add_plain] at this
    exact this
  conv => whnf
  exact ⟨trivial, fin_drop rfl⟩
/-- where the rows of what is named lie -/
def qNamed (q : OpA) (k : Int) : OpA := if k = 4 then ⟨q.A1, q.c1, none, 0, none, 0⟩ else if k = 24 then ⟨none, 0, q.A2, q.c2, none, 0⟩ else if k = 27 then ⟨none, 0, none, 0, q.A3, q.c3⟩ else ⟨none, 0, none, 0, none, 0⟩
theorem named_S {R : HP} {q : OpA} {x : OpF} (h1 : 1 ≤ x.o.kind) (h2 : x.o.kind ≤ 27) (h : OpS R q x) : OpS R (qNamed q x.o.kind) (named x) := by
  obtain ⟨⟨kind, x0, y0, x1, y1, ax, ay, bx, b_y, n, m⟩, vals, byts, bands⟩ := x
  obtain ⟨s1, s2, s3, k1, k2, k3⟩ := h
  have z : (0 : Nat) ≤ 0 ∧ 0 ≤ maxLen := ⟨Nat.le_refl _, Nat.zero_le _⟩
  simp only at *
  rcases kinds27 h1 h2 with rfl | rfl | rfl | rfl | rfl | rfl | rfl | rfl | rfl | rfl | rfl | rfl | rfl | rfl | rfl | rfl | rfl | rfl | rfl | rfl | rfl | rfl | rfl | rfl | rfl | rfl | rfl
  · exact ⟨Sl.nil _ _ _, Sl.nil _ _ _, Sl.nil _ _ _, z, z, z⟩
  · exact ⟨Sl.nil _ _ _, Sl.nil _ _ _, Sl.nil _ _ _, z, z, z⟩
  · exact ⟨Sl.nil _ _ _, Sl.nil _ _ _, Sl.nil _ _ _, z, z, z⟩
  · exact ⟨s1, Sl.nil _ _ _, Sl.nil _ _ _, k1, z, z⟩
  · exact ⟨Sl.nil _ _ _, Sl.nil _ _ _, Sl.nil _ _ _, z, z, z⟩
  · exact ⟨Sl.nil _ _ _, Sl.nil _ _ _, Sl.nil _ _ _, z, z, z⟩
  · exact ⟨Sl.nil _ _ _, Sl.nil _ _ _, Sl.nil _ _ _, z, z, z⟩
  · exact ⟨Sl.nil _ _ _, Sl.nil _ _ _, Sl.nil _ _ _, z, z, z⟩
  · exact ⟨Sl.nil _ _ _, Sl.nil _ _ _, Sl.nil _ _ _, z, z, z⟩
  · exact ⟨Sl.nil _ _ _, Sl.nil _ _ _, Sl.nil _ _ _, z, z, z⟩
  · exact ⟨Sl.nil _ _ _, Sl.nil _ _ _, Sl.nil _ _ _, z, z, z⟩
  · exact ⟨Sl.nil _ _ _, Sl.nil _ _ _, Sl.nil _ _ _, z, z, z⟩
  · exact ⟨Sl.nil _ _ _, Sl.nil _ _ _, Sl.nil _ _ _, z, z, z⟩
  · exact ⟨Sl.nil _ _ _, Sl.nil _ _ _, Sl.nil _ _ _, z, z, z⟩
  · exact ⟨Sl.nil _ _ _, Sl.nil _ _ _, Sl.nil _ _ _, z, z, z⟩
  · exact ⟨Sl.nil _ _ _, Sl.nil _ _ _, Sl.nil _ _ _, z, z, z⟩
  · exact ⟨Sl.nil _ _ _, Sl.nil _ _ _, Sl.nil _ _ _, z, z, z⟩
  · exact ⟨Sl.nil _ _ _, Sl.nil _ _ _, Sl.nil _ _ _, z, z, z⟩
  · exact ⟨Sl.nil _ _ _, Sl.nil _ _ _, Sl.nil _ _ _, z, z, z⟩
  · exact ⟨Sl.nil _ _ _, Sl.nil _ _ _, Sl.nil _ _ _, z, z, z⟩
  · exact ⟨Sl.nil _ _ _, Sl.nil _ _ _, Sl.nil _ _ _, z, z, z⟩
  · exact ⟨Sl.nil _ _ _, Sl.nil _ _ _, Sl.nil _ _ _, z, z, z⟩
  · exact ⟨Sl.nil _ _ _, Sl.nil _ _ _, Sl.nil _ _ _, z, z, z⟩
  · exact ⟨Sl.nil _ _ _, s2, Sl.nil _ _ _, z, k2, z⟩
  · exact ⟨Sl.nil _ _ _, Sl.nil _ _ _, Sl.nil _ _ _, z, z, z⟩
  · exact ⟨Sl.nil _ _ _, Sl.nil _ _ _, Sl.nil _ _ _, z, z, z⟩
  · exact ⟨Sl.nil _ _ _, Sl.nil _ _ _, s3, z, z, k3⟩
theorem sNamed {R : HP} {q : OpA} {x : OpF} (h1 : 1 ≤ x.o.kind) (h2 : x.o.kind ≤ 27) : PureR Tryz.prog R 10 [opV q x] (opV (qNamed q x.o.kind) (named x)) := by
  obtain ⟨⟨kind, x0, y0, x1, y1, ax, ay, bx, b_y, n, m⟩, vals, byts, bands⟩ := x
  unfold opV opCs opC
  simp only at *
  rcases kinds27 h1 h2 with rfl | rfl | rfl | rfl | rfl | rfl | rfl | rfl | rfl | rfl | rfl | rfl | rfl | rfl | rfl | rfl | rfl | rfl | rfl | rfl | rfl | rfl | rfl | rfl | rfl | rfl | rfl
  all_goals
    refine fn_of_run0 false Tryz.func10 rfl hmix rfl fun w0 => ?_
    conv => whnf
    repeat (first | (refine ⟨fun _ => ?_, fun h => absurd h (by decide)⟩; conv => whnf) | (refine ⟨fun h => absurd h (by decide), fun _ => ?_⟩; conv => whnf))
    exact ⟨trivial, fin_pure rfl rfl⟩
end Go.Proofs.YtihkhomnhggifaaGreatDoor

