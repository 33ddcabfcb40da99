/-
  Texts of the proofs, one behind the other: StoreNil.
-/
import Derived.Test.YtgfiakgahmpfkaaGreatDoorSNg06
import Derived.Test.YtgfiakgahmpfkaaGreatDoorSNg13
import Derived.Test.YtgfiakgahmpfkaaGreatDoorSNg26
namespace Go.Proofs.YtgfiakgahmpfkaaGreatDoor
open Go.RowKit
open Sy
set_option linter.unusedVariables false
set_option linter.unusedSimpArgs false
set_option maxRecDepth 100000
set_option maxHeartbeats 4000000

theorem sStoreNil {R : HP} {q : OpA} {x : OpF} (hk : x.ok) (hs : OpS R q x) : PureR Tryz.prog R 3 [opV q x] (.bool true) := by
  refine fn_of_run_cut false 6 Tryz.func3 rfl rfl hmix rfl rfl (fuel := 100000) (n := 80) Cx.orNone_ok (T := []) rfl (fun w s g o h => by cases h) rfl ?_ fun w0 => ?_
  · exact stEnd
  · have hdo := fun R' => sDoNil36 (R := R') (q := q) (x := x)
    have hhv := fun R' g c (h : ∀ w, Sat R' w → Sat R w) hr => sHeavy1 (R := R') (g := g) (c := c) hk (hs.mono h) hr
    unfold opV opCs opC at hdo
    show run _ _ ⟨startT 0 (toSVs [.agg (opC x.o _ _ _)]), [], 0, [], True⟩ _ _ _
    unfold opC
    conv => whnf
    refine ⟨trivial, CallAt.pure (fun R' hR' => sAwake36) ?_⟩
    conv => whnf
    refine iff_f rfl ?_
    conv => whnf
    refine ⟨trivial, OpAt.lit [opV q x] 14 rfl rfl rfl rfl rfl (by decide) rfl rfl rfl (by simp [opV, opCs, opC, Value.cells]) rfl (by decide) fun g => ?_⟩
    conv => whnf
    refine ⟨trivial, CallAt.fn (pre := []) _ (fun h s => s) (fun R' hR' => hhv R' g 1 (fun w s => sat_baseF (hR' w s)) (fun w s => (hR' w s).in_ 0 rfl)) ?_⟩
    rintro r hs' ⟨b, rfl, rfl⟩
    conv => whnf
    cases b with
    | true =>
      repeat (first | (refine ⟨fun _ => ?_, fun h => absurd h (by decide)⟩; conv => whnf) | (refine ⟨fun h => absurd h (by decide), fun _ => ?_⟩; conv => whnf))
      exact ⟨trivial, fin_drop rfl⟩
    | false =>
      repeat (first | (refine ⟨fun _ => ?_, fun h => absurd h (by decide)⟩; conv => whnf) | (refine ⟨fun h => absurd h (by decide), fun _ => ?_⟩; conv => whnf))
      refine ⟨trivial, CallAt.pure (fun R' hR' => sPastNil) ?_⟩
      conv => whnf
      refine ⟨trivial, CallAt.pure (fun R' hR' => hdo R') ?_⟩
      conv => whnf
      refine ⟨trivial, CallAt.pure (fun R' hR' => sSameNil) ?_⟩
      conv => whnf
      repeat (first | (refine ⟨fun _ => ?_, fun h => absurd h (by decide)⟩; conv => whnf) | (refine ⟨fun h => absurd h (by decide), fun _ => ?_⟩; conv => whnf))
      refine ⟨trivial, CallAt.pure (fun R' hR' => sGridNil) ?_⟩
      conv => whnf
      repeat (first | (refine ⟨fun _ => ?_, fun h => absurd h (by decide)⟩; conv => whnf) | (refine ⟨fun h => absurd h (by decide), fun _ => ?_⟩; conv => whnf))
      exact trivial
theorem StoreNil_walk (q : OpA) (x : OpF) (w : World) (ok : x.ok) (hs : OpS (was w) q x) :
    Calls Tryz.prog 3 #[opV q x] w fun e w' => e = .returned (.bool true) ∧ Below w.heap.size w w' :=
  PureR.below (args := [opV q x]) (sStoreNil (R := was w) ok hs)
end Go.Proofs.YtgfiakgahmpfkaaGreatDoor
