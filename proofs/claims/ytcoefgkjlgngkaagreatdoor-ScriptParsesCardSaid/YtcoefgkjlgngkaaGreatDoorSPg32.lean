/-
  Texts of the proofs, one behind the other: ScQa.
-/
import Derived.Test.YtcoefgkjlgngkaaGreatDoorSPg12
import Derived.Test.YtcoefgkjlgngkaaGreatDoorSPg31
namespace Go.Proofs.YtcoefgkjlgngkaaGreatDoor
open Go.RowKit
open Sy
set_option linter.unusedVariables false
set_option linter.unusedSimpArgs false
set_option maxRecDepth 100000
set_option maxHeartbeats 4000000
theorem verbs_27:∀ k:Fin 27,(verbsL.drop 1)[k.val]? = some (verbT ((k.val:Int)+1)):=by decide
theorem sVerb {R:HP} {k:Int} (h1:1≤k) (h2:k≤27):PureR Tryz.prog R 15 [.int .i64 k] (.string (bs (verbT k))):=by
 have hv:=verbs_27 ⟨(k - 1).toNat,by omega⟩
 simp only at hv
 rw [show (((k - 1).toNat:Nat):Int)+1=k by omega] at hv
 refine fn_of_run0 false Tryz.func15 rfl hmix rfl λw0=>?_
 conv=>whnf
 refine ⟨trivial,OpAt.lit ((verbsL.drop 1).map λz=>.string (bs z)) 1 rfl rfl rfl rfl rfl (by decide) rfl rfl rfl (by simp [Value.cells,verbsL]) rfl (by decide) λg=>?_⟩
 conv=>whnf
 refine ⟨λ_=>?_,λg=>absurd (show k < 1 by simpa using g) (by omega)⟩
 conv=>whnf
 refine ⟨λg=>absurd (of_decide_eq_true g) (by omega),λ_=>?_⟩
 conv=>whnf
 refine ⟨⟨⟨trivial,by unfold rng;omega⟩,by omega⟩,LoadAt.cell (.string (bs (verbT k))) rfl rfl (λw hw=>?_) ?_⟩
 ·have hrd:=rowH_reads rfl (hw.in_ 0 rfl)
  obtain ⟨ad,e1,_,e2⟩:=hrd.2 (by decide)
  injection e1 with e1
  subst e1
  have:=e2 (k - 1).toNat (.string (bs (verbT k))) (by show ((verbsL.drop 1).map λz=>Value.string (bs z))[(k - 1).toNat]? = _;rw [List.getElem?_map,hv];rfl)
  rw [add_plain] at this
  exact this
 conv=>whnf
 exact ⟨trivial,fin_drop rfl⟩
end Go.Proofs.YtcoefgkjlgngkaaGreatDoor
