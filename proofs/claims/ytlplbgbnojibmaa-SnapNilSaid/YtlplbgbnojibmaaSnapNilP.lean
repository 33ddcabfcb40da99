/-
  The statement SnapNil: for every input the call returns true. The texts: SnapNilRow.
-/
import Derived.Test.YtlplbgbnojibmaaPartQ
import Derived.ProofKit
import Derived.OpenShut
import Derived.Lib.SmallJoins
/-
  The statement of hachurelaw22.SnapNil: for every input the call returns true, and each argument reads afterwards as it read before. The row's own frame round the walk 'SnapNil_walk'.
-/
namespace Go.Proofs.Ytlplbgbnojibmaa.snapNilRow
open Go.Proofs.Ytlplbgbnojibmaa
open Go.ChangeShapes Go.WideShapes Go.ChangeAt Go.RowKit Go.Joins
set_option linter.unusedVariables false

theorem own : ownKnob Try.prog.godebug = none := by kernel_rfl
theorem laidOut : laidOutB Try.prog = true := by kernel_rfl


set_option maxRecDepth 100000 in
theorem lifted (os : Os) (started : os.Started) (H : Type) (enc : TypeId × Value → H) :
    ReturnsInHanded {} Try.checked os 11 .any (Rows.snapNilSpec.pre6 enc Try.prog Try.f11 Rows.snapNilRow.domain false) (Rows.snapNilSpec.post enc Try.prog Try.f11 false true false false) := by
  refine returnsInHanded_of_change (C := Try.checked) own started (by kernel_rfl) Try.func11
    (ChangeSpec.witness6 (enc := enc) (C := Try.checked) false ⟨#[], #[.int .i64 0, .agg #[.int .i64 0, .int .i64 0, .int .i64 0, .int .i64 0]], []⟩ 8 (by kernel_rfl) (by kernel_rfl) (by kernel_rfl) (by kernel_rfl)) ?_
  intro W base args ds gs before hval0 hW hcnd _
  have hval : ∀ (j : Nat) t v, Try.f11.params[j]? = some t → args[j]? = some v → Value.okWide Try.prog W .any base t v := hval0
  have hW' := hW
  obtain ⟨p, q, hA0, hV, rfl, hfz, hnd⟩ := hW
  have hA : DataW.TrodAll enc Try.prog W 0 (fun _ => true) true Try.f11.params.toList args.toList ds p := hA0
  rw [Try.params11] at hA hval
  obtain ⟨v0, vs0, d0, ds0, p0, q0, hargs, rfl, rfl, h0, r0⟩ := trodAll_cons hA
  obtain ⟨v1, vs1, d1, ds1, p1, q1, rfl, rfl, rfl, h1, r1⟩ := trodAll_cons r0
  obtain ⟨rfl, rfl, rfl⟩ := trodAll_nil r1
  obtain rfl : args = #[v0, v1] := by cases args; simp_all
  obtain ⟨rfl, rfl⟩ := trodVars_none hV
  have k0 := h0
  have lt0 : ∀ x ∈ p0, x.block < W.heap.size := by obtain ⟨m, hm⟩ := k0; exact DataW.trod_lt m _ _ _ hm
  have k1 := h1
  have lt1 : ∀ x ∈ p1, x.block < W.heap.size := by obtain ⟨m, hm⟩ := k1; exact DataW.trod_lt m _ _ _ hm
  obtain ⟨a0, rfl, rfl, rfl, w0⟩ := open_int Try.underlying2 (hval 0 2 v0 rfl rfl) h0
  have b0 := bounds_i64 w0
  obtain ⟨ca1, cb1, cc1, cd1, ea1, eb1, ec1, ed1, em1, rfl, rfl, rfl, ha1, hb1, hc1, hd1⟩ := open_agg4 Try.underlying25 (by kernel_rfl) (by kernel_rfl) (hval 1 25 v1 rfl rfl) h1
  obtain ⟨x1, fx1, rfl, wx1⟩ := DataW.trod_int Try.underlying2 ha1
  obtain ⟨y1, fy1, rfl, wy1⟩ := DataW.trod_int Try.underlying2 hb1
  obtain ⟨z1, fz1, rfl, wz1⟩ := DataW.trod_int Try.underlying2 hc1
  obtain ⟨u1, fu1, rfl, wu1⟩ := DataW.trod_int Try.underlying2 hd1
  simp at fx1 fy1 fz1 fu1
  subst fx1 fy1 fz1 fu1
  have bx1 := bounds_i64 wx1
  have by1 := bounds_i64 wy1
  have bz1 := bounds_i64 wz1
  have bu1 := bounds_i64 wu1
  clear hA0 hval0
  refine (SnapNil_walk a0 x1 y1 z1 u1 W b0.1 b0.2 bx1.1 bx1.2 by1.1 by1.2 bz1.1 bz1.2 bu1.1 bu1.2).mono fun e W' ⟨he, bel⟩ => ?_
  subst he
  exact ⟨_, rfl, _, _, _, [], _, [], hW', trodAll_mk1 (shut_bool Try.underlying4 _), (trodAll_cons_mk (Below.trod laidOut (by kernel_rfl) (of_decide_eq_true (by kernel_rfl)) k0 bel lt0) (trodAll_cons_mk (Below.trod laidOut (by kernel_rfl) (of_decide_eq_true (by kernel_rfl)) k1 bel lt1) trodAll_mk0)), rfl, bel.frame _, fun h => by cases h⟩

theorem over : Rows.snapNilRow.holds Try.pinned (OpenSpec.ofChange Rows.snapNilSpec) :=
  OpenClaim.holds_of_wide 11 Try.f11 rfl rfl rfl rfl rfl rfl rfl ⟨rfl, rfl, rfl, rfl, rfl⟩ rfl rfl rfl rfl rfl (by kernel_rfl) Try.func11 (by kernel_rfl)
    (of_decide_eq_true (by kernel_rfl)) (by unfold Func.isWrapper; first | (rw [if_pos (by decide +kernel)]; kernel_rfl) | (rw [if_neg (by decide +kernel)]; exact ⟨rfl, rfl⟩))
    (fun os started H enc _ => lifted os started H enc)
end Go.Proofs.Ytlplbgbnojibmaa.snapNilRow
namespace Go.Proofs.Ytlplbgbnojibmaa

theorem snapNil_holds : Rows.SnapNilSaid := snapNilRow.over
#print axioms snapNil_holds
end Go.Proofs.Ytlplbgbnojibmaa

