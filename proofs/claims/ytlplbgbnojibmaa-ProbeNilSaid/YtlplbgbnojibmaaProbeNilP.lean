/-
  The statement ProbeNil: for every input the call returns true. The texts: ProbeNil, ProbeNilW, ProbeNilRow.
-/
import Derived.Test.YtlplbgbnojibmaaPartO
import Derived.Test.YtlplbgbnojibmaaPartM
import Derived.ProofKit
import Derived.OpenShut
import Derived.Lib.SmallJoins
/-
  the law ProbeNil, when its grid is awake.
-/
namespace Go.Proofs.Ytlplbgbnojibmaa
open Go.RowKit
open Sy
set_option linter.unusedVariables false
set_option linter.unusedSimpArgs false
set_option maxRecDepth 100000
set_option maxHeartbeats 4000000

theorem sLawProbeNil (haw : ∀ R : HP, PureR Try.prog R 15 [] (.bool true)) (r : Q4) (v : Int) (R : HP) : PureR Try.prog R 4 [r.v, .int .i64 v] (.bool true) := by
  have h1 := fun R' => sRangeNil r R'
  have h2 := fun R' => sLeastNil r R'
  have h3 := fun R' => sMostNil r R'
  have h4 := fun R' => sFirstNil r v R'
  refine fn_of_run0 false Try.func4 rfl hmix rfl fun w0 => ?_
  conv => whnf
  refine ⟨trivial, CallAt.pure (fun R' hR' => haw R') ?_⟩
  conv => whnf
  refine iff_f rfl ?_
  conv => whnf
  refine ⟨trivial, CallAt.pure (fun R' hR' => h1 R') ?_⟩
  conv => whnf
  refine ⟨trivial, CallAt.pure (fun R' hR' => h2 R') ?_⟩
  conv => whnf
  refine ⟨trivial, CallAt.pure (fun R' hR' => h3 R') ?_⟩
  conv => whnf
  refine ⟨trivial, CallAt.pure (fun R' hR' => h4 R') ?_⟩
  conv => whnf
  refine ⟨trivial, OpAt.aggEq rfl rfl rfl rfl (by kernel_rfl) (fun w => eq_agg 4 (by rfl) (by decide) (r := true) (by kernel_rfl) w) ?_⟩
  conv => whnf
  repeat (first | (refine ⟨fun _ => ?_, fun h => absurd h (by decide)⟩; conv => whnf) | (refine ⟨fun h => absurd h (by decide), fun _ => ?_⟩; conv => whnf))
  refine ⟨trivial, OpAt.aggEq rfl rfl rfl rfl (by kernel_rfl) (fun w => eq_agg 4 (by rfl) (by decide) (r := true) (by kernel_rfl) w) ?_⟩
  conv => whnf
  repeat (first | (refine ⟨fun _ => ?_, fun h => absurd h (by decide)⟩; conv => whnf) | (refine ⟨fun h => absurd h (by decide), fun _ => ?_⟩; conv => whnf))
  refine ⟨trivial, OpAt.aggEq rfl rfl rfl rfl (by kernel_rfl) (fun w => eq_agg 4 (by rfl) (by decide) (r := true) (by kernel_rfl) w) ?_⟩
  conv => whnf
  repeat (first | (refine ⟨fun _ => ?_, fun h => absurd h (by decide)⟩; conv => whnf) | (refine ⟨fun h => absurd h (by decide), fun _ => ?_⟩; conv => whnf))
  refine ⟨trivial, OpAt.aggEq rfl rfl rfl rfl (by kernel_rfl) (fun w => eq_agg 4 (by rfl) (by decide) (r := true) (by kernel_rfl) w) ?_⟩
  conv => whnf
  repeat (first | (refine ⟨fun _ => ?_, fun h => absurd h (by decide)⟩; conv => whnf) | (refine ⟨fun h => absurd h (by decide), fun _ => ?_⟩; conv => whnf))
  exact ⟨trivial, fin_pure rfl rfl⟩
end Go.Proofs.Ytlplbgbnojibmaa

/-
  In no pyramid nothing is found: the law's walk.
-/
namespace Go.Proofs.Ytlplbgbnojibmaa
open Go.RowKit
open Sy
set_option linter.unusedVariables false
set_option linter.unusedSimpArgs false
set_option maxRecDepth 100000
set_option maxHeartbeats 4000000

theorem ProbeNil_walk (x y z u t : Int) (w : World) (_ : -9223372036854775808 ≤ x) (_ : x ≤ 9223372036854775807) (_ : -9223372036854775808 ≤ y) (_ : y ≤ 9223372036854775807) (_ : -9223372036854775808 ≤ z) (_ : z ≤ 9223372036854775807) (_ : -9223372036854775808 ≤ u) (_ : u ≤ 9223372036854775807) (_ : -9223372036854775808 ≤ t) (_ : t ≤ 9223372036854775807) :
    Calls Try.prog 4 #[.agg #[.int .i64 x, .int .i64 y, .int .i64 z, .int .i64 u], .int .i64 t] w fun e w' => e = .returned (.bool true) ∧ Below w.heap.size w w' :=
  PureR.below (args := [.agg #[.int .i64 x, .int .i64 y, .int .i64 z, .int .i64 u], .int .i64 t]) (sLawProbeNil sAwake17 ⟨x, y, z, u⟩ t _)
end Go.Proofs.Ytlplbgbnojibmaa

/-
  The statement of hachurelaw17.ProbeNil: for every input the call returns true, and each argument reads afterwards as it read before. The row's own frame round the walk 'ProbeNil_walk'.
-/
namespace Go.Proofs.Ytlplbgbnojibmaa.probeNilRow
open Go.Proofs.Ytlplbgbnojibmaa
open Go.ChangeShapes Go.WideShapes Go.ChangeAt Go.RowKit Go.Joins
set_option linter.unusedVariables false

theorem own : ownKnob Try.prog.godebug = none := by kernel_rfl
theorem laidOut : laidOutB Try.prog = true := by kernel_rfl


set_option maxRecDepth 100000 in
theorem lifted (os : Os) (started : os.Started) (H : Type) (enc : TypeId × Value → H) :
    ReturnsInHanded {} Try.checked os 4 .any (Rows.probeNilSpec.pre6 enc Try.prog Try.f4 Rows.probeNilRow.domain false) (Rows.probeNilSpec.post enc Try.prog Try.f4 false true false false) := by
  refine returnsInHanded_of_change (C := Try.checked) own started (by kernel_rfl) Try.func4
    (ChangeSpec.witness6 (enc := enc) (C := Try.checked) false ⟨#[], #[.agg #[.int .i64 0, .int .i64 0, .int .i64 0, .int .i64 0], .int .i64 0], []⟩ 8 (by kernel_rfl) (by kernel_rfl) (by kernel_rfl) (by kernel_rfl)) ?_
  intro W base args ds gs before hval0 hW hcnd _
  have hval : ∀ (j : Nat) t v, Try.f4.params[j]? = some t → args[j]? = some v → Value.okWide Try.prog W .any base t v := hval0
  have hW' := hW
  obtain ⟨p, q, hA0, hV, rfl, hfz, hnd⟩ := hW
  have hA : DataW.TrodAll enc Try.prog W 0 (fun _ => true) true Try.f4.params.toList args.toList ds p := hA0
  rw [Try.params4] at hA hval
  obtain ⟨v0, vs0, d0, ds0, p0, q0, hargs, rfl, rfl, h0, r0⟩ := trodAll_cons hA
  obtain ⟨v1, vs1, d1, ds1, p1, q1, rfl, rfl, rfl, h1, r1⟩ := trodAll_cons r0
  obtain ⟨rfl, rfl, rfl⟩ := trodAll_nil r1
  obtain rfl : args = #[v0, v1] := by cases args; simp_all
  obtain ⟨rfl, rfl⟩ := trodVars_none hV
  have k0 := h0
  have lt0 : ∀ x ∈ p0, x.block < W.heap.size := by obtain ⟨m, hm⟩ := k0; exact DataW.trod_lt m _ _ _ hm
  have k1 := h1
  have lt1 : ∀ x ∈ p1, x.block < W.heap.size := by obtain ⟨m, hm⟩ := k1; exact DataW.trod_lt m _ _ _ hm
  obtain ⟨ca0, cb0, cc0, cd0, ea0, eb0, ec0, ed0, em0, rfl, rfl, rfl, ha0, hb0, hc0, hd0⟩ := open_agg4 Try.underlying25 (by kernel_rfl) (by kernel_rfl) (hval 0 25 v0 rfl rfl) h0
  obtain ⟨x0, fx0, rfl, wx0⟩ := DataW.trod_int Try.underlying2 ha0
  obtain ⟨y0, fy0, rfl, wy0⟩ := DataW.trod_int Try.underlying2 hb0
  obtain ⟨z0, fz0, rfl, wz0⟩ := DataW.trod_int Try.underlying2 hc0
  obtain ⟨u0, fu0, rfl, wu0⟩ := DataW.trod_int Try.underlying2 hd0
  simp at fx0 fy0 fz0 fu0
  subst fx0 fy0 fz0 fu0
  have bx0 := bounds_i64 wx0
  have by0 := bounds_i64 wy0
  have bz0 := bounds_i64 wz0
  have bu0 := bounds_i64 wu0
  obtain ⟨a1, rfl, rfl, rfl, w1⟩ := open_int Try.underlying2 (hval 1 2 v1 rfl rfl) h1
  have b1 := bounds_i64 w1
  clear hA0 hval0
  refine (ProbeNil_walk x0 y0 z0 u0 a1 W bx0.1 bx0.2 by0.1 by0.2 bz0.1 bz0.2 bu0.1 bu0.2 b1.1 b1.2).mono fun e W' ⟨he, bel⟩ => ?_
  subst he
  exact ⟨_, rfl, _, _, _, [], _, [], hW', trodAll_mk1 (shut_bool Try.underlying4 _), (trodAll_cons_mk (Below.trod laidOut (by kernel_rfl) (of_decide_eq_true (by kernel_rfl)) k0 bel lt0) (trodAll_cons_mk (Below.trod laidOut (by kernel_rfl) (of_decide_eq_true (by kernel_rfl)) k1 bel lt1) trodAll_mk0)), rfl, bel.frame _, fun h => by cases h⟩

theorem over : Rows.probeNilRow.holds Try.pinned (OpenSpec.ofChange Rows.probeNilSpec) :=
  OpenClaim.holds_of_wide 4 Try.f4 rfl rfl rfl rfl rfl rfl rfl ⟨rfl, rfl, rfl, rfl, rfl⟩ rfl rfl rfl rfl rfl (by kernel_rfl) Try.func4 (by kernel_rfl)
    (of_decide_eq_true (by kernel_rfl)) (by unfold Func.isWrapper; first | (rw [if_pos (by decide +kernel)]; kernel_rfl) | (rw [if_neg (by decide +kernel)]; exact ⟨rfl, rfl⟩))
    (fun os started H enc _ => lifted os started H enc)
end Go.Proofs.Ytlplbgbnojibmaa.probeNilRow
namespace Go.Proofs.Ytlplbgbnojibmaa

theorem probeNil_holds : Rows.ProbeNilSaid := probeNilRow.over
#print axioms probeNil_holds
end Go.Proofs.Ytlplbgbnojibmaa

