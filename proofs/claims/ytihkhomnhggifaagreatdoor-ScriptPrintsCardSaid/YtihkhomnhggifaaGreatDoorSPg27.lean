/-
  Texts of the proofs, one behind the other: ScQc.
-/
import Derived.Test.YtihkhomnhggifaaGreatDoorSPg26
/-
  script's law: SameOp, big.
-/
namespace Go.Proofs.YtihkhomnhggifaaGreatDoor
open Go.RowKit
open Sy
set_option linter.unusedVariables false
set_option linter.unusedSimpArgs false
set_option maxRecDepth 100000
set_option maxHeartbeats 4000000

theorem numL_at {l : List Int} {i : Nat} (h : i < l.length) : (l.flatMap numL)[i]? = some (.int .i64 l[i]) := by
  have := flat_at (f := numL) (s := 1) (fun _ => rfl) (l := l) (i := i) (j := 0) h (by decide)
  rw [Nat.mul_one, Nat.add_zero] at this
  exact this
theorem sSame04 {R : HP} {A B : Option Addr} {n c d : Nat} {l : List Int} (hl : l.length = n) (hn : n ≤ 1000000) (ha : Sl R A n 1 (l.flatMap numL)) (hb : Sl R B n 1 (l.flatMap numL)) : PureR Tryz.prog R 27 [.slice A n c, .slice B n d] (.bool true) := by
  refine PureR.of_sat fun w hs => ?_
  obtain ⟨_, sa⟩ := ha.spot (by omega) hs
  obtain ⟨_, sb⟩ := hb.spot (by omega) hs
  clear hs
  refine fn_of_run0 false Tryz.func27 rfl hmix rfl fun w0 => ?_
  conv => whnf
  refine ⟨fun h => absurd h (by simp), fun _ => ?_⟩
  conv => whnf
  refine ⟨trivial, LoopAt.keep (α := Nat) [0, 1] (fun i => [(5, .v (.int .i64 (i : Int)))]) (fun i => i ≤ n) (fun i => n - i) 0 (Nat.zero_le _) rfl ⟨⟨rfl, rfl⟩, trivial⟩ ⟨⟨rfl, rfl⟩, ⟨rfl, rfl⟩, trivial⟩ trivial ?_⟩
  intro i hi
  conv => whnf
  refine ⟨fun h => ?_, fun h => ?_⟩
  · have hi2 : i < n := by simpa using h
    rcases sa with sa | ⟨b, off, rfl, sa⟩
    · omega
    rcases sb with sb | ⟨b', off', rfl, sb⟩
    · omega
    have f1 := numL_at (l := l) (i := i) (by omega)
    generalize l[i]'(by omega) = x at f1
    conv => whnf
    refine ⟨trivial, RegAt.quiet hmix (by kernel_rfl) ?_⟩
    conv => whnf
    refine ⟨⟨trivial, by omega⟩, LoadAt.cell (.int .i64 x) rfl rfl (fun w hw => ?_) ?_⟩
    · simp only [Int.toNat_natCast, Nat.mul_one]
      exact sa w (sat_base hw) _ _ f1
    conv => whnf
    refine ⟨⟨trivial, by omega⟩, LoadAt.cell (.int .i64 x) rfl rfl (fun w hw => ?_) ?_⟩
    · simp only [Int.toNat_natCast, Nat.mul_one]
      exact sb w (sat_base hw) _ _ f1
    conv => whnf
    refine ⟨trivial, ?_⟩
    conv => whnf
    refine iff_f (by simp) ?_
    conv => whnf
    exact ⟨⟨trivial, by unfold rng; omega⟩, Next.keep (i + 1) (by omega) (by omega) ⟨⟨rfl, rfl⟩, trivial⟩ ⟨⟨rfl, rfl⟩, ⟨rfl, rfl⟩, trivial⟩ trivial rfl rfl rfl⟩
  · conv => whnf
    exact ⟨trivial, fin_drop rfl⟩
theorem rect_eq (a b c d : Int) (w : World) : (Op.equalIn 10000 23 (.agg #[.int .i64 a, .int .i64 b, .int .i64 c, .int .i64 d]) (.agg #[.int .i64 a, .int .i64 b, .int .i64 c, .int .i64 d])).run Tryz.prog w = .ok true w :=
  (eq_agg 4 (by rfl) (by decide) (r := (a == a && (b == b && (c == c && (d == d && true))))) (by kernel_rfl) w).trans (by simp)
theorem cell_eq (a b : Int) (w : World) : (Op.equalIn 10000 25 (.agg #[.int .i64 a, .int .i64 b]) (.agg #[.int .i64 a, .int .i64 b])).run Tryz.prog w = .ok true w :=
  (eq_agg 4 (by rfl) (by decide) (r := (a == a && (b == b && true))) (by kernel_rfl) w).trans (by simp)
theorem sSameOp {R : HP} {q r : OpA} {x : OpF} (hq : OpS R q x) (hr : OpS R r x) (hf : x.vals.length ≤ 3000 ∧ x.byts.length ≤ 3000 ∧ x.bands.length ≤ 3000) : PureR Tryz.prog R 9 [opV q x, opV r x] (.bool true) := by
  obtain ⟨⟨kind, x0, y0, x1, y1, ax, ay, bx, b_y, n, m⟩, vals, byts, bands⟩ := x
  obtain ⟨s1, s2, s3, _, _, _⟩ := hq
  obtain ⟨t1, t2, t3, _, _, _⟩ := hr
  unfold opV opCs opC
  simp only at *
  refine fn_of_run0 false Tryz.func9 rfl hmix rfl fun w0 => ?_
  conv => whnf
  refine ⟨fun _ => ?_, fun g => absurd g (by simp)⟩
  conv => whnf
  refine ⟨trivial, OpAt.aggEq rfl rfl rfl rfl (by kernel_rfl) (fun w => rect_eq _ _ _ _ w) ?_⟩
  conv => whnf
  refine ⟨fun _ => ?_, fun g => absurd g (by simp)⟩
  conv => whnf
  refine ⟨trivial, OpAt.aggEq rfl rfl rfl rfl (by kernel_rfl) (fun w => cell_eq _ _ w) ?_⟩
  conv => whnf
  refine ⟨fun _ => ?_, fun g => absurd g (by simp)⟩
  conv => whnf
  refine ⟨trivial, OpAt.aggEq rfl rfl rfl rfl (by kernel_rfl) (fun w => cell_eq _ _ w) ?_⟩
  conv => whnf
  refine ⟨fun _ => ?_, fun g => absurd g (by simp)⟩
  conv => whnf
  refine ⟨fun _ => ?_, fun g => absurd g (by simp)⟩
  conv => whnf
  refine ⟨fun _ => ?_, fun g => absurd g (by simp)⟩
  conv => whnf
  refine ⟨trivial, CallAt.pure (fun R' hR' => sSame04 rfl (by omega) (s1.mono fun w s => sat_base (hR' w s)) (t1.mono fun w s => sat_base (hR' w s))) ?_⟩
  conv => whnf
  refine ⟨fun _ => ?_, fun g => absurd g (by simp)⟩
  conv => whnf
  refine ⟨trivial, OpAt.conv (r := .string (bs byts)) rfl rfl rfl (fun w hw => conv_bytes _ _ 5 rfl rfl rfl (s2 w (sat_base hw)) _) ?_⟩
  conv => whnf
  refine ⟨trivial, OpAt.conv (r := .string (bs byts)) rfl rfl rfl (fun w hw => conv_bytes _ _ 5 rfl rfl rfl (t2 w (sat_base hw)) _) ?_⟩
  conv => whnf
  refine ⟨fun _ => ?_, fun g => absurd g (by simp)⟩
  conv => whnf
  refine ⟨trivial, CallAt.pure (fun R' hR' => sSame33 (by omega) (s3.mono fun w s => sat_base (hR' w s)) (t3.mono fun w s => sat_base (hR' w s))) ?_⟩
  conv => whnf
  exact ⟨trivial, fin_drop rfl⟩
theorem sBig {R : HP} {q : OpA} {x : OpF} : PureR Tryz.prog R 5 [opV q x] (.bool (decide (500 < x.vals.length) || (decide (2000 < x.byts.length) || decide (40 < x.bands.length)))) := by
  obtain ⟨⟨kind, x0, y0, x1, y1, ax, ay, bx, b_y, n, m⟩, vals, byts, bands⟩ := x
  unfold opV opCs opC
  simp only
  generalize vals.length = n1
  generalize byts.length = n2
  generalize bands.length = n3
  refine fn_of_run0 false Tryz.func5 rfl hmix rfl fun w0 => ?_
  conv => whnf
  refine ⟨fun g1 => ?_, fun g1 => ?_⟩
  · have g1 := of_decide_eq_false g1
    conv => whnf
    refine ⟨fun g2 => ?_, fun g2 => ?_⟩
    · have g2 := of_decide_eq_false g2
      conv => whnf
      refine ⟨trivial, fin_pure rfl ?_⟩
      rw [decide_eq_false (show ¬ 500 < n1 by omega), decide_eq_false (show ¬ 2000 < n2 by omega), Bool.false_or, Bool.false_or]
      exact congrArg Value.bool (decide_eq_decide.2 (by omega))
    · have g2 : (2000 : Int) < n2 := by simpa using g2
      conv => whnf
      refine ⟨trivial, fin_pure rfl ?_⟩
      rw [decide_eq_true (show 2000 < n2 by omega), Bool.true_or, Bool.or_true]
      rfl
  · have g1 : (500 : Int) < n1 := by simpa using g1
    conv => whnf
    refine ⟨trivial, fin_pure rfl ?_⟩
    rw [decide_eq_true (show 500 < n1 by omega), Bool.true_or]
    rfl
end Go.Proofs.YtihkhomnhggifaaGreatDoor

