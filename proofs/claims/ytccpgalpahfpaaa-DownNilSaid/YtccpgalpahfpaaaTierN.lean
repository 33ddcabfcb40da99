/-
  tier in plain numbers: Size, check, Span.
-/
import Derived.Test.YtccpgalpahfpaaaFrom
namespace Go.Proofs.Ytccpgalpahfpaaa
open Go.RowKit
open Sy
set_option linter.unusedVariables false
set_option linter.unusedSimpArgs false
set_option maxRecDepth 100000
set_option maxHeartbeats 4000000

def halfN (W k : Nat) : Nat := (W - 1) / 2 ^ k + 1
theorem halfZ_N (W k : Nat) (h : 1 ≤ W) : halfZ (W : Int) k = ((halfN W k : Nat) : Int) := by
  unfold halfZ halfN
  have e : (W : Int) - 1 = ((W - 1 : Nat) : Int) := by omega
  rw [e]
  simp
theorem lev10 {W H k : Nat} (h : SizeOk (W : Int) (H : Int)) (hk : k < levN W H) : k ≤ 10 := by have := levN_le h; omega
theorem pow_le (k : Nat) (h : k ≤ 10) : 2 ^ k ≤ 1024 := by
  have := Nat.pow_le_pow_right (show 1 ≤ 2 by omega) h
  simpa using this
theorem pow_pos' (k : Nat) : 0 < 2 ^ k := Nat.pow_pos (by omega)
theorem half_mul {W k x : Nat} (hx : x < halfN W k) : x * 2 ^ k ≤ W - 1 := by
  unfold halfN at hx
  have h1 : x ≤ (W - 1) / 2 ^ k := by omega
  exact Nat.le_trans (Nat.mul_le_mul_right _ h1) (Nat.div_mul_le_self _ _)
theorem half_le {W k : Nat} (h : 1 ≤ W) : 1 ≤ halfN W k ∧ halfN W k ≤ W := by
  unfold halfN
  have := Nat.div_le_self (W - 1) (2 ^ k)
  generalize (W - 1) / 2 ^ k = q at *
  omega
def spX1 (W k x : Nat) : Nat := min ((x + 1) * 2 ^ k) W - 1
theorem sp_ok {W k x : Nat} (hW : 1 ≤ W) (hx : x < halfN W k) : x * 2 ^ k ≤ spX1 W k x ∧ spX1 W k x < W := by
  have h1 := half_mul hx
  have h2 := pow_pos' k
  unfold spX1
  rw [Nat.add_mul]
  generalize 2 ^ k = p at *
  generalize x * p = q at *
  omega
theorem spX1_Z {W k x : Nat} (hW : 1 ≤ W) : min (((x + 1) * 2 ^ k : Nat) : Int) (W : Int) - 1 = ((spX1 W k x : Nat) : Int) := by
  unfold spX1
  have h2 := pow_pos' k
  have : 0 < (x + 1) * 2 ^ k := Nat.mul_pos (by omega) h2
  generalize (x + 1) * 2 ^ k = q at *
  omega

theorem sTSize (W H k : Nat) (hs : SizeOk (W : Int) (H : Int)) (hk : k < levN W H) (R : HP) : PureR Try.prog R 41 [.int .i64 W, .int .i64 H, .int .i64 k] (.tuple #[.int .i64 (halfN W k : Nat), .int .i64 (halfN H k : Nat), .int .i64 0]) := by
  refine PureR.of_below fun w _ => ?_
  have := Size_ok W H k w hs hk
  unfold SizeOk at hs
  rw [halfZ_N W k (by omega), halfZ_N H k (by omega)] at this
  exact this
theorem sTSizeArg (W H k : Int) (hs : SizeOk W H) (hk : k < 0 ∨ (levN W H : Int) ≤ k) (R : HP) : PureR Try.prog R 41 [.int .i64 W, .int .i64 H, .int .i64 k] (.tuple #[.int .i64 0, .int .i64 0, .int .i64 11]) := PureR.of_below fun w _ => Size_arg W H k w hs hk

theorem sTCheck (W H k x y : Nat) (hs : SizeOk (W : Int) (H : Int)) (hk : k < levN W H) (hx : x < halfN W k) (hy : y < halfN H k) (R : HP) : PureR Try.prog R 89 [.int .i64 W, .int .i64 H, .int .i64 k, cellV x y] (.int .i64 0) := by
  refine fn_of_run0 false Try.func89 rfl hmix rfl fun w0 => ?_
  conv => whnf
  refine ⟨trivial, CallAt.pure (fun R' _ => sTSize W H k hs hk R') ?_⟩
  conv => whnf
  refine iff_f (by decide) ?_
  conv => whnf
  refine ⟨fun h1 => ?_, fun h1 => absurd h1 (by simp)⟩
  conv => whnf
  refine ⟨fun h2 => ?_, fun h2 => absurd h2 (by simp; omega)⟩
  conv => whnf
  refine ⟨fun h3 => ?_, fun h3 => absurd h3 (by simp)⟩
  conv => whnf
  refine ⟨fun h4 => absurd h4 (by simp; omega), fun h4 => ?_⟩
  conv => whnf
  exact ⟨trivial, fin_pure rfl rfl⟩

theorem sTSpan (W H k x y : Nat) (hs : SizeOk (W : Int) (H : Int)) (hk : k < levN W H) (hx : x < halfN W k) (hy : y < halfN H k) (R : HP) : PureR Try.prog R 55 [.int .i64 W, .int .i64 H, .int .i64 k, cellV x y] (.tuple #[rectV ((x * 2 ^ k : Nat) : Int) ((y * 2 ^ k : Nat) : Int) ((spX1 W k x : Nat) : Int) ((spX1 H k y : Nat) : Int), .int .i64 0]) := by
  have k10 := lev10 hs hk
  have hp := pow_le k k10
  have hp0 := pow_pos' k
  have hx1 := half_mul hx
  have hy1 := half_mul hy
  have hs' := hs
  unfold SizeOk at hs'
  obtain ⟨sx1, sx2⟩ := sp_ok (by omega) hx
  obtain ⟨sy1, sy2⟩ := sp_ok (by omega) hy
  have lx := (half_le (W := W) (k := k) (by omega)).2
  have ly := (half_le (W := H) (k := k) (by omega)).2
  have e0 : (2 : Int) ^ (k : Int).toNat = ((2 ^ k : Nat) : Int) := by simp
  have ex : (x : Int) * 2 ^ (k : Int).toNat = ((x * 2 ^ k : Nat) : Int) := by rw [e0]; simp
  have ey : (y : Int) * 2 ^ (k : Int).toNat = ((y * 2 ^ k : Nat) : Int) := by rw [e0]; simp
  have ex2 : ((x : Int) + 1) * 2 ^ (k : Int).toNat = (((x + 1) * 2 ^ k : Nat) : Int) := by rw [e0]; simp
  have ey2 : ((y : Int) + 1) * 2 ^ (k : Int).toNat = (((y + 1) * 2 ^ k : Nat) : Int) := by rw [e0]; simp
  have bx : (x + 1) * 2 ^ k ≤ 2047 := by rw [Nat.add_mul]; omega
  have by' : (y + 1) * 2 ^ k ≤ 2047 := by rw [Nat.add_mul]; omega
  refine fn_of_run0 false Try.func55 rfl hmix rfl fun w0 => ?_
  conv => whnf
  refine ⟨trivial, CallAt.pure (fun R' _ => sTCheck W H k x y hs hk hx hy R') ?_⟩
  conv => whnf
  refine iff_f (by decide) ?_
  conv => whnf
  refine ⟨trivial, RegAt.tail 25 hmix (by kernel_rfl) ?_⟩
  have eb : ((IntKind.i64.bits : Nat) : Int) = 64 := rfl
  conv => whnf
  refine ⟨?_, ?_⟩
  · repeat' apply And.intro
    all_goals first
      | trivial
      | omega
      | (rw [eb]; omega)
      | (rw [ex]; omega)
      | (rw [ey]; omega)
      | (rw [ex2]; omega)
      | (rw [ey2]; omega)
  conv => whnf
  refine ⟨trivial, fin_pure rfl ?_⟩
  rw [← spX1_Z (by omega), ← spX1_Z (by omega), ← ex, ← ey, ← ex2, ← ey2]
  rfl
end Go.Proofs.Ytccpgalpahfpaaa
