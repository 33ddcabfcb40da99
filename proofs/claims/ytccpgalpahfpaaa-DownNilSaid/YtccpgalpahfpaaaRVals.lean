/-
  The document's Values of a model.
-/
import Derived.Test.YtccpgalpahfpaaaRange
namespace Go.Proofs.Ytccpgalpahfpaaa
open Go.RowKit
open Sy
set_option linter.unusedVariables false
set_option linter.unusedSimpArgs false
set_option maxRecDepth 100000
set_option maxHeartbeats 4000000

abbrev modV (W H : Int) (A : Option Addr) (n c : Nat) : Value := .agg #[.int .i64 W, .int .i64 H, .slice A n c]
def vA (f : Nat → Nat → Int) (x0 nx y0 j i : Nat) : List Int := vRows f x0 nx y0 j ++ vRow f x0 (y0 + j) i
theorem vA_next (f : Nat → Nat → Int) (x0 nx y0 j i : Nat) : vA f x0 nx y0 j (i + 1) = vA f x0 nx y0 j i ++ [f (x0 + i) (y0 + j)] := by simp [vA, vRow_succ]
theorem vA_len (f : Nat → Nat → Int) (x0 nx y0 j i : Nat) : (vA f x0 nx y0 j i).length = j * nx + i := by simp [vA, vRows_len, vRow_len]
theorem ints_one (l : List Int) : ∀ u ∈ ints l, u.oneCell' = true := by
  intro u hu
  simp only [ints, List.mem_map] at hu
  obtain ⟨z, _, rfl⟩ := hu
  rfl

theorem sRValues {R : HP} {A : Option Addr} {n c W H : Nat} {l : List Int} (ha : Vs R A n l) (hn : W * H = n) (hW : W ≤ 1024) (hH : H ≤ 1024) (x0 y0 x1 y1 : Nat) (r2 : x0 ≤ x1) (r3 : x1 < W) (r5 : y0 ≤ y1) (r6 : y1 < H) :
    FnR Try.prog R 42 [modV W H A n c, rectV x0 y0 x1 y1] [] fun r hs => ∃ B d, r = .tuple #[.slice B (vRows (gv W l) x0 (x1 - x0 + 1) y0 (y1 - y0 + 1)).length d, .int .i64 0] ∧
      hs = [rowH (.slice B (vRows (gv W l) x0 (x1 - x0 + 1) y0 (y1 - y0 + 1)).length d) (vRows (gv W l) x0 (x1 - x0 + 1) y0 (y1 - y0 + 1)).length 2 1 (ints (vRows (gv W l) x0 (x1 - x0 + 1) y0 (y1 - y0 + 1)))] := by
  refine FnR.of_sat fun w hs => ?_
  obtain ⟨h1, sa⟩ := ha.spot hs
  have hn2 : n ≤ 1048576 := by rw [← hn]; exact Nat.mul_le_mul hW hH
  have hpos : 0 < n := by rw [← hn]; exact Nat.mul_pos (by omega) (by omega)
  rcases sa with sa | ⟨b, off, rfl, sa⟩
  · omega
  obtain ⟨nx, hnx⟩ : ∃ nx, x1 - x0 + 1 = nx := ⟨_, rfl⟩
  obtain ⟨ny, hny⟩ : ∃ ny, y1 - y0 + 1 = ny := ⟨_, rfl⟩
  rw [hnx, hny]
  have hw : withinZ x0 y0 x1 y1 W H = 0 := within_of ⟨by omega, by omega, by omega, by omega⟩ (by omega) (by omega) (by omega) (by omega) (by omega) (by omega)
  have hwi := fun R' => sRWithin x0 y0 x1 y1 W H R'
  rw [hw] at hwi
  have lenB : ∀ j i, j ≤ ny → i ≤ nx → (vA (gv W l) x0 nx y0 j i).length ≤ 1049600 := fun j i hj hi => by
    rw [vA_len]
    have := Nat.mul_le_mul (show j ≤ 1024 by omega) (show nx ≤ 1024 by omega)
    omega
  refine fn_of_run0 false Try.func42 rfl hmix rfl fun w0 => ?_
  conv => whnf
  refine ⟨trivial, CallAt.pure (fun R' _ => hwi R') ?_⟩
  conv => whnf
  refine iff_f (by decide) ?_
  conv => whnf
  refine ⟨trivial, OpAt.lit [] 1 rfl rfl rfl rfl rfl (by decide) rfl rfl rfl (by simp) rfl (by decide) fun g => ?_⟩
  conv => whnf
  refine ⟨trivial, LoopAt.heap (α := Nat × Option Addr × Nat) [2, 3] (fun a => [(7, .v (.slice a.2.1 (vRows (gv W l) x0 nx y0 a.1).length a.2.2)), (8, .v (.int .i64 ((y0 + a.1 : Nat) : Int)))])
    (fun a => [rowH (.slice a.2.1 (vRows (gv W l) x0 nx y0 a.1).length a.2.2) (vRows (gv W l) x0 nx y0 a.1).length 2 1 (ints (vRows (gv W l) x0 nx y0 a.1))]) (fun a => a.1 ≤ ny) (fun a => ny - a.1) (0, some ⟨g, 0, none⟩, 0) (Nat.zero_le _)
    rfl ⟨⟨rfl, rfl⟩, ⟨rfl, rfl⟩, trivial⟩ ⟨⟨rfl, rfl⟩, ⟨rfl, rfl⟩, trivial⟩ ⟨⟨rfl, rfl, rfl, rfl⟩, ⟨rfl, rfl, rfl, rfl⟩, trivial⟩ (fun h s => sub_same s) ?_⟩
  rintro ⟨j, B, d⟩ hj
  simp only at hj
  conv => whnf
  refine ⟨fun h2 => ?_, fun h2 => ?_⟩
  · have g2 : j < ny := by simp at h2; omega
    conv => whnf
    refine ⟨trivial, LoopAt.heap (α := Nat × Option Addr × Nat) [2, 3, 8] (fun a => [(7, .v (.slice a.2.1 (vA (gv W l) x0 nx y0 j a.1).length a.2.2)), (9, .v (.int .i64 ((x0 + a.1 : Nat) : Int)))])
      (fun a => [rowH (.slice a.2.1 (vA (gv W l) x0 nx y0 j a.1).length a.2.2) (vA (gv W l) x0 nx y0 j a.1).length 2 1 (ints (vA (gv W l) x0 nx y0 j a.1))]) (fun a => a.1 ≤ nx) (fun a => nx - a.1) (0, B, d) (Nat.zero_le _)
      rfl ⟨⟨by simp [vA, vRow, getT], rfl⟩, ⟨rfl, rfl⟩, trivial⟩ ⟨⟨rfl, rfl⟩, ⟨rfl, rfl⟩, ⟨rfl, rfl⟩, trivial⟩ ⟨⟨rfl, rfl, rfl, rfl⟩, ⟨rfl, rfl, rfl, rfl⟩, trivial⟩ (fun h s => sub_same (by simpa [vA, vRow] using s)) ?_⟩
    rintro ⟨i, B, d⟩ hi
    simp only at hi
    conv => whnf
    refine ⟨fun h3 => ?_, fun h3 => ?_⟩
    · have g3 : i < nx := by simp at h3; omega
      have hx : x0 + i < W := by omega
      have hy : y0 + j < H := by omega
      have hidx := idx_lt hx hy
      rw [hn] at hidx
      have hmul : ((y0 + j : Nat) : Int) * (W : Int) = (((y0 + j) * W : Nat) : Int) := by simp
      have hadd : (((y0 + j : Nat) : Int) * (W : Int) + ((x0 + i : Nat) : Int)).toNat = (y0 + j) * W + (x0 + i) := by rw [hmul]; omega
      have hr1 : rng .i64 (((y0 + j : Nat) : Int) * (W : Int)) := by rw [hmul]; unfold rng; omega
      have hr2 : rng .i64 (((y0 + j : Nat) : Int) * (W : Int) + ((x0 + i : Nat) : Int)) := by rw [hmul]; unfold rng; omega
      have hlen := lenB j i (by omega) (by omega)
      conv => whnf
      refine ⟨⟨⟨⟨trivial, hr1⟩, hr2⟩, ?_⟩, LoadAt.cell (.int .i64 (gv W l (x0 + i) (y0 + j))) rfl rfl (fun w hw => ?_) ?_⟩
      · rw [hmul]; omega
      · rw [hadd, sa w (Sat.right hw) _ (by omega)]
        unfold gv
        rw [List.getD_eq_getElem?_getD, List.getElem?_eq_getElem (by omega)]
        rfl
      conv => whnf
      refine ⟨trivial, OpAt.lit [.int .i64 (gv W l (x0 + i) (y0 + j))] 1 rfl rfl rfl rfl rfl (by decide) rfl rfl rfl (by simp [Value.cells]) rfl (by decide) fun g2 => ?_⟩
      conv => whnf
      refine ⟨trivial, OpAt.append (.slice B (vA (gv W l) x0 nx y0 j i).length d) (vA (gv W l) x0 nx y0 j i).length 1 8 (ints (vA (gv W l) x0 nx y0 j i)) [.int .i64 (gv W l (x0 + i) (y0 + j))] (some ⟨g2, 0, none⟩) 1 1 _ rfl (fun h s => sepL_pull 1 s) rfl rfl rfl rfl rfl rfl rfl rfl rfl (by decide) (fun w hw => rowH_reads rfl (Sat.left hw)) (ints_one [_]) (by simp only [maxLen]; omega) (by omega) fun B' d' => ?_⟩
      conv => whnf
      refine ⟨⟨trivial, by unfold rng; omega⟩, Next.heap (i + 1, B', d') (by simp only; omega) (by simp only; omega) ⟨⟨?_, rfl⟩, ⟨rfl, rfl⟩, trivial⟩ ⟨⟨rfl, rfl⟩, ⟨rfl, rfl⟩, ⟨rfl, rfl⟩, trivial⟩ ⟨⟨rfl, rfl, rfl, rfl⟩, ⟨rfl, rfl, rfl, rfl⟩, trivial⟩ rfl rfl fun h s => ?_⟩
      · rw [vA_next]; simp [getT]
      · obtain ⟨h', e, s'⟩ := sub_tail (sepL_pull 1 s)
        refine ⟨h', e, ?_⟩
        rw [vA_next, ints_append]
        simpa [ints] using s'
    · have g3 : i = nx := by simp at h3; omega
      subst g3
      conv => whnf
      refine ⟨⟨trivial, by unfold rng; omega⟩, Next.heap (j + 1, B, d) (by simp only; omega) (by simp only; omega) ⟨⟨?_, rfl⟩, ⟨rfl, rfl⟩, trivial⟩ ⟨⟨rfl, rfl⟩, ⟨rfl, rfl⟩, trivial⟩ ⟨⟨rfl, rfl, rfl, rfl⟩, ⟨rfl, rfl, rfl, rfl⟩, trivial⟩ rfl rfl fun h s => ?_⟩
      · rw [vRows_succ]; rfl
      · rw [vRows_succ]; exact sub_same s
  · have g2 : j = ny := by simp at h2; omega
    subst g2
    conv => whnf
    exact ⟨trivial, .mk _ (fun w s => s) ⟨B, d, rfl, rfl⟩⟩
end Go.Proofs.Ytccpgalpahfpaaa
