/-
  down: way, the least, the greatest, the mean.
-/
import Derived.Test.YtccpgalpahfpaaaTierN
namespace Go.Proofs.Ytccpgalpahfpaaa
open Go.RowKit
open Sy
set_option linter.unusedVariables false
set_option linter.unusedSimpArgs false
set_option maxRecDepth 100000
set_option maxHeartbeats 4000000

theorem take_ne {l : List Int} {k : Nat} (h1 : 1 ≤ k) (h2 : 0 < l.length) : l.take k ≠ [] := by
  intro e
  rcases List.take_eq_nil_iff.1 e with e | e
  · omega
  · rw [e] at h2; simp at h2
theorem sMin {R : HP} {A : Option Addr} {n c : Nat} {l : List Int} (ha : Vs R A n l) (hn : n ≤ 4611686018427387904) (h0 : 0 < n) : PureR Try.prog R 86 [.slice A n c] (.int .i64 (mnL l)) := by
  refine PureR.of_sat fun w hs => ?_
  obtain ⟨h1, sa⟩ := ha.spot hs
  rcases sa with sa | ⟨b, off, rfl, sa⟩
  · omega
  have hl : 0 < l.length := by omega
  have e0 : mnL (l.take 1) = l[0] := by rw [List.take_succ_eq_append_getElem hl]; simp [mnL]
  refine fn_of_run0 false Try.func86 rfl hmix rfl fun w0 => ?_
  conv => whnf
  refine iff_f (by simp; omega) ?_
  conv => whnf
  refine ⟨⟨trivial, by omega⟩, LoadAt.cell (.int .i64 l[0]) rfl rfl (fun w hw => sa w hw 0 hl) ?_⟩
  conv => whnf
  refine ⟨trivial, LoopAt.keep (α := Nat) [0] (fun k => [(3, .v (.int .i64 (mnL (l.take k)))), (4, .v (.int .i64 (k : Int)))]) (fun k => 1 ≤ k ∧ k ≤ n) (fun k => n - k) 1 ⟨by omega, by omega⟩ rfl ⟨⟨by rw [e0]; rfl, rfl⟩, ⟨rfl, rfl⟩, trivial⟩ ⟨⟨rfl, rfl⟩, trivial⟩ trivial ?_⟩
  rintro k ⟨k1, k2⟩
  conv => whnf
  refine ⟨fun h2 => ?_, fun h2 => ?_⟩
  · have g2 : k < n := by simpa using h2
    conv => whnf
    refine ⟨⟨trivial, by omega⟩, LoadAt.cell (.int .i64 (l[k]'(by omega))) rfl rfl (fun w hw => sa w hw k (by omega)) ?_⟩
    conv => whnf
    refine ⟨⟨trivial, by unfold rng; omega⟩, Next.keep (k + 1) ⟨by omega, by omega⟩ (by omega) ⟨⟨?_, rfl⟩, ⟨rfl, rfl⟩, trivial⟩ ⟨⟨rfl, rfl⟩, trivial⟩ trivial rfl rfl rfl⟩
    rw [List.take_succ_eq_append_getElem (by omega), mnL_snoc (take_ne k1 hl)]
    rfl
  · have g2 : k = n := by simp at h2; omega
    subst g2
    conv => whnf
    exact ⟨trivial, fin_pure rfl (by rw [List.take_of_length_le (by omega)]; rfl)⟩
theorem sMax {R : HP} {A : Option Addr} {n c : Nat} {l : List Int} (ha : Vs R A n l) (hn : n ≤ 4611686018427387904) (h0 : 0 < n) : PureR Try.prog R 87 [.slice A n c] (.int .i64 (mxL l)) := by
  refine PureR.of_sat fun w hs => ?_
  obtain ⟨h1, sa⟩ := ha.spot hs
  rcases sa with sa | ⟨b, off, rfl, sa⟩
  · omega
  have hl : 0 < l.length := by omega
  have e0 : mxL (l.take 1) = l[0] := by rw [List.take_succ_eq_append_getElem hl]; simp [mxL]
  refine fn_of_run0 false Try.func87 rfl hmix rfl fun w0 => ?_
  conv => whnf
  refine iff_f (by simp; omega) ?_
  conv => whnf
  refine ⟨⟨trivial, by omega⟩, LoadAt.cell (.int .i64 l[0]) rfl rfl (fun w hw => sa w hw 0 hl) ?_⟩
  conv => whnf
  refine ⟨trivial, LoopAt.keep (α := Nat) [0] (fun k => [(3, .v (.int .i64 (mxL (l.take k)))), (4, .v (.int .i64 (k : Int)))]) (fun k => 1 ≤ k ∧ k ≤ n) (fun k => n - k) 1 ⟨by omega, by omega⟩ rfl ⟨⟨by rw [e0]; rfl, rfl⟩, ⟨rfl, rfl⟩, trivial⟩ ⟨⟨rfl, rfl⟩, trivial⟩ trivial ?_⟩
  rintro k ⟨k1, k2⟩
  conv => whnf
  refine ⟨fun h2 => ?_, fun h2 => ?_⟩
  · have g2 : k < n := by simpa using h2
    conv => whnf
    refine ⟨⟨trivial, by omega⟩, LoadAt.cell (.int .i64 (l[k]'(by omega))) rfl rfl (fun w hw => sa w hw k (by omega)) ?_⟩
    conv => whnf
    refine ⟨⟨trivial, by unfold rng; omega⟩, Next.keep (k + 1) ⟨by omega, by omega⟩ (by omega) ⟨⟨?_, rfl⟩, ⟨rfl, rfl⟩, trivial⟩ ⟨⟨rfl, rfl⟩, trivial⟩ trivial rfl rfl rfl⟩
    rw [List.take_succ_eq_append_getElem (by omega), mxL_snoc (take_ne k1 hl)]
    rfl
  · have g2 : k = n := by simp at h2; omega
    subst g2
    conv => whnf
    exact ⟨trivial, fin_pure rfl (by rw [List.take_of_length_le (by omega)]; rfl)⟩

def sumL : List Int → Int := fun l => l.foldl (· + ·) 0
theorem sumL_snoc (l : List Int) (x : Int) : sumL (l ++ [x]) = sumL l + x := by simp [sumL]
theorem sumL_bd {l : List Int} (h : ∀ v ∈ l, MayV v) : ∀ k, k ≤ l.length → -2147483648 * (k : Int) ≤ sumL (l.take k) ∧ sumL (l.take k) ≤ 2147483647 * (k : Int) := by
  intro k
  induction k with
  | zero => intro _; simp [sumL]
  | succ k ih =>
    intro hk
    have := ih (by omega)
    have hv := h _ (List.getElem_mem (show k < l.length by omega))
    unfold MayV at hv
    rw [List.take_succ_eq_append_getElem (by omega), sumL_snoc]
    omega
def meanL (l : List Int) : Int := sumL l / (l.length : Int)
theorem mean_fin (s n : Int) (hn : 0 < n) : (s.tmod n < 0 → s.tdiv n - 1 = s / n) ∧ (¬ s.tmod n < 0 → s.tdiv n = s / n) := by
  have h1 := Int.mul_tdiv_add_tmod s n
  have h2 : -n < s.tmod n ∧ s.tmod n < n := ⟨Int.lt_tmod_of_pos s hn, Int.tmod_lt_of_pos s hn⟩
  constructor
  · intro h
    refine ((Int.ediv_emod_unique (r := s.tmod n + n) hn).2 ⟨?_, by omega, by omega⟩).1.symm
    rw [Int.mul_sub]
    omega
  · intro h
    exact ((Int.ediv_emod_unique (r := s.tmod n) hn).2 ⟨by omega, by omega, by omega⟩).1.symm
theorem sMean {R : HP} {A : Option Addr} {n c : Nat} {l : List Int} (ha : Vs R A n l) (hn : n ≤ 1048576) (h0 : 0 < n) (hm : ∀ v ∈ l, MayV v) : PureR Try.prog R 88 [.slice A n c] (.int .i64 (meanL l)) := by
  refine PureR.of_sat fun w hs => ?_
  obtain ⟨h1, sa⟩ := ha.spot hs
  rcases sa with sa | ⟨b, off, rfl, sa⟩
  · omega
  refine fn_of_run0 true Try.func88 rfl hmix rfl fun w0 => ?_
  conv => whnf
  refine ⟨trivial, LoopAt.keep (α := Nat) [4, 10, 11] (fun k => [(3, .v (.int .i64 (sumL (l.take k)))), (12, .v (.int .i64 (k : Int)))]) (fun k => k ≤ n) (fun k => n - k) 0 (Nat.zero_le _) rfl ⟨⟨rfl, rfl⟩, ⟨rfl, rfl⟩, trivial⟩ ⟨⟨rfl, rfl⟩, ⟨rfl, rfl⟩, ⟨rfl, rfl⟩, trivial⟩ trivial ?_⟩
  intro k hk
  have hb := sumL_bd hm k (by omega)
  conv => whnf
  refine ⟨fun h2 => ?_, fun h2 => ?_⟩
  · have g2 : k < n := by simpa using h2
    have hb2 := sumL_bd hm (k + 1) (by omega)
    rw [List.take_succ_eq_append_getElem (by omega), sumL_snoc] at hb2
    conv => whnf
    refine ⟨⟨trivial, by omega⟩, LoadAt.cell (.int .i64 (l[k]'(by omega))) rfl rfl (fun w hw => sa w hw k (by omega)) ?_⟩
    conv => whnf
    refine ⟨⟨⟨trivial, by unfold rng; omega⟩, by unfold rng; omega⟩, Next.keep (k + 1) (by omega) (by omega) ⟨⟨?_, rfl⟩, ⟨rfl, rfl⟩, trivial⟩ ⟨⟨rfl, rfl⟩, ⟨rfl, rfl⟩, ⟨rfl, rfl⟩, trivial⟩ trivial rfl rfl rfl⟩
    rw [List.take_succ_eq_append_getElem (by omega), sumL_snoc]
    rfl
  · have g2 : k = n := by simp at h2; omega
    subst g2
    have hall : l.take k = l := List.take_of_length_le (by omega)
    rw [hall] at hb ⊢
    have hq := IntWalk.i64_quo' (sumL l) k (by omega)
    have hlen : meanL l = sumL l / (k : Int) := by unfold meanL; rw [h1]
    obtain ⟨f1, f2⟩ := mean_fin (sumL l) k (by omega)
    conv => whnf
    refine ⟨fun h3 => ?_, fun h3 => ?_⟩
    · have g3 : (sumL l).tmod k < 0 := by simpa using h3
      have e := f1 g3
      have hlo : -2147483648 ≤ sumL l / (k : Int) := Int.le_ediv_of_mul_le (by omega) (by omega)
      have hhi : sumL l / (k : Int) ≤ 2147483647 := Int.le_of_lt_add_one (Int.ediv_lt_of_lt_mul (by omega) (by omega))
      conv => whnf
      refine ⟨⟨⟨⟨trivial, by omega, hq⟩, by omega⟩, by rw [e]; unfold rng; omega⟩, fin_pure rfl ?_⟩
      rw [hlen, ← e]
      rfl
    · have g3 : ¬ (sumL l).tmod k < 0 := by simpa using h3
      conv => whnf
      refine ⟨⟨⟨trivial, by omega, hq⟩, by omega⟩, fin_pure rfl ?_⟩
      rw [hlen, ← f2 g3]
      rfl
theorem sWay0 (R : HP) : PureR Try.prog R 54 [.int .i64 0] (.func (.func 86) #[] #[]) := by
  refine fn_of_run0 false Try.func54 rfl hmix rfl fun w0 => ?_
  conv => whnf
  refine iff_t (by decide) ?_
  conv => whnf
  exact ⟨trivial, fin_pure rfl rfl⟩
theorem sWay1 (R : HP) : PureR Try.prog R 54 [.int .i64 1] (.func (.func 87) #[] #[]) := by
  refine fn_of_run0 false Try.func54 rfl hmix rfl fun w0 => ?_
  conv => whnf
  refine iff_f (by decide) ?_
  conv => whnf
  refine iff_t (by decide) ?_
  conv => whnf
  exact ⟨trivial, fin_pure rfl rfl⟩
theorem sWay2 (R : HP) : PureR Try.prog R 54 [.int .i64 2] (.func (.func 88) #[] #[]) := by
  refine fn_of_run0 false Try.func54 rfl hmix rfl fun w0 => ?_
  conv => whnf
  refine iff_f (by decide) ?_
  conv => whnf
  refine iff_f (by decide) ?_
  conv => whnf
  refine iff_t (by decide) ?_
  conv => whnf
  exact ⟨trivial, fin_pure rfl rfl⟩
theorem sWayNo (h : Int) (hh : h < 0 ∨ 2 < h) (R : HP) : PureR Try.prog R 54 [.int .i64 h] .nilFunc := by
  refine fn_of_run0 false Try.func54 rfl hmix rfl fun w0 => ?_
  conv => whnf
  refine iff_f (by simp; omega) ?_
  conv => whnf
  refine iff_f (by simp; omega) ?_
  conv => whnf
  refine iff_f (by simp; omega) ?_
  conv => whnf
  exact ⟨trivial, fin_pure rfl rfl⟩
end Go.Proofs.Ytccpgalpahfpaaa
