/-
  paint: lay, Paste, From.
-/
import Derived.Test.YtccpgalpahfpaaaRVals
namespace Go.Proofs.Ytccpgalpahfpaaa
open Go.RowKit
open Sy
set_option linter.unusedVariables false
set_option linter.unusedSimpArgs false
set_option maxRecDepth 100000
set_option maxHeartbeats 4000000

theorem sPaste1 (v : Int) (R : HP) : PureR Try.prog R 60 [.int .i64 v] (.bool (!decide (MayV v))) := PureR.of_below fun w _ => (Paste1_any v w).mono fun e w' ⟨h1, h2⟩ => ⟨h1, by subst h2; exact Below.refl _ _⟩

theorem sIndexMay {R : HP} {A : Option Addr} {n c : Nat} {l : List Int} (ha : Vs R A n l) (hn : n ≤ 4611686018427387904) (hm : ∀ v ∈ l, MayV v) : PureR Try.prog R 90 [.slice A n c, .func (.func 60) #[] #[]] (.int .i64 (-1)) := by
  refine PureR.of_sat fun w hs => ?_
  obtain ⟨h1, sa⟩ := ha.spot hs
  refine fn_of_run0 false Try.func90 rfl hmix rfl fun w0 => ?_
  conv => whnf
  refine ⟨trivial, LoopAt.keep (α := Nat) [0, 1, 7] (fun k => [(8, .v (.int .i64 (k : Int)))]) (fun k => k ≤ n) (fun k => n - k) 0 (Nat.zero_le _) rfl ⟨⟨rfl, rfl⟩, trivial⟩ ⟨⟨rfl, rfl⟩, ⟨rfl, rfl⟩, ⟨rfl, rfl⟩, trivial⟩ trivial ?_⟩
  intro k hk
  conv => whnf
  refine ⟨fun h2 => ?_, fun h2 => ?_⟩
  · have g2 : k < n := by simpa using h2
    rcases sa with sa | ⟨b, off, rfl, sa⟩
    · omega
    conv => whnf
    refine ⟨⟨trivial, by omega⟩, LoadAt.cell (.int .i64 (l[k]'(by omega))) rfl rfl (fun w hw => sa w hw k (by omega)) ?_⟩
    conv => whnf
    refine ⟨trivial, CallAt.pure (fun R' _ => sPaste1 _ R') ?_⟩
    conv => whnf
    refine iff_f ?_ ?_
    · have := hm _ (List.getElem_mem (show k < l.length by omega))
      simp [this]
    conv => whnf
    exact ⟨⟨trivial, by unfold rng; omega⟩, Next.keep (k + 1) (by omega) (by omega) ⟨⟨rfl, rfl⟩, trivial⟩ ⟨⟨rfl, rfl⟩, ⟨rfl, rfl⟩, ⟨rfl, rfl⟩, trivial⟩ trivial rfl rfl rfl⟩
  · conv => whnf
    exact ⟨trivial, fin_pure rfl rfl⟩
theorem sContainsMay {R : HP} {A : Option Addr} {n c : Nat} {l : List Int} (ha : Vs R A n l) (hn : n ≤ 4611686018427387904) (hm : ∀ v ∈ l, MayV v) : PureR Try.prog R 59 [.slice A n c, .func (.func 60) #[] #[]] (.bool false) := by
  refine fn_of_run0 false Try.func59 rfl hmix rfl fun w0 => ?_
  conv => whnf
  refine ⟨trivial, CallAt.pure (fun R' hR' => sIndexMay (ha.mono hR') hn hm) ?_⟩
  conv => whnf
  exact ⟨trivial, fin_pure rfl rfl⟩

def pasteK (x0 y0 nx k : Nat) (l : List Int) (f : Nat → Nat → Int) (x y : Nat) : Int := if x0 ≤ x ∧ x < x0 + nx ∧ y0 ≤ y ∧ (y - y0) * nx + (x - x0) < k then l.getD ((y - y0) * nx + (x - x0)) 0 else f x y
theorem pasteK_zero (x0 y0 nx : Nat) (l : List Int) (f : Nat → Nat → Int) : pasteK x0 y0 nx 0 l f = f := by funext x y; simp [pasteK]
theorem pasteK_fill {x0 y0 nx i m : Nat} {l : List Int} {f : Nat → Nat → Int} {v : Int} (hnx : 0 < nx) (hm : 1 ≤ m) (hrow : i % nx + m ≤ nx) (hv : ∀ t, t < m → l.getD (i + t) 0 = v) (x y : Nat) :
    fillG ⟨((x0 + i % nx : Nat) : Int), ((y0 + i / nx : Nat) : Int), ((x0 + i % nx : Nat) : Int) + (m : Int) - 1, ((y0 + i / nx : Nat) : Int)⟩ v (pasteK x0 y0 nx i l f) x y = pasteK x0 y0 nx (i + m) l f x y := by
  have hdm := Nat.div_add_mod i nx
  rw [Nat.mul_comm] at hdm
  generalize i / nx = a at *
  generalize i % nx = b at *
  unfold fillG
  by_cases c : x0 + b ≤ x ∧ x < x0 + b + m ∧ y = y0 + a
  · obtain ⟨c1, c2, c3⟩ := c
    rw [if_pos ((inR_iff _ _ _).2 ⟨by simp only; omega, by simp only; omega, by simp only; omega, by simp only; omega⟩)]
    subst c3
    have e : (y0 + a - y0) * nx + (x - x0) = i + (x - x0 - b) := by
      rw [Nat.add_sub_cancel_left]; omega
    unfold pasteK
    rw [e, if_pos ⟨by omega, by omega, by omega, by omega⟩]
    exact (hv _ (by omega)).symm
  · rw [if_neg]
    · unfold pasteK
      by_cases c2 : x0 ≤ x ∧ x < x0 + nx ∧ y0 ≤ y ∧ (y - y0) * nx + (x - x0) < i
      · rw [if_pos c2, if_pos ⟨c2.1, c2.2.1, c2.2.2.1, by omega⟩]
      · rw [if_neg c2, if_neg]
        rintro ⟨d1, d2, d3, d4⟩
        have d5 : i ≤ (y - y0) * nx + (x - x0) := Nat.le_of_not_lt fun h => c2 ⟨d1, d2, d3, h⟩
        have hy : y - y0 = a := by
          rcases Nat.lt_trichotomy (y - y0) a with h | h | h
          · have := Nat.mul_le_mul_right nx (show y - y0 + 1 ≤ a by omega)
            rw [Nat.add_mul] at this
            omega
          · exact h
          · have := Nat.mul_le_mul_right nx (show a + 1 ≤ y - y0 by omega)
            rw [Nat.add_mul] at this
            omega
        rw [hy] at d4 d5
        exact c ⟨by omega, by omega, by omega⟩
    · intro h
      have := (inR_iff _ _ _).1 h
      simp only at this
      exact c ⟨by omega, by omega, by omega⟩

theorem sNth (x0 y0 x1 y1 i : Nat) (r2 : x0 ≤ x1) (r3 : x1 < 1024) (r5 : y0 ≤ y1) (r6 : y1 < 1024) (hi : i < (x1 - x0 + 1) * (y1 - y0 + 1)) (R : HP) : PureR Try.prog R 50 [rectV x0 y0 x1 y1, .int .i64 i] (.tuple #[cellV ((x0 + i % (x1 - x0 + 1) : Nat) : Int) ((y0 + i / (x1 - x0 + 1) : Nat) : Int), .bool true]) := by
  have e1 : (x1 : Int) - x0 + 1 = ((x1 - x0 + 1 : Nat) : Int) := by omega
  have e2 : (y1 : Int) - y0 + 1 = ((y1 - y0 + 1 : Nat) : Int) := by omega
  refine PureR.of_below fun w _ => (Nth_ok x0 y0 x1 y1 i w ((right_iff _ _ _ _).2 ⟨by omega, by omega, by omega, by omega, by omega, by omega⟩) (by omega) (by rw [e1, e2, ← Int.natCast_mul]; omega)).mono ?_
  rintro e w' ⟨rfl, hb⟩
  refine ⟨?_, hb⟩
  rw [e1]
  simp
end Go.Proofs.Ytccpgalpahfpaaa
