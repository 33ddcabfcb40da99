/-
  The document's answers: Range, Values of a model.
-/
import Derived.Test.YtccpgalpahfpaaaRefs
namespace Go.Proofs.Ytccpgalpahfpaaa
open Go.RowKit
open Sy
set_option linter.unusedVariables false
set_option linter.unusedSimpArgs false
set_option maxRecDepth 100000
set_option maxHeartbeats 2000000

/-- the least, the greatest -/
def mnL : List Int → Int
  | [] => 0
  | a :: l => l.foldl min a
def mxL : List Int → Int
  | [] => 0
  | a :: l => l.foldl max a
theorem mnL_snoc {l : List Int} (h : l ≠ []) (x : Int) : mnL (l ++ [x]) = min (mnL l) x := by
  cases l with
  | nil => exact absurd rfl h
  | cons a l => simp [mnL]
theorem mxL_snoc {l : List Int} (h : l ≠ []) (x : Int) : mxL (l ++ [x]) = max (mxL l) x := by
  cases l with
  | nil => exact absurd rfl h
  | cons a l => simp [mxL]
abbrev rngV (a b : Int) : Value := .agg #[.int .i64 a, .int .i64 b]

theorem sRange {R : HP} {A : Option Addr} {n c : Nat} {l : List Int} (ha : Vs R A n l) (hn : n ≤ 4611686018427387904) : PureR Try.prog R 44 [.slice A n c] (rngV (mnL l) (mxL l)) := by
  refine PureR.of_sat fun w hs => ?_
  obtain ⟨h1, sa⟩ := ha.spot hs
  refine fn_of_run0 false Try.func44 rfl hmix rfl fun w0 => ?_
  conv => whnf
  refine ⟨fun h2 => ?_, fun h2 => ?_⟩
  · have : n = 0 := by simp at h2; omega
    have hl : l = [] := List.eq_nil_of_length_eq_zero (by omega)
    subst hl
    conv => whnf
    exact ⟨trivial, fin_pure rfl rfl⟩
  have g2 : n ≠ 0 := by simp at h2; omega
  rcases sa with sa | ⟨b, off, rfl, sa⟩
  · exact absurd sa g2
  have h0 : 0 < l.length := by omega
  have e0 : l.take 1 = [l[0]] := by rw [List.take_succ_eq_append_getElem h0]; simp
  conv => whnf
  refine ⟨trivial, RegAt.box 7 3 39 (.tmp 15) hmix (by kernel_rfl) rfl rfl rfl rfl rfl rfl rfl rfl rfl rfl rfl (fun s h => by injection h with h; subst h; rfl) ?_⟩
  conv => whnf
  refine ⟨⟨trivial, by omega⟩, LoadAt.cell (.int .i64 l[0]) rfl rfl (fun w hw => sa w hw 0 h0) ?_⟩
  conv => whnf
  refine ⟨⟨trivial, by omega⟩, LoadAt.cell (.int .i64 l[0]) rfl rfl (fun w hw => sa w hw 0 h0) ?_⟩
  conv => whnf
  refine ⟨trivial, ?_⟩
  conv => whnf
  refine ⟨trivial, LoopAt.of (α := Nat) [0, 2, 3] (fun k => [(4, .v (.int .i64 (k : Int)))]) (fun k => [(1, 39, [.v (.int .i64 (mnL (l.take k))), .v (.int .i64 (mxL (l.take k)))]), (0, 39, [.v (.int .i64 0), .v (.int .i64 0)])]) (fun _ => []) (fun k => 1 ≤ k ∧ k ≤ n) (fun k => n - k) 1 ⟨by omega, by omega⟩ ?_ ?_⟩
  · rw [e0]
    exact Le.of (Nat.le_refl _) (Nat.zero_le _) ⟨⟨rfl, rfl⟩, ⟨rfl, rfl⟩, ⟨rfl, rfl⟩, ⟨rfl, rfl⟩, trivial⟩ ⟨⟨rfl, rfl, rfl, rfl⟩, ⟨rfl, rfl, rfl, rfl⟩, trivial⟩ fun h s => ⟨h, fun _ _ e => e, s⟩
  · rintro k ⟨k1, k2⟩
    conv => whnf
    refine ⟨fun h3 => ?_, fun h3 => ?_⟩
    · have g3 : k < n := by simpa using h3
      have hkl : k < l.length := by omega
      have ne : l.take k ≠ [] := by
        intro e
        rcases List.take_eq_nil_iff.1 e with e | e
        · omega
        · rw [e] at hkl; simp at hkl
      have es : l.take (k + 1) = l.take k ++ [l[k]] := List.take_succ_eq_append_getElem hkl
      have emn := mnL_snoc ne l[k]
      have emx := mxL_snoc ne l[k]
      rw [← es] at emn emx
      conv => whnf
      refine ⟨trivial, RegAt.quiet hmix (by kernel_rfl) ?_⟩
      conv => whnf
      refine ⟨⟨trivial, by omega⟩, LoadAt.cell (.int .i64 l[k]) rfl rfl (fun w hw => sa w hw k hkl) ?_⟩
      conv => whnf
      refine ⟨trivial, ?_⟩
      conv => whnf
      refine ⟨fun h4 => ?_, fun h4 => ?_⟩
      · have g4 : l[k] < mnL (l.take k) := by simpa using h4
        conv => whnf
        refine ⟨⟨trivial, by omega⟩, LoadAt.cell (.int .i64 l[k]) rfl rfl (fun w hw => sa w hw k hkl) ?_⟩
        conv => whnf
        refine ⟨trivial, RegAt.quiet hmix (by kernel_rfl) ?_⟩
        conv => whnf
        refine ⟨⟨trivial, by omega⟩, LoadAt.cell (.int .i64 l[k]) rfl rfl (fun w hw => sa w hw k hkl) ?_⟩
        conv => whnf
        refine ⟨trivial, ?_⟩
        conv => whnf
        refine ⟨fun h5 => ?_, fun h5 => ?_⟩
        · have g5 : mxL (l.take k) < l[k] := by simpa using h5
          conv => whnf
          refine ⟨⟨trivial, by omega⟩, LoadAt.cell (.int .i64 l[k]) rfl rfl (fun w hw => sa w hw k hkl) ?_⟩
          conv => whnf
          refine ⟨⟨trivial, by unfold rng; omega⟩, .mk (k + 1) ⟨by omega, by omega⟩ (by omega) ?_⟩
          rw [emn, emx, show min (mnL (l.take k)) l[k] = l[k] from by omega, show max (mxL (l.take k)) l[k] = l[k] from by omega]
          exact Le.of (Nat.le_refl _) (Nat.zero_le _) ⟨⟨rfl, rfl⟩, ⟨rfl, rfl⟩, ⟨rfl, rfl⟩, ⟨rfl, rfl⟩, trivial⟩ ⟨⟨rfl, rfl, rfl, rfl⟩, ⟨rfl, rfl, rfl, rfl⟩, trivial⟩ fun h s => ⟨h, fun _ _ e => e, s⟩
        · have g5 : l[k] ≤ mxL (l.take k) := by simpa using h5
          conv => whnf
          refine ⟨⟨trivial, by unfold rng; omega⟩, .mk (k + 1) ⟨by omega, by omega⟩ (by omega) ?_⟩
          rw [emn, emx, show min (mnL (l.take k)) l[k] = l[k] from by omega, show max (mxL (l.take k)) l[k] = mxL (l.take k) from by omega]
          exact Le.of (Nat.le_refl _) (Nat.zero_le _) ⟨⟨rfl, rfl⟩, ⟨rfl, rfl⟩, ⟨rfl, rfl⟩, ⟨rfl, rfl⟩, trivial⟩ ⟨⟨rfl, rfl, rfl, rfl⟩, ⟨rfl, rfl, rfl, rfl⟩, trivial⟩ fun h s => ⟨h, fun _ _ e => e, s⟩
      · have g4 : mnL (l.take k) ≤ l[k] := by simpa using h4
        conv => whnf
        refine ⟨trivial, RegAt.quiet hmix (by kernel_rfl) ?_⟩
        conv => whnf
        refine ⟨⟨trivial, by omega⟩, LoadAt.cell (.int .i64 l[k]) rfl rfl (fun w hw => sa w hw k hkl) ?_⟩
        conv => whnf
        refine ⟨trivial, ?_⟩
        conv => whnf
        refine ⟨fun h5 => ?_, fun h5 => ?_⟩
        · have g5 : mxL (l.take k) < l[k] := by simpa using h5
          conv => whnf
          refine ⟨⟨trivial, by omega⟩, LoadAt.cell (.int .i64 l[k]) rfl rfl (fun w hw => sa w hw k hkl) ?_⟩
          conv => whnf
          refine ⟨⟨trivial, by unfold rng; omega⟩, .mk (k + 1) ⟨by omega, by omega⟩ (by omega) ?_⟩
          rw [emn, emx, show min (mnL (l.take k)) l[k] = mnL (l.take k) from by omega, show max (mxL (l.take k)) l[k] = l[k] from by omega]
          exact Le.of (Nat.le_refl _) (Nat.zero_le _) ⟨⟨rfl, rfl⟩, ⟨rfl, rfl⟩, ⟨rfl, rfl⟩, ⟨rfl, rfl⟩, trivial⟩ ⟨⟨rfl, rfl, rfl, rfl⟩, ⟨rfl, rfl, rfl, rfl⟩, trivial⟩ fun h s => ⟨h, fun _ _ e => e, s⟩
        · have g5 : l[k] ≤ mxL (l.take k) := by simpa using h5
          conv => whnf
          refine ⟨⟨trivial, by unfold rng; omega⟩, .mk (k + 1) ⟨by omega, by omega⟩ (by omega) ?_⟩
          rw [emn, emx, show min (mnL (l.take k)) l[k] = mnL (l.take k) from by omega, show max (mxL (l.take k)) l[k] = mxL (l.take k) from by omega]
          exact Le.of (Nat.le_refl _) (Nat.zero_le _) ⟨⟨rfl, rfl⟩, ⟨rfl, rfl⟩, ⟨rfl, rfl⟩, ⟨rfl, rfl⟩, trivial⟩ ⟨⟨rfl, rfl, rfl, rfl⟩, ⟨rfl, rfl, rfl, rfl⟩, trivial⟩ fun h s => ⟨h, fun _ _ e => e, s⟩
    · have g3 : k = n := by simp at h3; omega
      subst g3
      conv => whnf
      refine ⟨trivial, fin_pure rfl ?_⟩
      rw [List.take_of_length_le (by omega)]
      rfl
end Go.Proofs.Ytccpgalpahfpaaa
