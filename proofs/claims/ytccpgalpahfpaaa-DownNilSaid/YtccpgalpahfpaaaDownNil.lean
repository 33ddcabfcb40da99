/-
  No grid has levels.
-/
import Derived.Test.YtccpgalpahfpaaaGridAt
namespace Go.Proofs.Ytccpgalpahfpaaa
open Go.RowKit
open Sy
set_option linter.unusedVariables false
set_option linter.unusedSimpArgs false
set_option maxRecDepth 100000
set_option maxHeartbeats 4000000

theorem sLevelNil (k how : Int) (R : HP) : PureR Try.prog R 24 [.pointer none, .int .i64 k, .int .i64 how] (.tuple #[.pointer none, .int .i64 1]) := by
  refine fn_of_run0 false Try.func24 rfl hmix rfl fun w0 => ?_
  conv => whnf
  exact ⟨trivial, fin_pure rfl rfl⟩
theorem sSizeNil (R : HP) : PureR Try.prog R 39 [.pointer none] (.tuple #[.int .i64 0, .int .i64 0]) := by
  refine fn_of_run0 false Try.func39 rfl hmix rfl fun w0 => ?_
  conv => whnf
  exact ⟨trivial, fin_pure rfl rfl⟩
theorem sRowNil (how : Int) (R : HP) : PureR Try.prog R 27 [.pointer none, .int .i64 how] (.tuple #[.slice none 0 0, .int .i64 1]) := by
  refine fn_of_run0 false Try.func27 rfl hmix rfl fun w0 => ?_
  conv => whnf
  refine ⟨trivial, CallAt.pure (fun R' _ => sSizeNil R') ?_⟩
  conv => whnf
  refine ⟨trivial, CallAt.pure (fun R' _ => PureR.of_below fun w _ => Levels_bad 0 0 w (by decide) (by decide) (by decide) (by decide) (by unfold SizeOk; omega)) ?_⟩
  conv => whnf
  refine ⟨trivial, LoopAt.keep (α := Unit) [0, 1, 4, 5, 8, 21] (fun a => [(22, .v (.int .i64 0))]) (fun a => True) (fun a => 0) () trivial
    rfl ⟨⟨rfl, rfl⟩, trivial⟩ ⟨⟨rfl, rfl⟩, ⟨rfl, rfl⟩, ⟨rfl, rfl⟩, ⟨rfl, rfl⟩, ⟨rfl, rfl⟩, ⟨rfl, rfl⟩, trivial⟩ trivial ?_⟩
  rintro ⟨⟩ _
  conv => whnf
  refine iff_t (by decide) ?_
  conv => whnf
  refine ⟨trivial, CallAt.pure (fun R' _ => sLevelNil 0 how R') ?_⟩
  conv => whnf
  refine iff_t (by decide) ?_
  conv => whnf
  exact ⟨trivial, fin_pure rfl rfl⟩
theorem mean_may {l : List Int} (h0 : l ≠ []) (h : ∀ v ∈ l, MayV v) : MayV (meanL l) := by
  have hs := sumL_bd h l.length (Nat.le_refl _)
  rw [List.take_length] at hs
  have hl : (0 : Int) < l.length := by have := List.length_pos_iff.2 h0; omega
  unfold meanL
  exact ⟨(Int.le_ediv_iff_mul_le hl).2 hs.1, Int.le_of_lt_add_one ((Int.ediv_lt_iff_lt_mul hl).2 (by rw [Int.add_mul]; omega))⟩
theorem sAwake18 (R : HP) : PureR Try.prog R 23 [] (.bool true) := by
  refine fn_of_run0 false Try.func23 rfl hmix rfl fun w0 => ?_
  conv => whnf
  refine ⟨trivial, OpAt.lit [.int .i64 3, .int .i64 4] 1 rfl rfl rfl rfl rfl (by decide) rfl rfl rfl (by simp [Value.cells]) rfl (by decide) fun g => ?_⟩
  conv => whnf
  refine ⟨trivial, CallAt.fn (pre := []) _ (fun h s => s) (fun R' hR' => sFrom (W := 2) (H := 1) (l := [3, 4]) (Vs.row fun w s => (hR' w s).in_ 0 rfl) (by simp [MayV]) (by decide) (by decide) (by decide) (by decide) rfl) ?_⟩
  rintro r hs ⟨gb, rfl, rfl⟩
  conv => whnf
  refine ⟨trivial, CallAt.fn (pre := []) _ (fun h s => s) (fun R' hR' => sLevel (W := 2) (H := 1) (k := 1) (ag := meanL) (gridAt_rest 0 rfl hR') (by decide) (.inr (.inr rfl)) (fun R' => sWay2 R') (fun R' A n c l h1 h2 h3 h4 => sMean h1 h2 h3 h4) (fun l h1 h2 => mean_may h1 h2)) ?_⟩
  rintro r hs ⟨g2, rfl, rfl⟩
  conv => whnf
  refine ⟨trivial, CallAt.pure (fun R' hR' => gAt_p (x := 0) (y := 0) (gridAt_rest 0 rfl hR') (by decide) (by decide)) ?_⟩
  conv => whnf
  iterate 3
    refine ⟨fun _ => ?_, fun h => absurd h (by decide)⟩
    conv => whnf
  refine ⟨trivial, .mk [] (fun w ⟨h, hs, s⟩ => ?_) ⟨?_, rfl⟩⟩
  · obtain ⟨h1, e1, s1⟩ := sub_tail s
    obtain ⟨h2, e2, s2⟩ := sub_tail s1
    obtain ⟨h3, e3, s3⟩ := sub_tail s2
    exact ⟨h3, hs.mono fun i o e => e1 i o (e2 i o (e3 i o e)), s3⟩
  · rfl
theorem DownNil_walk (k how : Int) (w : World) (a1 : -9223372036854775808 ≤ k) (a2 : k ≤ 9223372036854775807) (b1 : -9223372036854775808 ≤ how) (b2 : how ≤ 9223372036854775807) :
    Calls Try.prog 6 #[.int .i64 k, .int .i64 how] w fun e w' => e = .returned (.bool true) ∧ Below w.heap.size w w' := by
  refine PureR.below (args := [.int .i64 k, .int .i64 how]) ?_
  refine fn_of_run0 false Try.func6 rfl hmix rfl fun w0 => ?_
  conv => whnf
  refine ⟨trivial, CallAt.pure (fun R' _ => sAwake18 R') ?_⟩
  conv => whnf
  refine iff_f (by decide) ?_
  conv => whnf
  refine ⟨trivial, CallAt.pure (fun R' _ => sLevelNil k how R') ?_⟩
  conv => whnf
  refine ⟨trivial, CallAt.pure (fun R' _ => sRowNil how R') ?_⟩
  conv => whnf
  iterate 2
    refine ⟨fun _ => ?_, fun h => absurd h (by decide)⟩
    conv => whnf
  exact ⟨trivial, fin_pure rfl rfl⟩
end Go.Proofs.Ytccpgalpahfpaaa
