/-
  tier.Above where there is no such level or cell.
-/
import Derived.Test.YtgelgkgmgjhmnaaAbove
namespace Go.Proofs.Ytgelgkgmgjhmnaa
open Go.RowKit
set_option linter.unusedVariables false
set_option linter.unusedSimpArgs false

/-- the code of the cell above one of the level 0 -/
def undZ (a b k x y : Int) : Int := if ¬ SizeOk a b then 3 else if k < 0 ∨ (levN a b : Int) ≤ k then 11 else checkZ a b 0 x y

set_option maxHeartbeats 1000000 in
theorem Above_bad (a b k x y : Int) (w : World) (ha : -9223372036854775808 ≤ a) (ha' : a ≤ 9223372036854775807) (hb : -9223372036854775808 ≤ b) (hb' : b ≤ 9223372036854775807) (h : ¬ undZ a b k x y = 0) :
    Calls Try.prog 28 #[.int .i64 a, .int .i64 b, .int .i64 k, .agg #[.int .i64 x, .int .i64 y]] w fun e w' => e = .returned (.tuple #[.agg #[.int .i64 0, .int .i64 0], .int .i64 (undZ a b k x y)]) ∧ Below w.heap.size w w' := by
  by_cases hs : SizeOk a b
  · by_cases hk : k < 0 ∨ (levN a b : Int) ≤ k
    · have e : undZ a b k x y = 11 := by unfold undZ; rw [if_neg (fun f => f hs), if_pos hk]
      rw [e]
      clear e h
      go_enter Try.func28, Try.ntmps28
      go_wp2_with fail
      refine (Size_arg a b k _ hs hk).mono ?_
      rintro e w1 ⟨rfl, hb1⟩
      obtain ⟨hc, hf⟩ := bcell hb1
      go_wp2_with fail
      refine bodyPost_ret (v := .tuple #[.agg #[.int .i64 0, .int .i64 0], .int .i64 11]) (by simp [results, Try.results28, go_sem, hc, hf]) rfl ⟨rfl, ?_⟩
      have HB : Below w.heap.size w w1 := (((Below.refl _ _).alloc (Nat.le_refl _) _).alloc (by simp) _).trans (hb1.mono (by simp; omega))
      exact (HB.setCell (by simp) _).setCell (by simp) _
    · have e : undZ a b k x y = checkZ a b 0 x y := by unfold undZ; rw [if_neg (fun f => f hs), if_neg hk]
      rw [e] at h ⊢
      clear e
      obtain ⟨n, rfl⟩ := Int.eq_ofNat_of_zero_le (show 0 ≤ k by omega)
      have hn : n < levN a b := by omega
      have hck := Lib.hid (fun W => check_any a b 0 x y W ha ha' hb hb')
      have HSO := Lib.hid (fun W => Size_ok a b n W hs hn)
      have hbn : (checkZ a b 0 x y == 0) = false := by rw [beq_eq_false_iff_ne]; exact h
      clear h
      go_enter Try.func28, Try.ntmps28
      go_wp2_with fail
      refine (HSO.out _).mono ?_
      rintro e w1 ⟨rfl, hb1⟩
      have B1 : Below (w.heap.size + 1 + 1) ((w.alloc (.cells #[.int .i64 x, .int .i64 y] 44)).alloc (.cells #[.int .i64 0, .int .i64 0] 44)) w1 := by simpa using hb1
      have B0 : Below (w.heap.size + 1) (w.alloc (.cells #[.int .i64 x, .int .i64 y] 44)) w1 := ((Below.refl _ _).alloc (by simp) _).trans (B1.mono (by omega))
      have HB : Below w.heap.size w w1 := ((Below.refl _ _).alloc (Nat.le_refl _) _).trans (B0.mono (by omega))
      have c0 := bel_cell B0 w.heap.size 0 (by omega) (new_cell rfl 0 rfl)
      have c1 := bel_cell B0 w.heap.size 1 (by omega) (new_cell rfl 1 rfl)
      have d0 := bel_cell B1 (w.heap.size + 1) 0 (by omega) (new_cell (by simp) 0 rfl)
      have d1 := bel_cell B1 (w.heap.size + 1) 1 (by omega) (new_cell (by simp) 1 rfl)
      have f1 : ∀ o, w1.frozen? ⟨w.heap.size + 1, o, none⟩ = false := fun o => (B1.frozen (p := ⟨w.heap.size + 1, o, none⟩) (show w.heap.size + 1 < _ by omega)).trans (new_frozen (by simp) o)
      have hz1 : w.heap.size + 1 + 1 ≤ w1.heap.size := by have := hb1.size; simpa using this
      clear hb1 B1 B0
      go_wp2_with fail
      refine (hck.out _).mono ?_
      rintro e w2 ⟨rfl, hb2⟩
      have d0' := bel_cell hb2 _ _ (by omega) d0
      have d1' := bel_cell hb2 _ _ (by omega) d1
      have f1' : ∀ o, w2.frozen? ⟨w.heap.size + 1, o, none⟩ = false := fun o => (hb2.frozen (p := ⟨w.heap.size + 1, o, none⟩) (show w.heap.size + 1 < _ by omega)).trans (f1 o)
      have HB2 : Below w.heap.size w w2 := HB.trans (hb2.mono (by omega))
      clear hb2 c0 c1 d0 d1 f1
      go_wp2_with fail
      refine bodyPost_ret (v := .tuple #[.agg #[.int .i64 0, .int .i64 0], .int .i64 (checkZ a b 0 x y)]) (by simp [results, Try.results28, go_sem, d0', d1', f1']) rfl ⟨rfl, ?_⟩
      exact (HB2.setCell (by simp) _).setCell (by simp) _
  · have e : undZ a b k x y = 3 := by unfold undZ; rw [if_pos hs]
    rw [e]
    clear e h
    go_enter Try.func28, Try.ntmps28
    go_wp2_with fail
    refine (Size_bad a b k _ ha ha' hb hb' hs).mono ?_
    rintro e w1 ⟨rfl, hb1⟩
    obtain ⟨hc, hf⟩ := bcell hb1
    go_wp2_with fail
    refine bodyPost_ret (v := .tuple #[.agg #[.int .i64 0, .int .i64 0], .int .i64 3]) (by simp [results, Try.results28, go_sem, hc, hf]) rfl ⟨rfl, ?_⟩
    have HB : Below w.heap.size w w1 := (((Below.refl _ _).alloc (Nat.le_refl _) _).alloc (by simp) _).trans (hb1.mono (by simp; omega))
    exact (HB.setCell (by simp) _).setCell (by simp) _
end Go.Proofs.Ytgelgkgmgjhmnaa
