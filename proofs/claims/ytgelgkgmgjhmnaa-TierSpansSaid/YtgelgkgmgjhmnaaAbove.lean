/-
  tier.Above.
-/
import Derived.Test.YtgelgkgmgjhmnaaKidsPlain
namespace Go.Proofs.Ytgelgkgmgjhmnaa
open Go.RowKit
set_option linter.unusedVariables false
set_option linter.unusedSimpArgs false

set_option maxHeartbeats 1000000 in
theorem Above_ok (a b x y : Int) (n : Nat) (w : World) (hs : SizeOk a b) (hn : n < levN a b) (h : checkZ a b 0 x y = 0) (h0 : 0 ≤ x) (h1 : x ≤ 1023) (h2 : 0 ≤ y) (h3 : y ≤ 1023) :
    Calls Try.prog 28 #[.int .i64 a, .int .i64 b, .int .i64 n, .agg #[.int .i64 x, .int .i64 y]] w fun e w' => e = .returned (.tuple #[.agg #[.int .i64 (x / 2 ^ n), .int .i64 (y / 2 ^ n)], .int .i64 0]) ∧ Below w.heap.size w w' := by
  obtain ⟨s1, s2, s3, s4⟩ := id hs
  have hl := levN_le hs
  have hck := Lib.hid (fun W => check_any a b 0 x y W (by omega) (by omega) (by omega) (by omega))
  rw [h] at hck
  have HSO := Lib.hid (fun W => Size_ok a b n W hs hn)
  clear h
  go_enter Try.func28, Try.ntmps28
  go_wp2_with fail
  refine (HSO.out _).mono ?_
  rintro e w1 ⟨rfl, hb1⟩
  have B1 : Below (w.heap.size + 1 + 1) ((w.alloc (.cells #[.int .i64 x, .int .i64 y] 44)).alloc (.cells #[.int .i64 0, .int .i64 0] 44)) w1 := by simpa using hb1
  have B0 : Below (w.heap.size + 1) (w.alloc (.cells #[.int .i64 x, .int .i64 y] 44)) w1 := ((Below.refl _ _).alloc (by simp) _).trans (B1.mono (by omega))
  have HB : Below w.heap.size w w1 := ((Below.refl _ _).alloc (Nat.le_refl _) _).trans (B0.mono (by omega))
  have c0 := bel_cell B0 w.heap.size 0 (by omega) (new_cell rfl 0 rfl)
  have c1 := bel_cell B0 w.heap.size 1 (by omega) (new_cell rfl 1 rfl)
  have d0 := bel_cell B1 (w.heap.size + 1) 0 (by omega) (new_cell (by simp) 0 rfl)
  have d1 := bel_cell B1 (w.heap.size + 1) 1 (by omega) (new_cell (by simp) 1 rfl)
  have f1 : ∀ o, w1.frozen? ⟨w.heap.size + 1, o, none⟩ = false := fun o => (B1.frozen (p := ⟨w.heap.size + 1, o, none⟩) (show w.heap.size + 1 < _ by omega)).trans (new_frozen (by simp) o)
  have hz1 : w.heap.size + 1 + 1 ≤ w1.heap.size := by have := hb1.size; simpa using this
  clear hb1 B1 B0
  go_wp2_with fail
  refine (hck.out _).mono ?_
  rintro e w2 ⟨rfl, hb2⟩
  have c0' := bel_cell hb2 _ _ (by omega) c0
  have c1' := bel_cell hb2 _ _ (by omega) c1
  have d0' := bel_cell hb2 _ _ (by omega) d0
  have d1' := bel_cell hb2 _ _ (by omega) d1
  have f1' : ∀ o, w2.frozen? ⟨w.heap.size + 1, o, none⟩ = false := fun o => (hb2.frozen (p := ⟨w.heap.size + 1, o, none⟩) (show w.heap.size + 1 < _ by omega)).trans (f1 o)
  have HB2 : Below w.heap.size w w2 := HB.trans (hb2.mono (by omega))
  clear hb2 c0 c1 d0 d1 f1
  go_wp2_with fail
  go_still_tail 9, (by kernel_rfl)
  go_wp2_with fail
  refine bodyPost_ret (v := .tuple #[.agg #[.int .i64 (x / 2 ^ n), .int .i64 (y / 2 ^ n)], .int .i64 0]) (by simp [results, Try.results28, go_sem, d0', d1', f1']) rfl ⟨rfl, ?_⟩
  exact (HB2.drew.setCell (by simp) _).setCell (by simp) _
end Go.Proofs.Ytgelgkgmgjhmnaa
