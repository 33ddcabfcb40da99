/-
  tier.check and tier.Span.
-/
import Derived.Test.YtgelgkgmgjhmnaaRect
import Derived.StillTailTactics
namespace Go.Proofs.Ytgelgkgmgjhmnaa
open Go.RowKit
set_option linter.unusedVariables false
set_option linter.unusedSimpArgs false

instance (a b : Int) : Decidable (SizeOk a b) := by unfold SizeOk; infer_instance

/-- the errors of a level's cell -/
def checkZ (a b k x y : Int) : Int :=
  if ¬ SizeOk a b then 3 else if k < 0 ∨ (levN a b : Int) ≤ k then 11
  else if x < 0 ∨ halfZ a k.toNat ≤ x ∨ y < 0 ∨ halfZ b k.toNat ≤ y then 4 else 0

theorem bel_cell {B : Nat} {w w' : World} (h : Below B w w') (g i : Nat) (hg : g < B) {v : Value} (hc : w.cell? ⟨g, i, none⟩ = some v) : w'.cell? ⟨g, i, none⟩ = some v := (h.cell (p := ⟨g, i, none⟩) hg).trans hc

theorem box2 (w : World) (u v : Value) (t : TypeId) : (w.alloc (.cells #[u, v] t)).cell? ⟨w.heap.size, 0, none⟩ = some u ∧ (w.alloc (.cells #[u, v] t)).cell? ⟨w.heap.size, 1, none⟩ = some v := by
  constructor <;> simp

theorem check_any (a b k x y : Int) (w : World) (ha : -9223372036854775808 ≤ a) (ha' : a ≤ 9223372036854775807) (hb : -9223372036854775808 ≤ b) (hb' : b ≤ 9223372036854775807) :
    Calls Try.prog 40 #[.int .i64 a, .int .i64 b, .int .i64 k, .agg #[.int .i64 x, .int .i64 y]] w fun e w' => e = .returned (.int .i64 (checkZ a b k x y)) ∧ Below w.heap.size w w' := by
  obtain ⟨hx, hy⟩ := box2 w (.int .i64 x) (.int .i64 y) 44
  by_cases h : SizeOk a b
  · by_cases hk : k < 0 ∨ (levN a b : Int) ≤ k
    · have e : checkZ a b k x y = 11 := by unfold checkZ; rw [if_neg (fun f => f h), if_pos hk]
      rw [e]
      clear e
      go_enter Try.func40, Try.ntmps40
      go_wp2_with fail
      refine (Size_arg a b k _ h hk).mono ?_
      rintro e w1 ⟨rfl, hb1⟩
      go_wp2_with fail
      go_ret
      exact ⟨rfl, ((Below.refl _ _).alloc (Nat.le_refl _) _).trans (hb1.mono (by simp))⟩
    · obtain ⟨n, rfl⟩ := Int.eq_ofNat_of_zero_le (show 0 ≤ k by omega)
      have hn : n < levN a b := by omega
      rcases (show x < 0 ∨ (0 ≤ x ∧ halfZ a n ≤ x) ∨ (0 ≤ x ∧ x < halfZ a n ∧ y < 0) ∨ (0 ≤ x ∧ x < halfZ a n ∧ 0 ≤ y ∧ halfZ b n ≤ y) ∨ (0 ≤ x ∧ x < halfZ a n ∧ 0 ≤ y ∧ y < halfZ b n) from by omega) with c | c | c | c | c
      all_goals
        first
        | (have e : checkZ a b n x y = 4 := by unfold checkZ; rw [if_neg (fun f => f h), if_neg hk, if_pos (by simp only [Int.toNat_natCast]; omega)]); rw [e]
        | (have e : checkZ a b n x y = 0 := by unfold checkZ; rw [if_neg (fun f => f h), if_neg hk, if_neg (by simp only [Int.toNat_natCast]; omega)]); rw [e]
        clear e hk
        go_enter Try.func40, Try.ntmps40
        go_wp2_with fail
        refine (Size_ok a b n _ h hn).mono ?_
        rintro e w1 ⟨rfl, hb1⟩
        have hx1 := bel_cell hb1 _ _ (by simp) hx
        have hy1 := bel_cell hb1 _ _ (by simp) hy
        clear hx hy
        have HB : Below w.heap.size w w1 := ((Below.refl _ _).alloc (Nat.le_refl _) _).trans (hb1.mono (by simp))
        clear hb1
        go_wp2_with fail
        go_ret
        exact ⟨rfl, HB⟩
  · have e : checkZ a b k x y = 3 := by unfold checkZ; rw [if_pos h]
    rw [e]
    clear e
    go_enter Try.func40, Try.ntmps40
    go_wp2_with fail
    refine (Size_bad a b k _ ha ha' hb hb' h).mono ?_
    rintro e w1 ⟨rfl, hb1⟩
    go_wp2_with fail
    go_ret
    exact ⟨rfl, ((Below.refl _ _).alloc (Nat.le_refl _) _).trans (hb1.mono (by simp))⟩

theorem bcell {W w1 : World} (hb : Below W.heap.size W w1) : (∀ b o, b < W.heap.size → w1.cell? ⟨b, o, none⟩ = W.cell? ⟨b, o, none⟩) ∧ (∀ b o, b < W.heap.size → w1.frozen? ⟨b, o, none⟩ = W.frozen? ⟨b, o, none⟩) :=
  ⟨fun b o h => hb.cell (p := ⟨b, o, none⟩) h, fun b o h => hb.frozen (p := ⟨b, o, none⟩) h⟩

set_option maxHeartbeats 1000000 in
theorem Span_bad (a b k x y : Int) (w : World) (ha : -9223372036854775808 ≤ a) (ha' : a ≤ 9223372036854775807) (hb : -9223372036854775808 ≤ b) (hb' : b ≤ 9223372036854775807) (h : (checkZ a b k x y == 0) = false) :
    Calls Try.prog 25 #[.int .i64 a, .int .i64 b, .int .i64 k, .agg #[.int .i64 x, .int .i64 y]] w fun e w' => e = .returned (.tuple #[.agg #[.int .i64 0, .int .i64 0, .int .i64 0, .int .i64 0], .int .i64 (checkZ a b k x y)]) ∧ Below w.heap.size w w' := by
  go_enter Try.func25, Try.ntmps25
  go_wp2_with fail
  refine (check_any a b k x y _ ha ha' hb hb').mono ?_
  rintro e w1 ⟨rfl, hb1⟩
  obtain ⟨hc, hf⟩ := bcell hb1
  go_wp2_with fail
  refine bodyPost_ret (v := .tuple #[.agg #[.int .i64 0, .int .i64 0, .int .i64 0, .int .i64 0], .int .i64 (checkZ a b k x y)]) (by simp [results, Try.results25, go_sem, hc, hf]) rfl ⟨rfl, ?_⟩
  have HB : Below w.heap.size w w1 := (((Below.refl _ _).alloc (Nat.le_refl _) _).alloc (by simp) _).trans (hb1.mono (by simp; omega))
  exact (((HB.setCell (by simp) _).setCell (by simp) _).setCell (by simp) _).setCell (by simp) _

set_option maxHeartbeats 1000000 in
theorem Span_ok (a b x y : Int) (k : Nat) (w : World) (ha : -9223372036854775808 ≤ a) (ha' : a ≤ 9223372036854775807) (hb : -9223372036854775808 ≤ b) (hb' : b ≤ 9223372036854775807) (h : checkZ a b k x y = 0) (hk : k ≤ 10)
    (h1 : 0 ≤ x * 2 ^ k) (h2 : x * 2 ^ k ≤ 2047) (h3 : 0 ≤ y * 2 ^ k) (h4 : y * 2 ^ k ≤ 2047) (h5 : 0 ≤ (x + 1) * 2 ^ k) (h6 : (x + 1) * 2 ^ k ≤ 2047) (h7 : 0 ≤ (y + 1) * 2 ^ k) (h8 : (y + 1) * 2 ^ k ≤ 2047) 
    (h9 : 0 ≤ x) (h10 : x ≤ 1023) (h11 : 0 ≤ y) (h12 : y ≤ 1023) (h13 : 1 ≤ a) (h14 : 1 ≤ b) :
    Calls Try.prog 25 #[.int .i64 a, .int .i64 b, .int .i64 k, .agg #[.int .i64 x, .int .i64 y]] w fun e w' => e = .returned (.tuple #[.agg #[.int .i64 (x * 2 ^ k), .int .i64 (y * 2 ^ k), .int .i64 (min ((x + 1) * 2 ^ k) a - 1), .int .i64 (min ((y + 1) * 2 ^ k) b - 1)], .int .i64 0]) ∧ Below w.heap.size w w' := by
  go_enter Try.func25, Try.ntmps25
  go_wp2_with fail
  refine (check_any a b k x y _ ha ha' hb hb').mono ?_
  rintro e w1 ⟨rfl, hb1⟩
  obtain ⟨hc, hf⟩ := bcell hb1
  rw [h]
  go_wp2_with fail
  go_still_tail 25, (by kernel_rfl)
  rw [IntWalk.i64_in (x + 1) (by omega), IntWalk.i64_in (y + 1) (by omega), IntWalk.i64_in (x * 2 ^ k) (by omega), IntWalk.i64_in (y * 2 ^ k) (by omega), IntWalk.i64_in ((x + 1) * 2 ^ k) (by omega), IntWalk.i64_in ((y + 1) * 2 ^ k) (by omega), IntWalk.i64_in (min ((x + 1) * 2 ^ k) a - 1) (by omega), IntWalk.i64_in (min ((y + 1) * 2 ^ k) b - 1) (by omega)]
  have HB : Below w.heap.size w w1 := (((Below.refl _ _).alloc (Nat.le_refl _) _).alloc (by simp) _).trans (hb1.mono (by simp; omega))
  go_wp2_with fail
  refine bodyPost_ret (v := .tuple #[.agg #[.int .i64 (x * 2 ^ k), .int .i64 (y * 2 ^ k), .int .i64 (min ((x + 1) * 2 ^ k) a - 1), .int .i64 (min ((y + 1) * 2 ^ k) b - 1)], .int .i64 0]) (by simp [results, Try.results25, go_sem, hc, hf]) rfl ⟨rfl, ?_⟩
  exact (((HB.drew.setCell (by simp) _).setCell (by simp) _).setCell (by simp) _).setCell (by simp) _
end Go.Proofs.Ytgelgkgmgjhmnaa
