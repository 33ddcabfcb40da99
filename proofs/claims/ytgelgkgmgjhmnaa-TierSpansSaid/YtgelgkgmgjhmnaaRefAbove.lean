/-
  The document's Above (hachureref15).
-/
import Derived.Test.YtgelgkgmgjhmnaaMeet
namespace Go.Proofs.Ytgelgkgmgjhmnaa
open Go.RowKit
set_option linter.unusedVariables false
set_option linter.unusedSimpArgs false

theorem div_pow_succ (x : Int) (i : Nat) : x / 2 ^ i / 2 = x / 2 ^ (i + 1) := by
  rw [Int.pow_succ, ← Int.ediv_ediv_of_nonneg (Int.le_of_lt (Int.pow_pos (by omega)))]

theorem div_pow_le (x : Int) (i : Nat) (h : 0 ≤ x) : 0 ≤ x / 2 ^ i ∧ x / 2 ^ i ≤ x := by
  have hp : (0 : Int) < 2 ^ i := Int.pow_pos (by omega)
  exact ⟨Int.ediv_nonneg h (by omega), Int.ediv_le_self _ h⟩

set_option maxHeartbeats 1000000 in
theorem rAbove_any (n : Nat) (x y : Int) (w : World) (hn : n ≤ 11) (h0 : 0 ≤ x) (h1 : x ≤ 1023) (h2 : 0 ≤ y) (h3 : y ≤ 1023) :
    Calls Try.prog 32 #[.int .i64 n, .agg #[.int .i64 x, .int .i64 y]] w fun e w' => e = .returned (.agg #[.int .i64 (x / 2 ^ n), .int .i64 (y / 2 ^ n)]) ∧ Below w.heap.size w w' := by
  obtain ⟨W, hW⟩ : ∃ W, (w.alloc (.cells #[.int .i64 x, .int .i64 y] 44)).alloc (.cells #[.int .i64 0, .int .i64 0] 44) = W := ⟨_, rfl⟩
  have BW : Below w.heap.size w W := by rw [← hW]; exact ((Below.refl _ _).alloc (Nat.le_refl _) _).alloc (by simp) _
  have B0 : Below (w.heap.size + 1) (w.alloc (.cells #[.int .i64 x, .int .i64 y] 44)) W := by rw [← hW]; exact (Below.refl _ _).alloc (by simp) _
  have c0 : W.cell? ⟨w.heap.size, 0, none⟩ = some (.int .i64 x) := bel_cell B0 _ _ (by omega) (new_cell rfl 0 rfl)
  have c1 : W.cell? ⟨w.heap.size, 1, none⟩ = some (.int .i64 y) := bel_cell B0 _ _ (by omega) (new_cell rfl 1 rfl)
  have d0 : W.cell? ⟨w.heap.size + 1, 0, none⟩ = some (.int .i64 0) := by rw [← hW]; exact new_cell (by simp) 0 rfl
  have d1 : W.cell? ⟨w.heap.size + 1, 1, none⟩ = some (.int .i64 0) := by rw [← hW]; exact new_cell (by simp) 1 rfl
  have f0 : ∀ o, W.frozen? ⟨w.heap.size, o, none⟩ = false := fun o => (B0.frozen (p := ⟨w.heap.size, o, none⟩) (show w.heap.size < _ by omega)).trans (new_frozen rfl o)
  have f1 : ∀ o, W.frozen? ⟨w.heap.size + 1, o, none⟩ = false := fun o => by rw [← hW]; exact new_frozen (by simp) o
  go_enter Try.func32, Try.ntmps32
  go_wp2_with fail
  clear hW B0
  go_loopw [5] (fun t wr => ∃ i : Nat, i ≤ n ∧ t = .int .i64 i ∧ wr.cell? ⟨w.heap.size, 0, none⟩ = some (.int .i64 (x / 2 ^ i)) ∧ wr.cell? ⟨w.heap.size, 1, none⟩ = some (.int .i64 (y / 2 ^ i)) ∧ wr.cell? ⟨w.heap.size + 1, 0, none⟩ = some (.int .i64 0) ∧ wr.cell? ⟨w.heap.size + 1, 1, none⟩ = some (.int .i64 0) ∧ (∀ o, wr.frozen? ⟨w.heap.size, o, none⟩ = false) ∧ (∀ o, wr.frozen? ⟨w.heap.size + 1, o, none⟩ = false) ∧ Below w.heap.size w wr) (fun t _ => ((n : Int) - intOf t).toNat)
  case atStart => exact ⟨0, by omega, rfl, by simpa using c0, by simpa using c1, d0, d1, f0, f1, BW⟩
  case round =>
    clear c0 c1 d0 d1 f0 f1 BW
    obtain ⟨i, hi, rfl, c0, c1, d0, d1, f0, f1, hbr⟩ := hrel
    obtain ⟨p0, p1⟩ := div_pow_le x i h0
    obtain ⟨q0, q1⟩ := div_pow_le y i h2
    have ex := Lib.hid (div_pow_succ x i)
    have ey := Lib.hid (div_pow_succ y i)
    by_cases hlt : i < n
    · obtain ⟨P, hP⟩ : ∃ P, x / 2 ^ i = P := ⟨_, rfl⟩
      obtain ⟨Q, hQ⟩ : ∃ P, y / 2 ^ i = P := ⟨_, rfl⟩
      rw [hP] at ex c0 p0 p1
      rw [hQ] at ey c1 q0 q1
      clear hP hQ
      go_wp2_with fail
      go_roundw
      case rel =>
        refine ⟨i + 1, by omega, by go_num, ?_, ?_, ?_, ?_, ?_, ?_, (hbr.setCell (Nat.le_refl _) _).setCell (Nat.le_refl _) _⟩
        · rw [← ex.out]; simp [go_sem, c0, c1]
        · rw [← ey.out]; simp [go_sem, c0, c1]
        · simp [go_sem, d0]
        · simp [go_sem, d1]
        · intro o; simpa using f0 o
        · intro o; simpa using f1 o
      case measure => simp [intOf]; omega
    · have e : i = n := by omega
      subst e
      clear ex ey
      go_wp2_with fail
      refine bodyPost_ret (v := .agg #[.int .i64 (x / 2 ^ i), .int .i64 (y / 2 ^ i)]) (by simp [results, Try.results32, go_sem, c0, c1, d0, d1, f0, f1]) rfl ⟨rfl, ?_⟩
      exact (hbr.setCell (by simp) _).setCell (by simp) _
end Go.Proofs.Ytgelgkgmgjhmnaa
