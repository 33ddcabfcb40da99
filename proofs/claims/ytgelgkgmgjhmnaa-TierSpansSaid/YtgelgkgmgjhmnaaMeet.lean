/-
  The document's rectangles: Right, Area, Meet (hachureref07).
-/
import Derived.Test.YtgelgkgmgjhmnaaSpan
namespace Go.Proofs.Ytgelgkgmgjhmnaa
open Go.RowKit
set_option linter.unusedVariables false
set_option linter.unusedSimpArgs false

/-- a rectangle that is right -/
def RightP (x0 y0 x1 y1 : Int) : Prop := 0 ≤ x0 ∧ x0 ≤ x1 ∧ x1 < 1024 ∧ 0 ≤ y0 ∧ y0 ≤ y1 ∧ y1 < 1024

/-- a rectangle as a value -/
abbrev rectV (x0 y0 x1 y1 : Int) : Value := .agg #[.int .i64 x0, .int .i64 y0, .int .i64 x1, .int .i64 y1]

theorem rRight_yes (x0 y0 x1 y1 : Int) (w : World) (h : RightP x0 y0 x1 y1) :
    Calls Try.prog 41 #[.agg #[.int .i64 x0, .int .i64 y0, .int .i64 x1, .int .i64 y1]] w fun e w' => e = .returned (.bool true) ∧ Below w.heap.size w w' := by
  obtain ⟨h1, h2, h3, h4, h5, h6⟩ := h
  go_enter Try.func41, Try.ntmps41
  go_wp2_with fail
  go_ret
  exact ⟨rfl, (Below.refl _ _).alloc (Nat.le_refl _) _⟩

theorem rArea_yes (x0 y0 x1 y1 : Int) (w : World) (h : RightP x0 y0 x1 y1) :
    Calls Try.prog 27 #[.agg #[.int .i64 x0, .int .i64 y0, .int .i64 x1, .int .i64 y1]] w fun e w' => e = .returned (.int .i64 ((x1 + 1 - x0) * (y1 + 1 - y0))) ∧ Below w.heap.size w w' := by
  obtain ⟨h1, h2, h3, h4, h5, h6⟩ := id h
  have p1 : 0 ≤ (x1 + 1 - x0) * (y1 + 1 - y0) := Int.mul_nonneg (by omega) (by omega)
  have p2 : (x1 + 1 - x0) * (y1 + 1 - y0) ≤ 1024 * 1024 := Int.mul_le_mul (by omega) (by omega) (by omega) (by omega)
  go_enter Try.func27, Try.ntmps27
  go_wp2_with fail
  refine (rRight_yes x0 y0 x1 y1 _ h).mono ?_
  rintro e w1 ⟨rfl, hb1⟩
  obtain ⟨hc, hf⟩ := bcell hb1
  go_wp2_with fail
  go_ret
  exact ⟨rfl, ((Below.refl _ _).alloc (Nat.le_refl _) _).trans (hb1.mono (by simp))⟩

theorem new_cell {w : World} {C : Array Value} {t : TypeId} {g : Nat} (hg : g = w.heap.size) (o : Nat) {v : Value} (hv : C[o]? = some v) : (w.alloc (.cells C t)).cell? ⟨g, o, none⟩ = some v := by
  subst hg
  simpa using hv
theorem new_frozen {w : World} {C : Array Value} {t : TypeId} {g : Nat} (hg : g = w.heap.size) (o : Nat) : (w.alloc (.cells C t)).frozen? ⟨g, o, none⟩ = false := by
  subst hg
  simp

set_option maxHeartbeats 4000000 in
theorem rMeet_yes (x0 y0 x1 y1 u0 v0 u1 v1 : Int) (w : World) (h : RightP x0 y0 x1 y1) (h' : RightP u0 v0 u1 v1) (hi : x0 ≤ u0 ∧ y0 ≤ v0 ∧ u1 ≤ x1 ∧ v1 ≤ y1) :
    Calls Try.prog 26 #[.agg #[.int .i64 x0, .int .i64 y0, .int .i64 x1, .int .i64 y1], .agg #[.int .i64 u0, .int .i64 v0, .int .i64 u1, .int .i64 v1]] w fun e w' => e = .returned (.tuple #[.agg #[.int .i64 u0, .int .i64 v0, .int .i64 u1, .int .i64 v1], .bool true]) ∧ Below w.heap.size w w' := by
  obtain ⟨h1, h2, h3, h4⟩ := hi
  obtain ⟨g1, g2, g3, g4, g5, g6⟩ := id h'
  go_enter Try.func26, Try.ntmps26
  go_wp2_with fail
  refine (rRight_yes x0 y0 x1 y1 _ h).mono ?_
  rintro e w1 ⟨rfl, hb1⟩
  obtain ⟨hc, hf⟩ := bcell hb1
  go_wp2_with fail
  refine (rRight_yes u0 v0 u1 v1 _ h').mono ?_
  rintro e w2 ⟨rfl, hb2⟩
  have HB : Below (w.heap.size + 3) (((w.alloc (.cells #[.int .i64 x0, .int .i64 y0, .int .i64 x1, .int .i64 y1] 49)).alloc (.cells #[.int .i64 u0, .int .i64 v0, .int .i64 u1, .int .i64 v1] 49)).alloc (.cells #[.int .i64 0, .int .i64 0, .int .i64 0, .int .i64 0] 49)) w2 := by
    have := hb1.trans (hb2.mono hb1.size)
    simpa using this
  clear hc hf hb1 hb2
  have B1 : Below (w.heap.size + 1 + 1) ((w.alloc (.cells #[.int .i64 x0, .int .i64 y0, .int .i64 x1, .int .i64 y1] 49)).alloc (.cells #[.int .i64 u0, .int .i64 v0, .int .i64 u1, .int .i64 v1] 49)) w2 := ((Below.refl _ _).alloc (by simp) _).trans (HB.mono (by omega))
  have B0 : Below (w.heap.size + 1) (w.alloc (.cells #[.int .i64 x0, .int .i64 y0, .int .i64 x1, .int .i64 y1] 49)) w2 := ((Below.refl _ _).alloc (by simp) _).trans (B1.mono (by omega))
  have HB0 : Below w.heap.size w w2 := ((Below.refl _ _).alloc (Nat.le_refl _) _).trans (B0.mono (by omega))
  have n1 : (w.alloc (.cells #[.int .i64 x0, .int .i64 y0, .int .i64 x1, .int .i64 y1] 49)).heap.size = w.heap.size + 1 := by simp
  have n2 : ((w.alloc (.cells #[.int .i64 x0, .int .i64 y0, .int .i64 x1, .int .i64 y1] 49)).alloc (.cells #[.int .i64 u0, .int .i64 v0, .int .i64 u1, .int .i64 v1] 49)).heap.size = w.heap.size + 1 + 1 := by simp
  have c00 : w2.cell? ⟨w.heap.size, 0, none⟩ = some (.int .i64 x0) := bel_cell B0 _ _ (by omega) (new_cell (by rfl) 0 rfl)
  have c01 : w2.cell? ⟨w.heap.size, 1, none⟩ = some (.int .i64 y0) := bel_cell B0 _ _ (by omega) (new_cell (by rfl) 1 rfl)
  have c02 : w2.cell? ⟨w.heap.size, 2, none⟩ = some (.int .i64 x1) := bel_cell B0 _ _ (by omega) (new_cell (by rfl) 2 rfl)
  have c03 : w2.cell? ⟨w.heap.size, 3, none⟩ = some (.int .i64 y1) := bel_cell B0 _ _ (by omega) (new_cell (by rfl) 3 rfl)
  have f0 : ∀ o, w2.frozen? ⟨w.heap.size, o, none⟩ = false := fun o => (B0.frozen (p := ⟨w.heap.size, o, none⟩) (show w.heap.size < _ by omega)).trans (new_frozen (by rfl) o)
  have c10 : w2.cell? ⟨w.heap.size + 1, 0, none⟩ = some (.int .i64 u0) := bel_cell B1 _ _ (by omega) (new_cell (by rw [n1]) 0 rfl)
  have c11 : w2.cell? ⟨w.heap.size + 1, 1, none⟩ = some (.int .i64 v0) := bel_cell B1 _ _ (by omega) (new_cell (by rw [n1]) 1 rfl)
  have c12 : w2.cell? ⟨w.heap.size + 1, 2, none⟩ = some (.int .i64 u1) := bel_cell B1 _ _ (by omega) (new_cell (by rw [n1]) 2 rfl)
  have c13 : w2.cell? ⟨w.heap.size + 1, 3, none⟩ = some (.int .i64 v1) := bel_cell B1 _ _ (by omega) (new_cell (by rw [n1]) 3 rfl)
  have f1 : ∀ o, w2.frozen? ⟨w.heap.size + 1, o, none⟩ = false := fun o => (B1.frozen (p := ⟨w.heap.size + 1, o, none⟩) (show w.heap.size + 1 < _ by omega)).trans (new_frozen (by rw [n1]) o)
  have c20 : w2.cell? ⟨w.heap.size + 1 + 1, 0, none⟩ = some (.int .i64 0) := bel_cell HB _ _ (by omega) (new_cell (by rw [n2]) 0 rfl)
  have c21 : w2.cell? ⟨w.heap.size + 1 + 1, 1, none⟩ = some (.int .i64 0) := bel_cell HB _ _ (by omega) (new_cell (by rw [n2]) 1 rfl)
  have c22 : w2.cell? ⟨w.heap.size + 1 + 1, 2, none⟩ = some (.int .i64 0) := bel_cell HB _ _ (by omega) (new_cell (by rw [n2]) 2 rfl)
  have c23 : w2.cell? ⟨w.heap.size + 1 + 1, 3, none⟩ = some (.int .i64 0) := bel_cell HB _ _ (by omega) (new_cell (by rw [n2]) 3 rfl)
  have f2 : ∀ o, w2.frozen? ⟨w.heap.size + 1 + 1, o, none⟩ = false := fun o => (HB.frozen (p := ⟨w.heap.size + 1 + 1, o, none⟩) (show w.heap.size + 1 + 1 < _ by omega)).trans (new_frozen (by rw [n2]) o)
  clear HB B0 B1 n1 n2 h h'
  obtain ⟨l0, hl0⟩ : ∃ l, w.heap.size = l := ⟨_, rfl⟩
  rcases (show x0 = u0 ∨ x0 < u0 from by omega) with k1 | k1
  all_goals rcases (show y0 = v0 ∨ y0 < v0 from by omega) with k2 | k2
  all_goals rcases (show x1 = u1 ∨ u1 < x1 from by omega) with k3 | k3
  all_goals rcases (show y1 = v1 ∨ v1 < y1 from by omega) with k4 | k4
  all_goals
    try subst k1
    try subst k2
    try subst k3
    try subst k4
    clear hl0
    go_wp2_with fail
    refine bodyPost_ret (v := .tuple #[.agg #[.int .i64 _, .int .i64 _, .int .i64 _, .int .i64 _], .bool true]) (by simp [results, Try.results26, go_sem, c00, c01, c02, c03, c10, c11, c12, c13, c20, c21, c22, c23, f0, f1, f2]) rfl ⟨rfl, ?_⟩
    repeat (refine Below.setCell ?_ (by first | exact Nat.le_refl _ | (show w.heap.size ≤ w.heap.size + 1 + 1; omega)) _)
    exact HB0
end Go.Proofs.Ytgelgkgmgjhmnaa
