/-
  The document's May (hachureref15).
-/
import Derived.Test.YtgelgkgmgjhmnaaAboveBad
import Derived.Test.YtgelgkgmgjhmnaaSizes
import Derived.Deep.QuietTactic
import Derived.BigQuiet
namespace Go.Proofs.Ytgelgkgmgjhmnaa
open Go.RowKit
set_option linter.unusedVariables false
set_option linter.unusedSimpArgs false

/-- the document's code -/
def mayZ (a b k : Int) (at' : Nat) (x y : Int) : Int := if ¬ SizeOk a b then 3 else if k < 0 ∨ (levN a b : Int) ≤ k then 11 else if x < 0 ∨ y < 0 ∨ halfZ a at' ≤ x ∨ halfZ b at' ≤ y then 4 else 0

set_option maxHeartbeats 1000000 in
theorem May_any (a b k : Int) (p : Nat) (x y : Int) (w : World) (hp : SizeOk a b → p < levN a b) :
    Calls Try.prog 29 #[.int .i64 a, .int .i64 b, .int .i64 k, .int .i64 p, .agg #[.int .i64 x, .int .i64 y]] w fun e w' => e = .returned (.int .i64 (mayZ a b k p x y)) ∧ Below w.heap.size w w' := by
  obtain ⟨hcx, hcy⟩ := box2 w (.int .i64 x) (.int .i64 y) 44
  by_cases hs : SizeOk a b
  · have hlev : 0 < levN a b := by unfold levN; omega
    have hl := levN_le hs
    have hne : ((levN a b : Int) == 0) = false := by rw [beq_eq_false_iff_ne]; omega
    have hpp := hp hs
    by_cases hk : k < 0 ∨ (levN a b : Int) ≤ k
    · have e : mayZ a b k p x y = 11 := by unfold mayZ; rw [if_neg (fun f => f hs), if_pos hk]
      rw [e]
      clear e
      rcases (show k < 0 ∨ (0 ≤ k ∧ (levN a b : Int) ≤ k) from by omega) with g | g
      all_goals
        clear hk
        go_enter Try.func29, Try.ntmps29
        go_wp2_with fail
        refine (rSizes_ok a b _ hs).mono ?_
        rintro e w1 ⟨A, c, rfl, hown, hb1⟩
        clear hown
        go_wp2_with fail
        go_ret
        exact ⟨rfl, ((Below.refl _ _).alloc (Nat.le_refl _) _).trans (hb1.mono (by simp))⟩
    · have k0 : 0 ≤ k := by omega
      have k1 : k < (levN a b : Int) := by omega
      rcases (show x < 0 ∨ (0 ≤ x ∧ y < 0) ∨ (0 ≤ x ∧ 0 ≤ y ∧ halfZ a p ≤ x) ∨ (0 ≤ x ∧ 0 ≤ y ∧ x < halfZ a p ∧ halfZ b p ≤ y) ∨ (0 ≤ x ∧ 0 ≤ y ∧ x < halfZ a p ∧ y < halfZ b p) from by omega) with c | c | c | c | c
      · have e : mayZ a b k p x y = 4 := by unfold mayZ; rw [if_neg (fun f => f hs), if_neg hk, if_pos (by omega)]
        rw [e]
        clear e hk
        go_enter Try.func29, Try.ntmps29
        go_wp2_with fail
        refine (rSizes_ok a b _ hs).mono ?_
        rintro e w1 ⟨A, cc, rfl, hown, hb1⟩
        obtain ⟨g, cap, hv, hbg, hltg⟩ := hown.form (by omega)
        have hA2 : A = some ⟨g, 0, none⟩ := by injection hv
        subst hA2
        have hat := cel_at (szs a b (levN a b)) p (by simpa using hpp)
        rw [szs_at] at hat
        have hlx : w1.cell? ⟨g, p * 2, none⟩ = some (.int .i64 (halfZ a p)) := by
          have := hown.cells (g := g) rfl _ _ hat.1
          rwa [add_plain, Nat.zero_add] at this
        have hly : w1.cell? ⟨g, p * 2 + 1, none⟩ = some (.int .i64 (halfZ b p)) := by
          have := hown.cells (g := g) rfl _ _ hat.2
          rwa [add_plain, Nat.zero_add] at this
        have hx1 := bel_cell hb1 _ _ (by simp) hcx
        have hy1 := bel_cell hb1 _ _ (by simp) hcy
        have HB : Below w.heap.size w w1 := ((Below.refl _ _).alloc (Nat.le_refl _) _).trans (hb1.mono (by simp))
        clear hat hown hv hb1 hcx hcy hbg hltg
        have j1 : (0 : Int) ≤ (p : Int) := by omega
        have j2 : (p : Int) < (levN a b : Int) := by omega
        have d0 : decide (x < 0) = true := by simp; omega
        go_wp2_with fail
        go_quiet (fail)
        go_wp2_with fail
        go_ret
        exact ⟨rfl, bel_drewN HB _⟩
      · have e : mayZ a b k p x y = 4 := by unfold mayZ; rw [if_neg (fun f => f hs), if_neg hk, if_pos (by omega)]
        rw [e]
        clear e hk
        go_enter Try.func29, Try.ntmps29
        go_wp2_with fail
        refine (rSizes_ok a b _ hs).mono ?_
        rintro e w1 ⟨A, cc, rfl, hown, hb1⟩
        obtain ⟨g, cap, hv, hbg, hltg⟩ := hown.form (by omega)
        have hA2 : A = some ⟨g, 0, none⟩ := by injection hv
        subst hA2
        have hat := cel_at (szs a b (levN a b)) p (by simpa using hpp)
        rw [szs_at] at hat
        have hlx : w1.cell? ⟨g, p * 2, none⟩ = some (.int .i64 (halfZ a p)) := by
          have := hown.cells (g := g) rfl _ _ hat.1
          rwa [add_plain, Nat.zero_add] at this
        have hly : w1.cell? ⟨g, p * 2 + 1, none⟩ = some (.int .i64 (halfZ b p)) := by
          have := hown.cells (g := g) rfl _ _ hat.2
          rwa [add_plain, Nat.zero_add] at this
        have hx1 := bel_cell hb1 _ _ (by simp) hcx
        have hy1 := bel_cell hb1 _ _ (by simp) hcy
        have HB : Below w.heap.size w w1 := ((Below.refl _ _).alloc (Nat.le_refl _) _).trans (hb1.mono (by simp))
        clear hat hown hv hb1 hcx hcy hbg hltg
        have j1 : (0 : Int) ≤ (p : Int) := by omega
        have j2 : (p : Int) < (levN a b : Int) := by omega
        have d0 : decide (x < 0) = false := by simp; omega
        have d1 : decide (y < 0) = true := by simp; omega
        go_wp2_with fail
        go_quiet (fail)
        go_wp2_with fail
        go_ret
        exact ⟨rfl, bel_drewN HB _⟩
      · have e : mayZ a b k p x y = 4 := by unfold mayZ; rw [if_neg (fun f => f hs), if_neg hk, if_pos (by omega)]
        rw [e]
        clear e hk
        go_enter Try.func29, Try.ntmps29
        go_wp2_with fail
        refine (rSizes_ok a b _ hs).mono ?_
        rintro e w1 ⟨A, cc, rfl, hown, hb1⟩
        obtain ⟨g, cap, hv, hbg, hltg⟩ := hown.form (by omega)
        have hA2 : A = some ⟨g, 0, none⟩ := by injection hv
        subst hA2
        have hat := cel_at (szs a b (levN a b)) p (by simpa using hpp)
        rw [szs_at] at hat
        have hlx : w1.cell? ⟨g, p * 2, none⟩ = some (.int .i64 (halfZ a p)) := by
          have := hown.cells (g := g) rfl _ _ hat.1
          rwa [add_plain, Nat.zero_add] at this
        have hly : w1.cell? ⟨g, p * 2 + 1, none⟩ = some (.int .i64 (halfZ b p)) := by
          have := hown.cells (g := g) rfl _ _ hat.2
          rwa [add_plain, Nat.zero_add] at this
        have hx1 := bel_cell hb1 _ _ (by simp) hcx
        have hy1 := bel_cell hb1 _ _ (by simp) hcy
        have HB : Below w.heap.size w w1 := ((Below.refl _ _).alloc (Nat.le_refl _) _).trans (hb1.mono (by simp))
        clear hat hown hv hb1 hcx hcy hbg hltg
        have j1 : (0 : Int) ≤ (p : Int) := by omega
        have j2 : (p : Int) < (levN a b : Int) := by omega
        have d0 : decide (x < 0) = false := by simp; omega
        have d1 : decide (y < 0) = false := by simp; omega
        have d2 : decide (halfZ a p ≤ x) = true := by simp; omega
        go_wp2_with fail
        go_quiet (fail)
        go_wp2_with fail
        go_ret
        exact ⟨rfl, bel_drewN HB _⟩
      · have e : mayZ a b k p x y = 4 := by unfold mayZ; rw [if_neg (fun f => f hs), if_neg hk, if_pos (by omega)]
        rw [e]
        clear e hk
        go_enter Try.func29, Try.ntmps29
        go_wp2_with fail
        refine (rSizes_ok a b _ hs).mono ?_
        rintro e w1 ⟨A, cc, rfl, hown, hb1⟩
        obtain ⟨g, cap, hv, hbg, hltg⟩ := hown.form (by omega)
        have hA2 : A = some ⟨g, 0, none⟩ := by injection hv
        subst hA2
        have hat := cel_at (szs a b (levN a b)) p (by simpa using hpp)
        rw [szs_at] at hat
        have hlx : w1.cell? ⟨g, p * 2, none⟩ = some (.int .i64 (halfZ a p)) := by
          have := hown.cells (g := g) rfl _ _ hat.1
          rwa [add_plain, Nat.zero_add] at this
        have hly : w1.cell? ⟨g, p * 2 + 1, none⟩ = some (.int .i64 (halfZ b p)) := by
          have := hown.cells (g := g) rfl _ _ hat.2
          rwa [add_plain, Nat.zero_add] at this
        have hx1 := bel_cell hb1 _ _ (by simp) hcx
        have hy1 := bel_cell hb1 _ _ (by simp) hcy
        have HB : Below w.heap.size w w1 := ((Below.refl _ _).alloc (Nat.le_refl _) _).trans (hb1.mono (by simp))
        clear hat hown hv hb1 hcx hcy hbg hltg
        have j1 : (0 : Int) ≤ (p : Int) := by omega
        have j2 : (p : Int) < (levN a b : Int) := by omega
        have d0 : decide (x < 0) = false := by simp; omega
        have d1 : decide (y < 0) = false := by simp; omega
        have d2 : decide (halfZ a p ≤ x) = false := by simp; omega
        have d3 : decide (halfZ b p ≤ y) = true := by simp; omega
        go_wp2_with fail
        go_quiet (fail)
        go_wp2_with fail
        go_ret
        exact ⟨rfl, bel_drewN HB _⟩
      · have e : mayZ a b k p x y = 0 := by unfold mayZ; rw [if_neg (fun f => f hs), if_neg hk, if_neg (by omega)]
        rw [e]
        clear e hk
        go_enter Try.func29, Try.ntmps29
        go_wp2_with fail
        refine (rSizes_ok a b _ hs).mono ?_
        rintro e w1 ⟨A, cc, rfl, hown, hb1⟩
        obtain ⟨g, cap, hv, hbg, hltg⟩ := hown.form (by omega)
        have hA2 : A = some ⟨g, 0, none⟩ := by injection hv
        subst hA2
        have hat := cel_at (szs a b (levN a b)) p (by simpa using hpp)
        rw [szs_at] at hat
        have hlx : w1.cell? ⟨g, p * 2, none⟩ = some (.int .i64 (halfZ a p)) := by
          have := hown.cells (g := g) rfl _ _ hat.1
          rwa [add_plain, Nat.zero_add] at this
        have hly : w1.cell? ⟨g, p * 2 + 1, none⟩ = some (.int .i64 (halfZ b p)) := by
          have := hown.cells (g := g) rfl _ _ hat.2
          rwa [add_plain, Nat.zero_add] at this
        have hx1 := bel_cell hb1 _ _ (by simp) hcx
        have hy1 := bel_cell hb1 _ _ (by simp) hcy
        have HB : Below w.heap.size w w1 := ((Below.refl _ _).alloc (Nat.le_refl _) _).trans (hb1.mono (by simp))
        clear hat hown hv hb1 hcx hcy hbg hltg
        have j1 : (0 : Int) ≤ (p : Int) := by omega
        have j2 : (p : Int) < (levN a b : Int) := by omega
        have d0 : decide (x < 0) = false := by simp; omega
        have d1 : decide (y < 0) = false := by simp; omega
        have d2 : decide (halfZ a p ≤ x) = false := by simp; omega
        have d3 : decide (halfZ b p ≤ y) = false := by simp; omega
        go_wp2_with fail
        go_quiet (fail)
        go_wp2_with fail
        go_ret
        exact ⟨rfl, bel_drewN HB _⟩
  · have e : mayZ a b k p x y = 3 := by unfold mayZ; rw [if_pos hs]
    rw [e]
    clear e
    go_enter Try.func29, Try.ntmps29
    go_wp2_with fail
    refine (rSizes_bad a b _ hs).mono ?_
    rintro e w1 ⟨rfl, rfl⟩
    go_wp2_with fail
    go_ret
    exact ⟨rfl, (Below.refl _ _).alloc (Nat.le_refl _) _⟩
end Go.Proofs.Ytgelgkgmgjhmnaa
