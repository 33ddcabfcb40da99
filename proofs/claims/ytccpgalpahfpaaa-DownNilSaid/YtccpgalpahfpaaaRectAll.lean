/-
  rect.Within, rect.Right, rect.Area, rect.width, rect.floor, rect.Nth.
-/
import Derived.Test.YtccpgalpahfpaaaRect
import Derived.Test.YtccpgalpahfpaaaBlk
import Derived.Deep.QuietTactic
import Derived.BigQuiet
import Derived.Deep.RegionHeld3
import Derived.Laws.BitsAllLaws
namespace Go.Proofs.Ytccpgalpahfpaaa
open Go.RowKit
set_option linter.unusedVariables false
set_option linter.unusedSimpArgs false

instance (a b : Int) : Decidable (SizeOk a b) := by unfold SizeOk; infer_instance
/-- a rectangle as a value, a cell as a value -/
abbrev rectV (x0 y0 x1 y1 : Int) : Value := .agg #[.int .i64 x0, .int .i64 y0, .int .i64 x1, .int .i64 y1]
abbrev cellV (x y : Int) : Value := .agg #[.int .i64 x, .int .i64 y]
/-- it returns v, and what there was stays -/
def Ret (v : Value) (w : World) (e : Ending) (w' : World) : Prop := e = .returned v ∧ Below w.heap.size w w'

/-- all corners in a grid of a size -/
def InP (x0 y0 x1 y1 a b : Int) : Prop := 0 ≤ x0 ∧ x0 < a ∧ 0 ≤ x1 ∧ x1 < a ∧ 0 ≤ y0 ∧ y0 < b ∧ 0 ≤ y1 ∧ y1 < b
instance (x0 y0 x1 y1 a b : Int) : Decidable (InP x0 y0 x1 y1 a b) := by unfold InP; infer_instance
/-- the code of a rectangle -/
def withinZ (x0 y0 x1 y1 a b : Int) : Int := if ¬ SizeOk a b then 3 else if ¬ InP x0 y0 x1 y1 a b then 4 else if x1 < x0 ∨ y1 < y0 then 5 else 0

theorem bcell {W w1 : World} (hb : Below W.heap.size W w1) : (∀ b o, b < W.heap.size → w1.cell? ⟨b, o, none⟩ = W.cell? ⟨b, o, none⟩) ∧ (∀ b o, b < W.heap.size → w1.frozen? ⟨b, o, none⟩ = W.frozen? ⟨b, o, none⟩) :=
  ⟨fun b o h => hb.cell (p := ⟨b, o, none⟩) h, fun b o h => hb.frozen (p := ⟨b, o, none⟩) h⟩

set_option maxHeartbeats 2000000 in
theorem Within_any (x0 y0 x1 y1 a b : Int) (w : World) (ha : -9223372036854775808 ≤ a) (ha' : a ≤ 9223372036854775807) (hb : -9223372036854775808 ≤ b) (hb' : b ≤ 9223372036854775807) :
    Calls Try.prog 71 #[.agg #[.int .i64 x0, .int .i64 y0, .int .i64 x1, .int .i64 y1], .int .i64 a, .int .i64 b] w (Ret (.int .i64 (withinZ x0 y0 x1 y1 a b)) w) := by
  by_cases hs : SizeOk a b
  · obtain ⟨s1, s2, s3, s4⟩ := id hs
    by_cases hi : InP x0 y0 x1 y1 a b
    · obtain ⟨i1, i2, i3, i4, i5, i6, i7, i8⟩ := id hi
      rcases (show x1 < x0 ∨ (x0 ≤ x1 ∧ y1 < y0) ∨ (x0 ≤ x1 ∧ y0 ≤ y1) from by omega) with c | c | c
      · have e : withinZ x0 y0 x1 y1 a b = 5 := by unfold withinZ; rw [if_neg (fun f => f hs), if_neg (fun f => f hi), if_pos (by omega)]
        rw [e]
        clear e hs hi
        go_enter Try.func71, Try.ntmps71
        go_wp2_with fail
        refine (inside_yes _ _ _ (by omega) (by omega)).mono ?_
        rintro e w1 ⟨rfl, rfl⟩
        go_wp2_with fail
        refine (inside_yes _ _ _ (by omega) (by omega)).mono ?_
        rintro e w1 ⟨rfl, rfl⟩
        go_wp2_with fail
        refine (inside_yes _ _ _ (by omega) (by omega)).mono ?_
        rintro e w1 ⟨rfl, rfl⟩
        go_wp2_with fail
        refine (inside_yes _ _ _ (by omega) (by omega)).mono ?_
        rintro e w1 ⟨rfl, rfl⟩
        go_wp2_with fail
        refine (inside_yes _ _ _ (by omega) (by omega)).mono ?_
        rintro e w1 ⟨rfl, rfl⟩
        go_wp2_with fail
        refine (inside_yes _ _ _ (by omega) (by omega)).mono ?_
        rintro e w1 ⟨rfl, rfl⟩
        go_wp2_with fail
        go_ret
        exact ⟨rfl, (Below.refl _ _).alloc (Nat.le_refl _) _⟩
      · have e : withinZ x0 y0 x1 y1 a b = 5 := by unfold withinZ; rw [if_neg (fun f => f hs), if_neg (fun f => f hi), if_pos (by omega)]
        rw [e]
        clear e hs hi
        go_enter Try.func71, Try.ntmps71
        go_wp2_with fail
        refine (inside_yes _ _ _ (by omega) (by omega)).mono ?_
        rintro e w1 ⟨rfl, rfl⟩
        go_wp2_with fail
        refine (inside_yes _ _ _ (by omega) (by omega)).mono ?_
        rintro e w1 ⟨rfl, rfl⟩
        go_wp2_with fail
        refine (inside_yes _ _ _ (by omega) (by omega)).mono ?_
        rintro e w1 ⟨rfl, rfl⟩
        go_wp2_with fail
        refine (inside_yes _ _ _ (by omega) (by omega)).mono ?_
        rintro e w1 ⟨rfl, rfl⟩
        go_wp2_with fail
        refine (inside_yes _ _ _ (by omega) (by omega)).mono ?_
        rintro e w1 ⟨rfl, rfl⟩
        go_wp2_with fail
        refine (inside_yes _ _ _ (by omega) (by omega)).mono ?_
        rintro e w1 ⟨rfl, rfl⟩
        go_wp2_with fail
        go_ret
        exact ⟨rfl, (Below.refl _ _).alloc (Nat.le_refl _) _⟩
      · have e : withinZ x0 y0 x1 y1 a b = 0 := by unfold withinZ; rw [if_neg (fun f => f hs), if_neg (fun f => f hi), if_neg (by omega)]
        rw [e]
        clear e hs hi
        go_enter Try.func71, Try.ntmps71
        go_wp2_with fail
        refine (inside_yes _ _ _ (by omega) (by omega)).mono ?_
        rintro e w1 ⟨rfl, rfl⟩
        go_wp2_with fail
        refine (inside_yes _ _ _ (by omega) (by omega)).mono ?_
        rintro e w1 ⟨rfl, rfl⟩
        go_wp2_with fail
        refine (inside_yes _ _ _ (by omega) (by omega)).mono ?_
        rintro e w1 ⟨rfl, rfl⟩
        go_wp2_with fail
        refine (inside_yes _ _ _ (by omega) (by omega)).mono ?_
        rintro e w1 ⟨rfl, rfl⟩
        go_wp2_with fail
        refine (inside_yes _ _ _ (by omega) (by omega)).mono ?_
        rintro e w1 ⟨rfl, rfl⟩
        go_wp2_with fail
        refine (inside_yes _ _ _ (by omega) (by omega)).mono ?_
        rintro e w1 ⟨rfl, rfl⟩
        go_wp2_with fail
        go_ret
        exact ⟨rfl, (Below.refl _ _).alloc (Nat.le_refl _) _⟩
    · have e : withinZ x0 y0 x1 y1 a b = 4 := by unfold withinZ; rw [if_neg (fun f => f hs), if_pos hi]
      rw [e]
      clear e hs
      unfold InP at hi
      by_cases c1 : 0 ≤ x0 ∧ x0 < a
      · by_cases c2 : 0 ≤ x1 ∧ x1 < a
        · by_cases c3 : 0 ≤ y0 ∧ y0 < b
          · obtain ⟨c11, c12⟩ := c1
            obtain ⟨c21, c22⟩ := c2
            obtain ⟨c31, c32⟩ := c3
            have c4 : y1 < 0 ∨ b ≤ y1 := by omega
            clear hi
            go_enter Try.func71, Try.ntmps71
            go_wp2_with fail
            refine (inside_yes _ _ _ (by omega) (by omega)).mono ?_
            rintro e w1 ⟨rfl, rfl⟩
            go_wp2_with fail
            refine (inside_yes _ _ _ (by omega) (by omega)).mono ?_
            rintro e w1 ⟨rfl, rfl⟩
            go_wp2_with fail
            refine (inside_yes _ _ _ (by omega) (by omega)).mono ?_
            rintro e w1 ⟨rfl, rfl⟩
            go_wp2_with fail
            refine (inside_yes _ _ _ (by omega) (by omega)).mono ?_
            rintro e w1 ⟨rfl, rfl⟩
            go_wp2_with fail
            refine (inside_yes _ _ _ (by omega) (by omega)).mono ?_
            rintro e w1 ⟨rfl, rfl⟩
            go_wp2_with fail
            refine (inside_no _ _ _ (by first | omega | (simp only [wrap64]; omega))).mono ?_
            rintro e w1 ⟨rfl, rfl⟩
            go_wp2_with fail
            go_ret
            exact ⟨rfl, (Below.refl _ _).alloc (Nat.le_refl _) _⟩
          · obtain ⟨c11, c12⟩ := c1
            obtain ⟨c21, c22⟩ := c2
            have c4 : y0 < 0 ∨ b ≤ y0 := by omega
            clear hi c3
            go_enter Try.func71, Try.ntmps71
            go_wp2_with fail
            refine (inside_yes _ _ _ (by omega) (by omega)).mono ?_
            rintro e w1 ⟨rfl, rfl⟩
            go_wp2_with fail
            refine (inside_yes _ _ _ (by omega) (by omega)).mono ?_
            rintro e w1 ⟨rfl, rfl⟩
            go_wp2_with fail
            refine (inside_yes _ _ _ (by omega) (by omega)).mono ?_
            rintro e w1 ⟨rfl, rfl⟩
            go_wp2_with fail
            refine (inside_yes _ _ _ (by omega) (by omega)).mono ?_
            rintro e w1 ⟨rfl, rfl⟩
            go_wp2_with fail
            refine (inside_no _ _ _ (by first | omega | (simp only [wrap64]; omega))).mono ?_
            rintro e w1 ⟨rfl, rfl⟩
            go_wp2_with fail
            go_ret
            exact ⟨rfl, (Below.refl _ _).alloc (Nat.le_refl _) _⟩
        · obtain ⟨c11, c12⟩ := c1
          have c4 : x1 < 0 ∨ a ≤ x1 := by omega
          clear hi c2
          go_enter Try.func71, Try.ntmps71
          go_wp2_with fail
          refine (inside_yes _ _ _ (by omega) (by omega)).mono ?_
          rintro e w1 ⟨rfl, rfl⟩
          go_wp2_with fail
          refine (inside_yes _ _ _ (by omega) (by omega)).mono ?_
          rintro e w1 ⟨rfl, rfl⟩
          go_wp2_with fail
          refine (inside_yes _ _ _ (by omega) (by omega)).mono ?_
          rintro e w1 ⟨rfl, rfl⟩
          go_wp2_with fail
          refine (inside_no _ _ _ (by first | omega | (simp only [wrap64]; omega))).mono ?_
          rintro e w1 ⟨rfl, rfl⟩
          go_wp2_with fail
          go_ret
          exact ⟨rfl, (Below.refl _ _).alloc (Nat.le_refl _) _⟩
      · have c4 : x0 < 0 ∨ a ≤ x0 := by omega
        clear hi c1
        go_enter Try.func71, Try.ntmps71
        go_wp2_with fail
        refine (inside_yes _ _ _ (by omega) (by omega)).mono ?_
        rintro e w1 ⟨rfl, rfl⟩
        go_wp2_with fail
        refine (inside_yes _ _ _ (by omega) (by omega)).mono ?_
        rintro e w1 ⟨rfl, rfl⟩
        go_wp2_with fail
        refine (inside_no _ _ _ (by first | omega | (simp only [wrap64]; omega))).mono ?_
        rintro e w1 ⟨rfl, rfl⟩
        go_wp2_with fail
        go_ret
        exact ⟨rfl, (Below.refl _ _).alloc (Nat.le_refl _) _⟩
  · have e : withinZ x0 y0 x1 y1 a b = 3 := by unfold withinZ; rw [if_pos hs]
    rw [e]
    clear e
    unfold SizeOk at hs
    rcases (show a = -9223372036854775808 ∨ (-9223372036854775808 < a ∧ (a < 1 ∨ 1024 < a)) ∨ (1 ≤ a ∧ a ≤ 1024 ∧ b = -9223372036854775808) ∨ (1 ≤ a ∧ a ≤ 1024 ∧ -9223372036854775808 < b ∧ (b < 1 ∨ 1024 < b)) from by omega) with rfl | ⟨c1, c2⟩ | ⟨c1, c2, rfl⟩ | ⟨c1, c2, c3, c4⟩
    · clear hs
      go_enter Try.func71, Try.ntmps71
      go_wp2_with fail
      refine (inside_no _ _ _ (by first | omega | (simp only [wrap64]; omega))).mono ?_
      rintro e w1 ⟨rfl, rfl⟩
      go_wp2_with fail
      go_ret
      exact ⟨rfl, (Below.refl _ _).alloc (Nat.le_refl _) _⟩
    · clear hs
      go_enter Try.func71, Try.ntmps71
      go_wp2_with fail
      refine (inside_no _ _ _ (by first | omega | (simp only [wrap64]; omega))).mono ?_
      rintro e w1 ⟨rfl, rfl⟩
      go_wp2_with fail
      go_ret
      exact ⟨rfl, (Below.refl _ _).alloc (Nat.le_refl _) _⟩
    · clear hs
      go_enter Try.func71, Try.ntmps71
      go_wp2_with fail
      refine (inside_yes _ _ _ (by omega) (by omega)).mono ?_
      rintro e w1 ⟨rfl, rfl⟩
      go_wp2_with fail
      refine (inside_no _ _ _ (by first | omega | (simp only [wrap64]; omega))).mono ?_
      rintro e w1 ⟨rfl, rfl⟩
      go_wp2_with fail
      go_ret
      exact ⟨rfl, (Below.refl _ _).alloc (Nat.le_refl _) _⟩
    · clear hs
      go_enter Try.func71, Try.ntmps71
      go_wp2_with fail
      refine (inside_yes _ _ _ (by omega) (by omega)).mono ?_
      rintro e w1 ⟨rfl, rfl⟩
      go_wp2_with fail
      refine (inside_no _ _ _ (by first | omega | (simp only [wrap64]; omega))).mono ?_
      rintro e w1 ⟨rfl, rfl⟩
      go_wp2_with fail
      go_ret
      exact ⟨rfl, (Below.refl _ _).alloc (Nat.le_refl _) _⟩

theorem within_zero {x0 y0 x1 y1 a b : Int} (h : withinZ x0 y0 x1 y1 a b = 0) : SizeOk a b ∧ 0 ≤ x0 ∧ x0 ≤ x1 ∧ x1 < a ∧ 0 ≤ y0 ∧ y0 ≤ y1 ∧ y1 < b := by
  unfold withinZ at h
  split at h
  · omega
  · rename_i h1
    split at h
    · omega
    · rename_i h2
      split at h
      · omega
      · have h2' : InP x0 y0 x1 y1 a b := by simpa using h2
        obtain ⟨i1, i2, i3, i4, i5, i6, i7, i8⟩ := h2'
        exact ⟨by simpa using h1, by omega, by omega, by omega, by omega, by omega, by omega⟩
theorem within_of {x0 y0 x1 y1 a b : Int} (hs : SizeOk a b) (h1 : 0 ≤ x0) (h2 : x0 ≤ x1) (h3 : x1 < a) (h4 : 0 ≤ y0) (h5 : y0 ≤ y1) (h6 : y1 < b) : withinZ x0 y0 x1 y1 a b = 0 := by
  unfold withinZ
  rw [if_neg (fun f => f hs), if_neg (fun f => f ⟨h1, by omega, by omega, h3, h4, by omega, by omega, h6⟩), if_neg (by omega)]

/-- a rectangle that is right, as a bool -/
def rightB (x0 y0 x1 y1 : Int) : Bool := withinZ x0 y0 x1 y1 1024 1024 == 0
theorem Right_any (x0 y0 x1 y1 : Int) (w : World) : Calls Try.prog 76 #[rectV x0 y0 x1 y1] w (Ret (.bool (rightB x0 y0 x1 y1)) w) := by
  go_enter Try.func76, Try.ntmps76
  go_wp2_with fail
  refine (Within_any x0 y0 x1 y1 _ _ _ (by omega) (by omega) (by omega) (by omega)).mono ?_
  rintro e w1 ⟨rfl, hb1⟩
  go_wp2_with fail
  go_ret
  exact ⟨rfl, ((Below.refl _ _).alloc (Nat.le_refl _) _).trans (hb1.mono (by simp))⟩
theorem right_iff (x0 y0 x1 y1 : Int) : rightB x0 y0 x1 y1 = true ↔ (0 ≤ x0 ∧ x0 ≤ x1 ∧ x1 < 1024 ∧ 0 ≤ y0 ∧ y0 ≤ y1 ∧ y1 < 1024) := by
  unfold rightB
  rw [beq_iff_eq]
  constructor
  · intro h
    exact (within_zero h).2
  · rintro ⟨h1, h2, h3, h4, h5, h6⟩
    exact within_of ⟨by omega, by omega, by omega, by omega⟩ h1 h2 h3 h4 h5 h6

theorem width_any (x0 y0 x1 y1 : Int) (w : World) (h1 : 0 ≤ x0) (h2 : x0 ≤ x1) (h3 : x1 < 1024) : Calls Try.prog 84 #[rectV x0 y0 x1 y1] w (Ret (.int .i64 (x1 - x0 + 1)) w) := by
  go_enter Try.func84, Try.ntmps84
  go_wp2_with fail
  go_ret
  exact ⟨rfl, (Below.refl _ _).alloc (Nat.le_refl _) _⟩
end Go.Proofs.Ytccpgalpahfpaaa
