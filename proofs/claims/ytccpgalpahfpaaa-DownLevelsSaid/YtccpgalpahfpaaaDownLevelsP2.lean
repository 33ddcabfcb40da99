/-
  Part 2 of the proof of the statement DownLevels: the texts RectAll, RectMore, Slab, ShelfMul, Repeat, Rough, FlatAgain, SlabAt, SlabFill, SlabPartT, SlabPartF, SlabFillAll, Pieces, Grid, GridNew, GridPlain, GridFill, GridRead, MayV.
-/
import Derived.Deep.QuietTactic
import Derived.BigQuiet
import Derived.Deep.RegionHeld3
import Derived.Laws.BitsAllLaws
import Derived.Shelf.Bits.Mul64
import Derived.Test.YtccpgalpahfpaaaProg
import Derived.Laws.CopyOwn
import Derived.Deep.DeepCutAuto
import Derived.Test.YtccpgalpahfpaaaDownLevelsP1
/-
  rect.Within, rect.Right, rect.Area, rect.width, rect.floor, rect.Nth.
-/
namespace Go.Proofs.Ytccpgalpahfpaaa
open Go.RowKit
set_option linter.unusedVariables false
set_option linter.unusedSimpArgs false

instance (a b : Int) : Decidable (SizeOk a b) := by unfold SizeOk; infer_instance
/-- a rectangle as a value, a cell as a value -/
abbrev rectV (x0 y0 x1 y1 : Int) : Value := .agg #[.int .i64 x0, .int .i64 y0, .int .i64 x1, .int .i64 y1]
abbrev cellV (x y : Int) : Value := .agg #[.int .i64 x, .int .i64 y]
/-- it returns v, and what there was stays -/
def Ret (v : Value) (w : World) (e : Ending) (w' : World) : Prop := e = .returned v ∧ Below w.heap.size w w'

/-- all corners in a grid of a size -/
def InP (x0 y0 x1 y1 a b : Int) : Prop := 0 ≤ x0 ∧ x0 < a ∧ 0 ≤ x1 ∧ x1 < a ∧ 0 ≤ y0 ∧ y0 < b ∧ 0 ≤ y1 ∧ y1 < b
instance (x0 y0 x1 y1 a b : Int) : Decidable (InP x0 y0 x1 y1 a b) := by unfold InP; infer_instance
/-- the code of a rectangle -/
def withinZ (x0 y0 x1 y1 a b : Int) : Int := if ¬ SizeOk a b then 3 else if ¬ InP x0 y0 x1 y1 a b then 4 else if x1 < x0 ∨ y1 < y0 then 5 else 0

theorem bcell {W w1 : World} (hb : Below W.heap.size W w1) : (∀ b o, b < W.heap.size → w1.cell? ⟨b, o, none⟩ = W.cell? ⟨b, o, none⟩) ∧ (∀ b o, b < W.heap.size → w1.frozen? ⟨b, o, none⟩ = W.frozen? ⟨b, o, none⟩) :=
  ⟨fun b o h => hb.cell (p := ⟨b, o, none⟩) h, fun b o h => hb.frozen (p := ⟨b, o, none⟩) h⟩

set_option maxHeartbeats 2000000 in
theorem Within_any (x0 y0 x1 y1 a b : Int) (w : World) (ha : -9223372036854775808 ≤ a) (ha' : a ≤ 9223372036854775807) (hb : -9223372036854775808 ≤ b) (hb' : b ≤ 9223372036854775807) :
    Calls Try.prog 71 #[.agg #[.int .i64 x0, .int .i64 y0, .int .i64 x1, .int .i64 y1], .int .i64 a, .int .i64 b] w (Ret (.int .i64 (withinZ x0 y0 x1 y1 a b)) w) := by
  by_cases hs : SizeOk a b
  · obtain ⟨s1, s2, s3, s4⟩ := id hs
    by_cases hi : InP x0 y0 x1 y1 a b
    · obtain ⟨i1, i2, i3, i4, i5, i6, i7, i8⟩ := id hi
      rcases (show x1 < x0 ∨ (x0 ≤ x1 ∧ y1 < y0) ∨ (x0 ≤ x1 ∧ y0 ≤ y1) from by omega) with c | c | c
      · have e : withinZ x0 y0 x1 y1 a b = 5 := by unfold withinZ; rw [if_neg (fun f => f hs), if_neg (fun f => f hi), if_pos (by omega)]
        rw [e]
        clear e hs hi
        go_enter Try.func71, Try.ntmps71
        go_wp2_with fail
        refine (inside_yes _ _ _ (by omega) (by omega)).mono ?_
        rintro e w1 ⟨rfl, rfl⟩
        go_wp2_with fail
        refine (inside_yes _ _ _ (by omega) (by omega)).mono ?_
        rintro e w1 ⟨rfl, rfl⟩
        go_wp2_with fail
        refine (inside_yes _ _ _ (by omega) (by omega)).mono ?_
        rintro e w1 ⟨rfl, rfl⟩
        go_wp2_with fail
        refine (inside_yes _ _ _ (by omega) (by omega)).mono ?_
        rintro e w1 ⟨rfl, rfl⟩
        go_wp2_with fail
        refine (inside_yes _ _ _ (by omega) (by omega)).mono ?_
        rintro e w1 ⟨rfl, rfl⟩
        go_wp2_with fail
        refine (inside_yes _ _ _ (by omega) (by omega)).mono ?_
        rintro e w1 ⟨rfl, rfl⟩
        go_wp2_with fail
        go_ret
        exact ⟨rfl, (Below.refl _ _).alloc (Nat.le_refl _) _⟩
      · have e : withinZ x0 y0 x1 y1 a b = 5 := by unfold withinZ; rw [if_neg (fun f => f hs), if_neg (fun f => f hi), if_pos (by omega)]
        rw [e]
        clear e hs hi
        go_enter Try.func71, Try.ntmps71
        go_wp2_with fail
        refine (inside_yes _ _ _ (by omega) (by omega)).mono ?_
        rintro e w1 ⟨rfl, rfl⟩
        go_wp2_with fail
        refine (inside_yes _ _ _ (by omega) (by omega)).mono ?_
        rintro e w1 ⟨rfl, rfl⟩
        go_wp2_with fail
        refine (inside_yes _ _ _ (by omega) (by omega)).mono ?_
        rintro e w1 ⟨rfl, rfl⟩
        go_wp2_with fail
        refine (inside_yes _ _ _ (by omega) (by omega)).mono ?_
        rintro e w1 ⟨rfl, rfl⟩
        go_wp2_with fail
        refine (inside_yes _ _ _ (by omega) (by omega)).mono ?_
        rintro e w1 ⟨rfl, rfl⟩
        go_wp2_with fail
        refine (inside_yes _ _ _ (by omega) (by omega)).mono ?_
        rintro e w1 ⟨rfl, rfl⟩
        go_wp2_with fail
        go_ret
        exact ⟨rfl, (Below.refl _ _).alloc (Nat.le_refl _) _⟩
      · have e : withinZ x0 y0 x1 y1 a b = 0 := by unfold withinZ; rw [if_neg (fun f => f hs), if_neg (fun f => f hi), if_neg (by omega)]
        rw [e]
        clear e hs hi
        go_enter Try.func71, Try.ntmps71
        go_wp2_with fail
        refine (inside_yes _ _ _ (by omega) (by omega)).mono ?_
        rintro e w1 ⟨rfl, rfl⟩
        go_wp2_with fail
        refine (inside_yes _ _ _ (by omega) (by omega)).mono ?_
        rintro e w1 ⟨rfl, rfl⟩
        go_wp2_with fail
        refine (inside_yes _ _ _ (by omega) (by omega)).mono ?_
        rintro e w1 ⟨rfl, rfl⟩
        go_wp2_with fail
        refine (inside_yes _ _ _ (by omega) (by omega)).mono ?_
        rintro e w1 ⟨rfl, rfl⟩
        go_wp2_with fail
        refine (inside_yes _ _ _ (by omega) (by omega)).mono ?_
        rintro e w1 ⟨rfl, rfl⟩
        go_wp2_with fail
        refine (inside_yes _ _ _ (by omega) (by omega)).mono ?_
        rintro e w1 ⟨rfl, rfl⟩
        go_wp2_with fail
        go_ret
        exact ⟨rfl, (Below.refl _ _).alloc (Nat.le_refl _) _⟩
    · have e : withinZ x0 y0 x1 y1 a b = 4 := by unfold withinZ; rw [if_neg (fun f => f hs), if_pos hi]
      rw [e]
      clear e hs
      unfold InP at hi
      by_cases c1 : 0 ≤ x0 ∧ x0 < a
      · by_cases c2 : 0 ≤ x1 ∧ x1 < a
        · by_cases c3 : 0 ≤ y0 ∧ y0 < b
          · obtain ⟨c11, c12⟩ := c1
            obtain ⟨c21, c22⟩ := c2
            obtain ⟨c31, c32⟩ := c3
            have c4 : y1 < 0 ∨ b ≤ y1 := by omega
            clear hi
            go_enter Try.func71, Try.ntmps71
            go_wp2_with fail
            refine (inside_yes _ _ _ (by omega) (by omega)).mono ?_
            rintro e w1 ⟨rfl, rfl⟩
            go_wp2_with fail
            refine (inside_yes _ _ _ (by omega) (by omega)).mono ?_
            rintro e w1 ⟨rfl, rfl⟩
            go_wp2_with fail
            refine (inside_yes _ _ _ (by omega) (by omega)).mono ?_
            rintro e w1 ⟨rfl, rfl⟩
            go_wp2_with fail
            refine (inside_yes _ _ _ (by omega) (by omega)).mono ?_
            rintro e w1 ⟨rfl, rfl⟩
            go_wp2_with fail
            refine (inside_yes _ _ _ (by omega) (by omega)).mono ?_
            rintro e w1 ⟨rfl, rfl⟩
            go_wp2_with fail
            refine (inside_no _ _ _ (by first | omega | (simp only [wrap64]; omega))).mono ?_
            rintro e w1 ⟨rfl, rfl⟩
            go_wp2_with fail
            go_ret
            exact ⟨rfl, (Below.refl _ _).alloc (Nat.le_refl _) _⟩
          · obtain ⟨c11, c12⟩ := c1
            obtain ⟨c21, c22⟩ := c2
            have c4 : y0 < 0 ∨ b ≤ y0 := by omega
            clear hi c3
            go_enter Try.func71, Try.ntmps71
            go_wp2_with fail
            refine (inside_yes _ _ _ (by omega) (by omega)).mono ?_
            rintro e w1 ⟨rfl, rfl⟩
            go_wp2_with fail
            refine (inside_yes _ _ _ (by omega) (by omega)).mono ?_
            rintro e w1 ⟨rfl, rfl⟩
            go_wp2_with fail
            refine (inside_yes _ _ _ (by omega) (by omega)).mono ?_
            rintro e w1 ⟨rfl, rfl⟩
            go_wp2_with fail
            refine (inside_yes _ _ _ (by omega) (by omega)).mono ?_
            rintro e w1 ⟨rfl, rfl⟩
            go_wp2_with fail
            refine (inside_no _ _ _ (by first | omega | (simp only [wrap64]; omega))).mono ?_
            rintro e w1 ⟨rfl, rfl⟩
            go_wp2_with fail
            go_ret
            exact ⟨rfl, (Below.refl _ _).alloc (Nat.le_refl _) _⟩
        · obtain ⟨c11, c12⟩ := c1
          have c4 : x1 < 0 ∨ a ≤ x1 := by omega
          clear hi c2
          go_enter Try.func71, Try.ntmps71
          go_wp2_with fail
          refine (inside_yes _ _ _ (by omega) (by omega)).mono ?_
          rintro e w1 ⟨rfl, rfl⟩
          go_wp2_with fail
          refine (inside_yes _ _ _ (by omega) (by omega)).mono ?_
          rintro e w1 ⟨rfl, rfl⟩
          go_wp2_with fail
          refine (inside_yes _ _ _ (by omega) (by omega)).mono ?_
          rintro e w1 ⟨rfl, rfl⟩
          go_wp2_with fail
          refine (inside_no _ _ _ (by first | omega | (simp only [wrap64]; omega))).mono ?_
          rintro e w1 ⟨rfl, rfl⟩
          go_wp2_with fail
          go_ret
          exact ⟨rfl, (Below.refl _ _).alloc (Nat.le_refl _) _⟩
      · have c4 : x0 < 0 ∨ a ≤ x0 := by omega
        clear hi c1
        go_enter Try.func71, Try.ntmps71
        go_wp2_with fail
        refine (inside_yes _ _ _ (by omega) (by omega)).mono ?_
        rintro e w1 ⟨rfl, rfl⟩
        go_wp2_with fail
        refine (inside_yes _ _ _ (by omega) (by omega)).mono ?_
        rintro e w1 ⟨rfl, rfl⟩
        go_wp2_with fail
        refine (inside_no _ _ _ (by first | omega | (simp only [wrap64]; omega))).mono ?_
        rintro e w1 ⟨rfl, rfl⟩
        go_wp2_with fail
        go_ret
        exact ⟨rfl, (Below.refl _ _).alloc (Nat.le_refl _) _⟩
  · have e : withinZ x0 y0 x1 y1 a b = 3 := by unfold withinZ; rw [if_pos hs]
    rw [e]
    clear e
    unfold SizeOk at hs
    rcases (show a = -9223372036854775808 ∨ (-9223372036854775808 < a ∧ (a < 1 ∨ 1024 < a)) ∨ (1 ≤ a ∧ a ≤ 1024 ∧ b = -9223372036854775808) ∨ (1 ≤ a ∧ a ≤ 1024 ∧ -9223372036854775808 < b ∧ (b < 1 ∨ 1024 < b)) from by omega) with rfl | ⟨c1, c2⟩ | ⟨c1, c2, rfl⟩ | ⟨c1, c2, c3, c4⟩
    · clear hs
      go_enter Try.func71, Try.ntmps71
      go_wp2_with fail
      refine (inside_no _ _ _ (by first | omega | (simp only [wrap64]; omega))).mono ?_
      rintro e w1 ⟨rfl, rfl⟩
      go_wp2_with fail
      go_ret
      exact ⟨rfl, (Below.refl _ _).alloc (Nat.le_refl _) _⟩
    · clear hs
      go_enter Try.func71, Try.ntmps71
      go_wp2_with fail
      refine (inside_no _ _ _ (by first | omega | (simp only [wrap64]; omega))).mono ?_
      rintro e w1 ⟨rfl, rfl⟩
      go_wp2_with fail
      go_ret
      exact ⟨rfl, (Below.refl _ _).alloc (Nat.le_refl _) _⟩
    · clear hs
      go_enter Try.func71, Try.ntmps71
      go_wp2_with fail
      refine (inside_yes _ _ _ (by omega) (by omega)).mono ?_
      rintro e w1 ⟨rfl, rfl⟩
      go_wp2_with fail
      refine (inside_no _ _ _ (by first | omega | (simp only [wrap64]; omega))).mono ?_
      rintro e w1 ⟨rfl, rfl⟩
      go_wp2_with fail
      go_ret
      exact ⟨rfl, (Below.refl _ _).alloc (Nat.le_refl _) _⟩
    · clear hs
      go_enter Try.func71, Try.ntmps71
      go_wp2_with fail
      refine (inside_yes _ _ _ (by omega) (by omega)).mono ?_
      rintro e w1 ⟨rfl, rfl⟩
      go_wp2_with fail
      refine (inside_no _ _ _ (by first | omega | (simp only [wrap64]; omega))).mono ?_
      rintro e w1 ⟨rfl, rfl⟩
      go_wp2_with fail
      go_ret
      exact ⟨rfl, (Below.refl _ _).alloc (Nat.le_refl _) _⟩

theorem within_zero {x0 y0 x1 y1 a b : Int} (h : withinZ x0 y0 x1 y1 a b = 0) : SizeOk a b ∧ 0 ≤ x0 ∧ x0 ≤ x1 ∧ x1 < a ∧ 0 ≤ y0 ∧ y0 ≤ y1 ∧ y1 < b := by
  unfold withinZ at h
  split at h
  · omega
  · rename_i h1
    split at h
    · omega
    · rename_i h2
      split at h
      · omega
      · have h2' : InP x0 y0 x1 y1 a b := by simpa using h2
        obtain ⟨i1, i2, i3, i4, i5, i6, i7, i8⟩ := h2'
        exact ⟨by simpa using h1, by omega, by omega, by omega, by omega, by omega, by omega⟩
theorem within_of {x0 y0 x1 y1 a b : Int} (hs : SizeOk a b) (h1 : 0 ≤ x0) (h2 : x0 ≤ x1) (h3 : x1 < a) (h4 : 0 ≤ y0) (h5 : y0 ≤ y1) (h6 : y1 < b) : withinZ x0 y0 x1 y1 a b = 0 := by
  unfold withinZ
  rw [if_neg (fun f => f hs), if_neg (fun f => f ⟨h1, by omega, by omega, h3, h4, by omega, by omega, h6⟩), if_neg (by omega)]

/-- a rectangle that is right, as a bool -/
def rightB (x0 y0 x1 y1 : Int) : Bool := withinZ x0 y0 x1 y1 1024 1024 == 0
theorem Right_any (x0 y0 x1 y1 : Int) (w : World) : Calls Try.prog 76 #[rectV x0 y0 x1 y1] w (Ret (.bool (rightB x0 y0 x1 y1)) w) := by
  go_enter Try.func76, Try.ntmps76
  go_wp2_with fail
  refine (Within_any x0 y0 x1 y1 _ _ _ (by omega) (by omega) (by omega) (by omega)).mono ?_
  rintro e w1 ⟨rfl, hb1⟩
  go_wp2_with fail
  go_ret
  exact ⟨rfl, ((Below.refl _ _).alloc (Nat.le_refl _) _).trans (hb1.mono (by simp))⟩
theorem right_iff (x0 y0 x1 y1 : Int) : rightB x0 y0 x1 y1 = true ↔ (0 ≤ x0 ∧ x0 ≤ x1 ∧ x1 < 1024 ∧ 0 ≤ y0 ∧ y0 ≤ y1 ∧ y1 < 1024) := by
  unfold rightB
  rw [beq_iff_eq]
  constructor
  · intro h
    exact (within_zero h).2
  · rintro ⟨h1, h2, h3, h4, h5, h6⟩
    exact within_of ⟨by omega, by omega, by omega, by omega⟩ h1 h2 h3 h4 h5 h6

theorem width_any (x0 y0 x1 y1 : Int) (w : World) (h1 : 0 ≤ x0) (h2 : x0 ≤ x1) (h3 : x1 < 1024) : Calls Try.prog 84 #[rectV x0 y0 x1 y1] w (Ret (.int .i64 (x1 - x0 + 1)) w) := by
  go_enter Try.func84, Try.ntmps84
  go_wp2_with fail
  go_ret
  exact ⟨rfl, (Below.refl _ _).alloc (Nat.le_refl _) _⟩
end Go.Proofs.Ytccpgalpahfpaaa

/-
  rect.Area, rect.floor, rect.Nth.
-/
namespace Go.Proofs.Ytccpgalpahfpaaa
open Go.RowKit
set_option linter.unusedVariables false
set_option linter.unusedSimpArgs false

/-- how many cells a rectangle has -/
def areaZ (x0 y0 x1 y1 : Int) : Int := if rightB x0 y0 x1 y1 = true then (x1 - x0 + 1) * (y1 - y0 + 1) else 0

set_option maxHeartbeats 1000000 in
theorem Area_any (x0 y0 x1 y1 : Int) (w : World) : Calls Try.prog 58 #[rectV x0 y0 x1 y1] w (Ret (.int .i64 (areaZ x0 y0 x1 y1)) w) := by
  by_cases hr : rightB x0 y0 x1 y1 = true
  · have he : areaZ x0 y0 x1 y1 = (x1 - x0 + 1) * (y1 - y0 + 1) := by unfold areaZ; rw [if_pos hr]
    have HE := Lib.hid he
    obtain ⟨h1, h2, h3, h4, h5, h6⟩ := (right_iff _ _ _ _).1 hr
    have hm : 0 ≤ (x1 - x0 + 1) * (y1 - y0 + 1) ∧ (x1 - x0 + 1) * (y1 - y0 + 1) ≤ 1048576 := by
      refine ⟨Int.mul_nonneg (by omega) (by omega), ?_⟩
      have := Int.mul_le_mul (show x1 - x0 + 1 ≤ 1024 by omega) (show y1 - y0 + 1 ≤ 1024 by omega) (by omega) (by omega)
      omega
    obtain ⟨m1, m2⟩ := hm
    have hr' := fun W => Right_any x0 y0 x1 y1 W
    rw [hr] at hr'
    have HR := Lib.hid hr'
    clear he hr hr'
    go_enter Try.func58, Try.ntmps58
    go_wp2_with fail
    refine (HR.out _).mono ?_
    rintro e w1 ⟨rfl, hb1⟩
    have C := (box4_new w (.int .i64 x0) (.int .i64 y0) (.int .i64 x1) (.int .i64 y1) 45).bel hb1 (by simp)
    have hz : w.heap.size < w1.heap.size := by have := hb1.size; simp at this; omega
    have HB : Below w.heap.size w w1 := ((Below.refl _ _).alloc (Nat.le_refl _) _).trans (hb1.mono (by simp))
    clear hb1 HR
    go_wp2_with fail
    have HX := Below.refl w1.heap.size w1
    have W1 : IntKind.i64.wrap (y1 - y0) = y1 - y0 := IntWalk.i64_in _ (by omega)
    have W2 : IntKind.i64.wrap (y1 - y0 + 1) = y1 - y0 + 1 := IntWalk.i64_in _ (by omega)
    have W3 : IntKind.i64.wrap ((x1 - x0 + 1) * (y1 - y0 + 1)) = (x1 - x0 + 1) * (y1 - y0 + 1) := IntWalk.i64_in _ (by omega)
    go_region_held3 (fun W => W.cell? ⟨w.heap.size, 0, none⟩ = some (.int .i64 x0) ∧ W.cell? ⟨w.heap.size, 1, none⟩ = some (.int .i64 y0) ∧ W.cell? ⟨w.heap.size, 2, none⟩ = some (.int .i64 x1) ∧ W.cell? ⟨w.heap.size, 3, none⟩ = some (.int .i64 y1))
      (first | exact C | exact C.bel HX hz)
      ((go_at_call 84; refine (width_any x0 y0 x1 y1 _ h1 h2 h3).mono ?_; rintro e w2 ⟨rfl, hb2⟩; replace HX := bel_trans_drew HX hb2 (Nat.le_refl _)))
    go_wp2_with fail
    go_ret
    rw [Ret, HE.out]
    exact ⟨rfl, HB.trans (HX.mono (by omega))⟩
  · have he : areaZ x0 y0 x1 y1 = 0 := by unfold areaZ; rw [if_neg hr]
    rw [he]
    have hr' := fun W => Right_any x0 y0 x1 y1 W
    rw [show rightB x0 y0 x1 y1 = false by simpa using hr] at hr'
    have HR := Lib.hid hr'
    clear he hr hr'
    go_enter Try.func58, Try.ntmps58
    go_wp2_with fail
    refine (HR.out _).mono ?_
    rintro e w1 ⟨rfl, hb1⟩
    go_wp2_with fail
    go_ret
    exact ⟨rfl, ((Below.refl _ _).alloc (Nat.le_refl _) _).trans (hb1.mono (by simp))⟩

theorem floor_fin : ∀ n : Fin 1024, bits .andNot .i64 (n.val : Int) 15 = (n.val : Int) - (n.val : Int) % 16 := by decide +kernel
theorem floor_bits (n : Int) (h1 : 0 ≤ n) (h2 : n < 1024) : bits .andNot .i64 n 15 = n - n % 16 := by
  obtain ⟨m, rfl⟩ := Int.eq_ofNat_of_zero_le h1
  exact floor_fin ⟨m, by omega⟩
theorem floor_any (n : Int) (w : World) (h1 : 0 ≤ n) (h2 : n < 1024) : Calls Try.prog 77 #[.int .i64 n] w fun e w' => e = .returned (.int .i64 (n - n % 16)) ∧ w = w' := by
  go_enter Try.func77, Try.ntmps77
  go_wp2_with fail
  go_ret
  exact ⟨ret_int (floor_bits n h1 h2), rfl⟩

set_option maxHeartbeats 2000000 in
theorem Nth_n (x0 y0 x1 y1 i n : Int) (w : World) (HA : Hid (∀ W, Calls Try.prog 58 #[rectV x0 y0 x1 y1] W (Ret (.int .i64 (n * (y1 - y0 + 1))) W))) (HN : Hid (∀ W, Calls Try.prog 84 #[rectV x0 y0 x1 y1] W (Ret (.int .i64 n) W)))
    (h1 : 0 ≤ x0) (h2 : x0 < 1024) (h4 : 0 ≤ y0) (h5 : y0 < 1024) (hn : 1 ≤ n) (hn' : n ≤ 1024) (hi : 0 ≤ i) (hi' : i < n * (y1 - y0 + 1)) (him : i < 1048576) :
    Calls Try.prog 50 #[rectV x0 y0 x1 y1, .int .i64 i] w (Ret (.tuple #[cellV (x0 + i % n) (y0 + i / n), .bool true]) w) := by
  have q1 : 0 ≤ i % n := Int.emod_nonneg _ (by omega)
  have q2 : i % n < n := Int.emod_lt_of_pos _ (by omega)
  have q3 : 0 ≤ i / n := Int.ediv_nonneg hi (by omega)
  have q4 : i / n ≤ i := Int.ediv_le_self _ hi
  have hne : ¬ n = 0 := by omega
  go_enter Try.func50, Try.ntmps50
  go_wp2_with fail
  refine (HA.out _).mono ?_
  rintro e w1 ⟨rfl, hb1⟩
  have C := ((box4_new w (.int .i64 x0) (.int .i64 y0) (.int .i64 x1) (.int .i64 y1) 45).bel (new_bel _ _) (by simp)).bel hb1 (by simp; omega)
  have D : Box2 w1 (w.heap.size + 1) (.int .i64 0) (.int .i64 0) := by simpa using (box2_new (w.alloc (.cells #[.int .i64 x0, .int .i64 y0, .int .i64 x1, .int .i64 y1] 45)) (.int .i64 0) (.int .i64 0) 24).bel hb1 (by simp)
  have hz : w.heap.size + 1 < w1.heap.size := by have := hb1.size; simp at this; omega
  have HB : Below w.heap.size w w1 := (((Below.refl _ _).alloc (Nat.le_refl _) _).alloc (by simp) _).trans (hb1.mono (by simp; omega))
  have f0 : w1.frozen? ⟨w.heap.size + 1, 0, none⟩ = false := (hb1.frozen (by simp)).trans (by simp)
  have f1 : w1.frozen? ⟨w.heap.size + 1, 1, none⟩ = false := (hb1.frozen (by simp)).trans (by simp)
  clear hb1 HA
  go_wp2_with fail
  refine (inside_yes _ _ _ hi hi').mono ?_
  rintro e w2 ⟨rfl, rfl⟩
  go_wp2_with fail
  have W1 : IntKind.i64.wrap (x0 + i % n) = x0 + i % n := IntWalk.i64_in _ (by omega)
  have W2 : IntKind.i64.wrap (y0 + i / n) = y0 + i / n := IntWalk.i64_in _ (by omega)
  have W3 : i.tmod n = i % n := Int.tmod_eq_emod_of_nonneg hi
  have W4 : IntKind.i64.wrap (i.tdiv n) = i / n := IntWalk.i64_quo _ _ (by omega)
  have HX := Below.refl w1.heap.size w1
  go_region_held3 (fun W => (W.cell? ⟨w.heap.size, 0, none⟩ = some (.int .i64 x0) ∧ W.cell? ⟨w.heap.size, 1, none⟩ = some (.int .i64 y0) ∧ W.cell? ⟨w.heap.size, 2, none⟩ = some (.int .i64 x1) ∧ W.cell? ⟨w.heap.size, 3, none⟩ = some (.int .i64 y1)))
    (first | exact C | exact C.bel HX (by omega) | exact ((C.bel HX (by omega)).set_ _ (by simp)).set_ _ (by simp))
    ((go_at_call 84; refine (HN.out _).mono ?_; rintro e w2 ⟨rfl, hb2⟩; (first | replace HX := bel_trans HX hb2 (Nat.le_refl _) | replace HX := bel_trans_drew HX hb2 (Nat.le_refl _)); obtain ⟨dd0, dd1⟩ := D.bel HX (by omega); have ff0 := bel_froz HX _ (by simpa using hz) f0; have ff1 := bel_froz HX _ (by simpa using hz) f1))
  go_wp2_with fail
  refine bodyPost_ret (v := .tuple #[cellV (x0 + i % n) (y0 + i / n), .bool true]) (by simp [results, Try.results50, go_sem, dd0, dd1]) rfl ⟨rfl, ?_⟩
  exact ((HB.trans (HX.mono (by omega))).setCell (by simp) _).setCell (by simp) _

theorem Nth_ok (x0 y0 x1 y1 i : Int) (w : World) (hr : rightB x0 y0 x1 y1 = true) (hi : 0 ≤ i) (hi' : i < (x1 - x0 + 1) * (y1 - y0 + 1)) :
    Calls Try.prog 50 #[rectV x0 y0 x1 y1, .int .i64 i] w (Ret (.tuple #[cellV (x0 + i % (x1 - x0 + 1)) (y0 + i / (x1 - x0 + 1)), .bool true]) w) := by
  have hA := fun W => Area_any x0 y0 x1 y1 W
  have he : areaZ x0 y0 x1 y1 = (x1 - x0 + 1) * (y1 - y0 + 1) := by unfold areaZ; rw [if_pos hr]
  rw [he] at hA
  obtain ⟨h1, h2, h3, h4, h5, h6⟩ := (right_iff _ _ _ _).1 hr
  have hm : (x1 - x0 + 1) * (y1 - y0 + 1) ≤ 1048576 := by
    have := Int.mul_le_mul (show x1 - x0 + 1 ≤ 1024 by omega) (show y1 - y0 + 1 ≤ 1024 by omega) (by omega) (by omega)
    omega
  exact Nth_n x0 y0 x1 y1 i _ w (Lib.hid hA) (Lib.hid fun W => width_any x0 y0 x1 y1 W h1 h2 h3) h1 (by omega) h4 (by omega) (by omega) (by omega) hi hi' (by omega)
end Go.Proofs.Ytccpgalpahfpaaa

/-
  Slabs: what they are in memory; slab.may, tile.Right, slab.New, check, spot, At.
-/
namespace Go.Proofs.Ytccpgalpahfpaaa
open Go.RowKit
set_option linter.unusedVariables false
set_option linter.unusedSimpArgs false

/-- a row of int32 -/
def rowA (n : Nat) (g : Nat → Int) : Array Value := ((List.range n).map fun k => Value.int .i32 (g k)).toArray
theorem rowA_get (n : Nat) (g : Nat → Int) (i : Nat) (h : i < n) : (rowA n g)[i]? = some (.int .i32 (g i)) := by simp [rowA, h]
theorem rowA_size (n : Nat) (g : Nat → Int) : (rowA n g).size = n := by simp [rowA]
theorem rowA_congr {n : Nat} {g h : Nat → Int} (e : ∀ k, k < n → g k = h k) : rowA n g = rowA n h := by
  unfold rowA
  congr 1
  exact List.map_congr_left fun k hk => by rw [e k (by simpa using hk)]
theorem rowA_set (n : Nat) (g : Nat → Int) (i : Nat) (v : Int) : (rowA n g).setIfInBounds i (.int .i32 v) = rowA n (fun k => if k = i then v else g k) := by
  apply Array.ext_getElem?
  intro k
  rw [Array.getElem?_setIfInBounds]
  by_cases hk : k < n
  · rw [rowA_get _ _ _ hk, rowA_get _ _ _ hk, rowA_size]
    by_cases c : i = k
    · subst c; simp [hk]
    · rw [if_neg c, if_neg (fun e => c e.symm)]
  · rw [Array.getElem?_eq_none (by rw [rowA_size]; omega), Array.getElem?_eq_none (by rw [rowA_size]; omega), rowA_size]
    split
    · rw [if_neg (by omega)]
    · rfl

/-- a value that a cell may have -/
def MayV (v : Int) : Prop := -2147483648 ≤ v ∧ v ≤ 2147483647
instance (v : Int) : Decidable (MayV v) := by unfold MayV; infer_instance

/-- what a slab's cells are: one value, or a row of the block q -/
def Land (w : World) (n : Nat) (f : Nat → Int) : Option Nat → Value → Prop
  | none, v => ∃ z, v = .iface 128 (.int .i32 z) ∧ ∀ k, k < n → f k = z
  | some q, v => v = .iface 135 (.slice (some ⟨q, 0, none⟩) n n) ∧ Blk w q 21 (rowA n f)
/-- block b is a slab of sw columns and sh rows, whose cells are f, row by row -/
structure SlabIs (w : World) (b sw sh : Nat) (f : Nat → Int) (q : Option Nat) : Prop where
  w1 : 1 ≤ sw
  w2 : sw ≤ 16
  h1 : 1 ≤ sh
  h2 : sh ≤ 16
  may : ∀ k, k < sw * sh → MayV (f k)
  body : ∃ v, Blk w b 133 #[.int .i64 sw, .int .i64 sh, v] ∧ Land w (sw * sh) f q v

theorem may_any (v : Int) (w : World) : Calls Try.prog 79 #[.int .i64 v] w fun e w' => e = .returned (.bool (decide (MayV v))) ∧ w = w' := by
  rcases (show v < -2147483648 ∨ (-2147483648 ≤ v ∧ v ≤ 2147483647) ∨ (-2147483648 ≤ v ∧ 2147483647 < v) from by omega) with h | ⟨h1, h2⟩ | ⟨h1, h2⟩
  · have e : decide (MayV v) = false := decide_eq_false (by unfold MayV; omega)
    have t : decide (-2147483648 ≤ v) = false := decide_eq_false (by omega)
    rw [e]
    clear e
    go_enter Try.func79, Try.ntmps79
    go_wp2_with fail
    go_ret
    exact ⟨rfl, rfl⟩
  · have e : decide (MayV v) = true := decide_eq_true (by unfold MayV; omega)
    rw [e]
    clear e
    go_enter Try.func79, Try.ntmps79
    go_wp2_with fail
    go_ret
    exact ⟨rfl, rfl⟩
  · have e : decide (MayV v) = false := decide_eq_false (by unfold MayV; omega)
    have t : decide (v ≤ 2147483647) = false := decide_eq_false (by omega)
    rw [e]
    clear e
    go_enter Try.func79, Try.ntmps79
    go_wp2_with fail
    go_ret
    exact ⟨rfl, rfl⟩

theorem tRight_yes (a b : Int) (w : World) (h1 : 1 ≤ a) (h2 : a ≤ 16) (h3 : 1 ≤ b) (h4 : b ≤ 16) : Calls Try.prog 92 #[.int .i64 a, .int .i64 b] w fun e w' => e = .returned (.bool true) ∧ w = w' := by
  go_enter Try.func92, Try.ntmps92
  go_wp2_with fail
  go_ret
  exact ⟨rfl, rfl⟩

/-- it gives a new slab -/
def GivesSlab (w : World) (sw sh : Nat) (f : Nat → Int) (e : Ending) (w' : World) : Prop :=
  ∃ b, e = .returned (.tuple #[.pointer (some ⟨b, 0, none⟩), .int .i64 0]) ∧ w.heap.size ≤ b ∧ SlabIs w' b sw sh f none ∧ Below w.heap.size w w'

theorem i32_wrap (v : Int) (h : MayV v) : IntKind.i32.wrap v = v := by unfold MayV at h; rw [IntKind.wrap_i32]; omega

set_option maxHeartbeats 1000000 in
theorem sNew_ok (sw sh : Nat) (v : Int) (w : World) (h1 : 1 ≤ sw) (h2 : sw ≤ 16) (h3 : 1 ≤ sh) (h4 : sh ≤ 16) (hv : MayV v) :
    Calls Try.prog 72 #[.int .i64 sw, .int .i64 sh, .int .i64 v] w (GivesSlab w sw sh (fun _ => v)) := by
  have g1 : (1 : Int) ≤ sw := by omega
  have g2 : (sw : Int) ≤ 16 := by omega
  have g3 : (1 : Int) ≤ sh := by omega
  have g4 : (sh : Int) ≤ 16 := by omega
  have hm := fun W => may_any v W
  rw [show decide (MayV v) = true by simpa using hv] at hm
  have HM := Lib.hid hm
  have W1 := i32_wrap v hv
  clear hm
  go_enter Try.func72, Try.ntmps72
  go_wp2_with fail
  refine (tRight_yes _ _ _ g1 g2 g3 g4).mono ?_
  rintro e w1 ⟨rfl, rfl⟩
  go_wp2_with fail
  refine (HM.out _).mono ?_
  rintro e w1 ⟨rfl, rfl⟩
  go_wp2_with fail
  go_ret2
  exact ⟨w.heap.size, rfl, Nat.le_refl _, ⟨h1, h2, h3, h4, fun _ _ => hv, _, Blk.new w _ _, v, rfl, fun _ _ => rfl⟩, new_bel w _⟩

theorem sspot_any (x y : Int) (w : World) : Calls Try.prog 91 #[cellV x y] w (Ret (rectV x y x y) w) := by
  go_enter Try.func91, Try.ntmps91
  go_wp2_with fail
  exact bodyPost_ret (v := rectV x y x y) (by simp [results, Try.results91, go_sem]) rfl ⟨rfl, ((Below.refl _ _).alloc (Nat.le_refl _) _).alloc (by simp) _⟩

set_option maxHeartbeats 1000000 in
theorem scheck_any (b sw sh : Nat) (v : Value) (x0 y0 x1 y1 : Int) (w : World) (hb : Blk w b 133 #[.int .i64 sw, .int .i64 sh, v]) (h2 : sw ≤ 16) (h4 : sh ≤ 16) :
    Calls Try.prog 78 #[.pointer (some ⟨b, 0, none⟩), rectV x0 y0 x1 y1] w (Ret (.int .i64 (withinZ x0 y0 x1 y1 sw sh)) w) := by
  have hlt := hb.lt
  have C := (box4_new w (.int .i64 x0) (.int .i64 y0) (.int .i64 x1) (.int .i64 y1) 45)
  have D : Box3 (w.alloc (.cells #[.int .i64 x0, .int .i64 y0, .int .i64 x1, .int .i64 y1] 45)) b (.int .i64 sw) (.int .i64 sh) v := by
    have := hb.alloc (.cells #[.int .i64 x0, .int .i64 y0, .int .i64 x1, .int .i64 y1] 45)
    exact ⟨this.cell 0, this.cell 1, this.cell 2⟩
  have hw := fun W => Within_any x0 y0 x1 y1 sw sh W (by omega) (by omega) (by omega) (by omega)
  have HW := Lib.hid hw
  clear hw hb
  go_enter Try.func78, Try.ntmps78
  go_wp2_with fail
  have HX := Below.refl (w.alloc (.cells #[.int .i64 x0, .int .i64 y0, .int .i64 x1, .int .i64 y1] 45)).heap.size (w.alloc (.cells #[.int .i64 x0, .int .i64 y0, .int .i64 x1, .int .i64 y1] 45))
  go_region_held3 (fun W => (W.cell? ⟨w.heap.size, 0, none⟩ = some (.int .i64 x0) ∧ W.cell? ⟨w.heap.size, 1, none⟩ = some (.int .i64 y0) ∧ W.cell? ⟨w.heap.size, 2, none⟩ = some (.int .i64 x1) ∧ W.cell? ⟨w.heap.size, 3, none⟩ = some (.int .i64 y1)) ∧ W.cell? ⟨b, 0, none⟩ = some (.int .i64 sw) ∧ W.cell? ⟨b, 1, none⟩ = some (.int .i64 sh) ∧ W.cell? ⟨b, 2, none⟩ = some v)
    (first | exact ⟨C, D⟩ | exact ⟨C.bel HX (by simp), D.bel HX (by simp; omega)⟩)
    ((go_at_call 71; refine (HW.out _).mono ?_; rintro e w2 ⟨rfl, hb2⟩; replace HX := bel_trans_drew HX hb2 (Nat.le_refl _)))
  go_wp2_with fail
  go_ret
  exact ⟨rfl, (new_bel w _).trans (HX.mono (by simp))⟩
end Go.Proofs.Ytccpgalpahfpaaa

/-
  math/bits.Mul of this program is the library's own text: its contract (the kit's shelf, laid in plain words) serves here.
-/
namespace Go.Proofs.Ytccpgalpahfpaaa
open Go.Shelf
def lays212_ren : Go.Shelf.Ren := ⟨fun | 212 => 95 | 263 => 96 | 264 => 97 | n => n, fun | 46 => 143 | 51 => 149 | 146 => 150 | 53 => 125 | 148 => 152 | n => n, fun | n => n⟩
theorem lays212 : Go.Proofs.Lays.n212 Try.prog lays212_ren := {
  mixed := by kernel_rfl
  f212 := Try.func95.trans (congrArg some (by kernel_rfl))
  f263 := Try.func96.trans (congrArg some (by kernel_rfl))
  f264 := Try.func97.trans (congrArg some (by kernel_rfl))
  t46 := Try.underlying143
  a46 := Try.isAgg143
  z46 := Try.sizeOf143
  v46 := Try.zeroValue143
  t51 := Try.underlying149
  a51 := Try.isAgg149
  z51 := Try.sizeOf149
  v51 := Try.zeroValue149
  t53 := Try.underlying125
  a53 := Try.isAgg125
  z53 := Try.sizeOf125
  v53 := Try.zeroValue125
  t146 := Try.underlying150
  a146 := Try.isAgg150
  z146 := Try.sizeOf150
  v146 := Try.zeroValue150
  t148 := Try.underlying152
  a148 := Try.isAgg152
  z148 := Try.sizeOf152
  v148 := Try.zeroValue152 }
theorem Mul_any (x y : Nat) (hx : x < 18446744073709551616) (hy : y < 18446744073709551616) (w : World) :
    Calls Try.prog 95 #[.int .u64 x, .int .u64 y] w fun e w' => e = .returned (.tuple #[.int .u64 ((x * y / 18446744073709551616 : Nat) : Int), .int .u64 ((x * y % 18446744073709551616 : Nat) : Int)]) ∧ w = w' :=
  (Any.bits_Mul lays212 x y hx hy w).mono fun _ _ h => ⟨h.1, h.2.symm⟩
theorem Mul_one (n : Nat) (hn : n ≤ 65536) (w : World) : Calls Try.prog 95 #[.int .u64 1, .int .u64 n] w fun e w' => e = .returned (.tuple #[.int .u64 0, .int .u64 n]) ∧ w = w' := by
  have h := Mul_any 1 n (by omega) (by omega) w
  rw [Nat.one_mul, Nat.div_eq_of_lt (by omega), Nat.mod_eq_of_lt (by omega)] at h
  exact h
end Go.Proofs.Ytccpgalpahfpaaa

/-
  slices.Repeat of a row of int32 with one element.
-/
namespace Go.Proofs.Ytccpgalpahfpaaa
open Go.RowKit
set_option linter.unusedVariables false
set_option linter.unusedSimpArgs false

theorem info_i32 : (Try.prog.info? 21).map (fun i => (i.zero, i.size, i.bytes)) = some (some (.int .i32 0), 1, 4) := by kernel_rfl
theorem size_i32 : (Try.prog.info? 21).map (·.size) = some 1 := by kernel_rfl
/-- the first m are v -/
def rep (n m : Nat) (v : Int) : List Value := (List.range n).map fun k => Value.int .i32 (if k < m then v else 0)
theorem rep_len (n m : Nat) (v : Int) : (rep n m v).length = n := by simp [rep]
theorem rep_at (n m : Nat) (v : Int) (k : Nat) (h : k < n) : (rep n m v)[k]? = some (.int .i32 (if k < m then v else 0)) := by simp [rep, h]
theorem rep_splice (n m c : Nat) (v : Int) (h : m + c ≤ n) : splice (rep n m v) m (List.replicate c (.int .i32 v)) = rep n (m + c) v := by
  apply List.ext_getElem?
  intro k
  unfold splice
  rcases Nat.lt_or_ge k m with h1 | h1
  · rw [List.getElem?_append_left (by simp [rep_len]; omega), List.getElem?_take, if_pos h1, rep_at _ _ _ _ (by omega), rep_at _ _ _ _ (by omega), if_pos h1, if_pos (by omega)]
  · rw [List.getElem?_append_right (by simp; omega), List.length_take, rep_len, Nat.min_eq_left (by omega)]
    rcases Nat.lt_or_ge k (m + c) with h2 | h2
    · rw [List.getElem?_append_left (by simp; omega), List.getElem?_replicate, if_pos (by omega), rep_at _ _ _ _ (by omega), if_pos h2]
    · rw [List.getElem?_append_right (by simp; omega), List.getElem?_drop, List.length_replicate, show m + c + (k - m - c) = k by omega]
      rcases Nat.lt_or_ge k n with h3 | h3
      · rw [rep_at _ _ _ _ h3, rep_at _ _ _ _ h3, if_neg (by omega), if_neg (by omega)]
      · rw [List.getElem?_eq_none (by rw [rep_len]; exact h3), List.getElem?_eq_none (by rw [rep_len]; exact h3)]
theorem rep_zero (n : Nat) (v : Int) : List.replicate n (Value.int .i32 0) = rep n 0 v := by
  apply List.ext_getElem?
  intro k
  rcases Nat.lt_or_ge k n with h | h
  · rw [rep_at _ _ _ _ h, List.getElem?_replicate, if_pos h, if_neg (by omega)]
  · rw [List.getElem?_eq_none (by simpa using h), List.getElem?_eq_none (by rw [rep_len]; exact h)]
theorem rep_all (n : Nat) (v : Int) : (rep n n v).toArray = rowA n (fun _ => v) := by
  unfold rep rowA
  congr 1
  exact List.map_congr_left fun k hk => by rw [if_pos (by simpa using hk)]

/-- it gives a new row -/
def GivesRow (w : World) (n : Nat) (f : Nat → Int) (e : Ending) (w' : World) : Prop :=
  ∃ g, e = .returned (.slice (some ⟨g, 0, none⟩) n n) ∧ w.heap.size ≤ g ∧ Blk w' g 21 (rowA n f) ∧ Below w.heap.size w w'

theorem made_rep (n : Nat) (v : Int) : madeCells (Value.cells (.int .i32 0)) (n * 1) = (rep n 0 v).toArray := by
  rw [← rep_zero, Nat.mul_one]
  apply Array.ext_getElem?
  intro k
  simp [madeCells, Value.cells]
  rcases Nat.lt_or_ge k n with h | h
  · simp [h, Nat.mod_one]
  · simp [Nat.not_lt.2 h]

theorem one_src {w : World} {p : Addr} {x : Value} (h : w.cell? p = some x) : ∀ j u, [x][j]? = some u → w.cell? (p.add j) = some u := by
  intro j u hj
  rcases j with _ | j
  · simp at hj; subst hj; simpa [Addr.add] using h
  · simp at hj

theorem rep_src {w : World} {g n m k : Nat} {v : Int} {t : TypeId} (h : Blk w g t (rep n m v).toArray) (hk : k ≤ m) (hm : m ≤ n) : ∀ j u, (List.replicate k (Value.int .i32 v))[j]? = some u → w.cell? ((⟨g, 0, none⟩ : Addr).add j) = some u := by
  intro j u hj
  rw [List.getElem?_replicate] at hj
  split at hj
  · rw [add_plain, Nat.zero_add, h.cell j]
    rw [← hj]
    have := rep_at n m v j (by omega)
    rw [if_pos (by omega)] at this
    simpa using this
  · cases hj

set_option maxHeartbeats 2000000 in
set_option maxRecDepth 100000 in
theorem Repeat_ok (p c n : Nat) (v : Int) (w : World) (hp : w.cell? ⟨p, 0, none⟩ = some (.int .i32 v)) (h1 : 1 ≤ n) (h2 : n ≤ 256) :
    Calls Try.prog 93 #[.slice (some ⟨p, 0, none⟩) 1 c, .int .i64 n] w (GivesRow w n (fun _ => v)) := by
  obtain ⟨i0, hi0, hz0, hz1, hz2⟩ := info_parts info_i32
  have hlt := World.block_lt_of_cell? w _ hp
  have hmk := run_make (P := Try.prog) w 135 21 i0 (.int .i32 0) Try.underlying135 hi0 hz0 .i64 .i64 n n (by omega) (Int.le_refl _) (by rw [hz2]; omega) (by omega)
  rw [hz1, Int.toNat_natCast, made_rep n v] at hmk
  have t1 : decide ((n : Int) < 0) = false := decide_eq_false (by omega)
  have t2 : decide ((9223372036854775807 : Int) < (n : Int)) = false := decide_eq_false (by omega)
  have HP : Hid ((w.alloc (.cells (rep n 0 v).toArray 21)).cell? ⟨p, 0, none⟩ = some (.int .i32 v)) := Lib.hid ((World.cell?_alloc_lt w _ _ hlt).trans hp)
  have HG0 : Hid ((w.alloc (.cells (rep n 0 v).toArray 21)).heap[w.heap.size]? = some (.cells (rep n 0 v).toArray 21 (0, 0))) := Lib.hid (Blk.new w 21 (rep n 0 v).toArray)
  have C1 : Hid ([Value.int .i32 v].length = Nat.min 1 n) := Lib.hid (Nat.min_eq_left h1).symm
  have C3 : Hid (0 + [Value.int .i32 v].length ≤ (rep n 0 v).length) := Lib.hid (by rw [rep_len]; simpa using h1)
  have C4 : Hid (∀ u ∈ [Value.int .i32 v], u.oneCell' = true) := Lib.hid (by intro u hu; simp at hu; subst hu; rfl)
  clear hz0 hz1 hz2 hi0 hp
  go_enter Try.func93, Try.ntmps93
  go_wp2_with fail
  refine (Mul_one n (by omega) _).mono ?_
  rintro e w1 ⟨rfl, rfl⟩
  go_wp2_with ((with_reducible refine wpList_copy_splice rfl (.tmp 31) (.tmp 32) _ _ rfl 21 Try.underlying135 size_i32 _ _ _ _ _ _ rfl rfl w.heap.size 0 (rep n 0 v) 21 HG0.out [.int .i32 v] ?_ ?_ ?_ ?_ w.heap.size w (new_bel w _) (Nat.le_refl _) ?_); (go_must (exact C1.out)); (go_must (exact fun _ => ⟨rfl, _, rfl, one_src HP.out⟩)); (go_must (exact C3.out)); (go_must (exact C4.out)); intro w2 HG2 hB2)
  have HG : Hid (Blk w2 w.heap.size 21 (rep n 1 v).toArray) := Lib.hid (by
    have := HG2.out
    have e := rep_splice n 0 1 v (by omega)
    simp only [List.replicate, Nat.zero_add] at e
    rw [e] at this
    exact this)
  clear HG0 HG2 C1 C3 C4 HP hmk t1 t2
  go_wp2_with fail
  go_loopw [8] (fun t wr => ∃ m : Nat, 1 ≤ m ∧ m ≤ n ∧ t = .int .i64 m ∧ Hid (Blk wr w.heap.size 21 (rep n m v).toArray) ∧ Below w.heap.size w wr) (fun t _ => n - (intOf t).toNat)
  case atStart => exact ⟨1, by omega, by omega, rfl, HG, hB2⟩
  case round =>
    obtain ⟨m, m1, m2, rfl, HGm, hbr⟩ := hrel
    by_cases hlt : m < n
    · have q1 : (0 : Int) ≤ (m : Int) := by omega
      have q2 : (m : Int) ≤ (n : Int) := by omega
      obtain ⟨k, hk⟩ : ∃ k, Nat.min m (n - m) = k := ⟨_, rfl⟩
      have hk1 : 1 ≤ k ∧ k ≤ m ∧ m + k ≤ n := by rw [← hk]; simp only [Nat.min_def]; split <;> omega
      have C1 : Hid ((List.replicate k (Value.int .i32 v)).length = Nat.min m (n - m)) := Lib.hid (by rw [hk]; simp)
      have C3 : Hid (m + (List.replicate k (Value.int .i32 v)).length ≤ (rep n m v).length) := Lib.hid (by rw [rep_len]; simp; omega)
      have C4 : Hid (∀ u ∈ List.replicate k (Value.int .i32 v), u.oneCell' = true) := Lib.hid (by intro u hu; rw [List.eq_of_mem_replicate hu]; rfl)
      have hne : ¬ n = m := by omega
      have W1 : IntKind.i64.wrap ((m : Int) + (k : Int)) = (m : Int) + (k : Int) := IntWalk.i64_in _ (by omega)
      clear hk
      go_wp2_with fail
      go_region_held3 (fun _ => True) (trivial)
        ((refine step_copy_splice rfl (.tmp 41) (.tmp 44) _ _ rfl 21 Try.underlying135 size_i32 _ _ _ _ _ _ rfl rfl w.heap.size m (rep n m v) 21 HGm.out (List.replicate k (.int .i32 v)) ?_ ?_ C3.out C4.out w.heap.size w hbr.drew (Nat.le_refl _) ?_; (go_must (exact C1.out)); (go_must (exact fun _ => ⟨rfl, _, rfl, rep_src HGm.out (by omega) (by omega)⟩)); intro w3 HG3 hB3))
      go_wp2_with fail
      clear W1
      refine ⟨⟨m + k, by omega, by omega, by go_num, Lib.hid ?_, hB3⟩, ?_⟩
      · have := HG3.out
        rw [rep_splice n m k v (by omega)] at this
        exact this
      · simp only [intOf]
        omega
    · have e : m = n := by omega
      subst e
      go_wp2_with fail
      go_ret
      exact ⟨w.heap.size, rfl, Nat.le_refl _, by rw [← rep_all]; exact HGm.out, hbr⟩
end Go.Proofs.Ytccpgalpahfpaaa

/-
  (*Slab).rough: cells that may be written one by one.
-/
namespace Go.Proofs.Ytccpgalpahfpaaa
open Go.RowKit
set_option linter.unusedVariables false
set_option linter.unusedSimpArgs false

theorem ta_flat_rough (z : Int) (W : World) : (Instr.typeAssert (.iface 128 (.int .i32 z)) 131 135 true).run Try.prog W = .ok (.tuple #[.slice none 0 0, .bool false]) W := by kernel_rfl
theorem ta_rough_rough (A : Option Addr) (n c : Nat) (W : World) : (Instr.typeAssert (.iface 135 (.slice A n c)) 131 135 true).run Try.prog W = .ok (.tuple #[.slice A n c, .bool true]) W := by kernel_rfl
theorem ta_flat (z : Int) (W : World) : (Instr.typeAssert (.iface 128 (.int .i32 z)) 131 128 false).run Try.prog W = .ok (.int .i32 z) W := by kernel_rfl
theorem ta_flat_flat (z : Int) (W : World) : (Instr.typeAssert (.iface 128 (.int .i32 z)) 131 128 true).run Try.prog W = .ok (.tuple #[.int .i32 z, .bool true]) W := by kernel_rfl
theorem ta_rough_flat (A : Option Addr) (n c : Nat) (W : World) : (Instr.typeAssert (.iface 135 (.slice A n c)) 131 128 true).run Try.prog W = .ok (.tuple #[.int .i32 0, .bool false]) W := by kernel_rfl

/-- it hands out the row of a slab, that it may have made -/
def GivesRough (w : World) (b sw sh : Nat) (f : Nat → Int) (q : Option Nat) (e : Ending) (w' : World) : Prop :=
  ∃ g, e = .returned (.slice (some ⟨g, 0, none⟩) (sw * sh) (sw * sh)) ∧ SlabIs w' b sw sh f (some g) ∧ Touch (fun i => i = b) w w' ∧ (q = some g ∨ w.heap.size ≤ g)

set_option maxHeartbeats 2000000 in
set_option maxRecDepth 100000 in
theorem srough_some (b sw sh g : Nat) (f : Nat → Int) (w : World) (hS : SlabIs w b sw sh f (some g)) : Calls Try.prog 80 #[.pointer (some ⟨b, 0, none⟩)] w (GivesRough w b sw sh f (some g)) := by
  obtain ⟨v, hb, hv, hq⟩ := hS.body
  subst hv
  obtain ⟨n, hn⟩ : ∃ n, sw * sh = n := ⟨_, rfl⟩
  rw [hn] at hb
  have c2 := hb.cell 2
  simp at c2
  have HS := Lib.hid hS
  have HN := Lib.hid hn
  clear hS hb hq hn
  have ta := ta_rough_rough
  go_enter Try.func80, Try.ntmps80
  go_wp2_with fail
  go_ret
  exact ⟨g, by rw [HN.out]; rfl, HS.out, Touch.refl _ _, .inl rfl⟩

set_option maxHeartbeats 2000000 in
set_option maxRecDepth 100000 in
theorem srough_none (b sw sh : Nat) (f : Nat → Int) (w : World) (hS : SlabIs w b sw sh f none) : Calls Try.prog 80 #[.pointer (some ⟨b, 0, none⟩)] w (GivesRough w b sw sh f none) := by
  obtain ⟨v, hb, z, hv, hf⟩ := hS.body
  subst hv
  obtain ⟨n, hn⟩ : ∃ n, sw * sh = n := ⟨_, rfl⟩
  have D : Box3 w b (.int .i64 sw) (.int .i64 sh) (.iface 128 (.int .i32 z)) := ⟨hb.cell 0, hb.cell 1, hb.cell 2⟩
  have fz := hb.frozen 2
  have hlt := hb.lt
  have h1 : 1 ≤ n := by rw [← hn]; exact Nat.mul_pos hS.w1 hS.h1
  have h2 : n ≤ 256 := by rw [← hn]; exact Nat.mul_le_mul hS.w2 hS.h2
  have W1 : IntKind.i64.wrap ((sw : Int) * (sh : Int)) = (n : Int) := by
    rw [show (sw : Int) * (sh : Int) = ((sw * sh : Nat) : Int) by simp, hn]
    exact IntWalk.i64_in _ (by omega)
  have HS := Lib.hid hS
  have HF := Lib.hid hf
  have HBK := Lib.hid hb
  have HN := Lib.hid hn
  have D' := D
  obtain ⟨d0, d1, d2⟩ := D'
  clear hS hb hf hn
  have ta := ta_flat_rough
  have tb := ta_flat
  go_enter Try.func80, Try.ntmps80
  go_wp2_with fail
  have HX := Below.refl w.heap.size w
  have hc1 : ((w.alloc (.cells #[.int .i32 z] 21)).drew).cell? ⟨w.heap.size, 0, none⟩ = some (.int .i32 z) := by simp
  have hs1 : w.heap.size ≤ ((w.alloc (.cells #[.int .i32 z] 21)).drew).heap.size := by simp
  have DX : Box3 ((w.alloc (.cells #[.int .i32 z] 21)).drew) b (.int .i64 sw) (.int .i64 sh) (.iface 128 (.int .i32 z)) := D.bel (new_bel w (.cells #[.int .i32 z] 21)).drew hlt
  go_region_held3 (fun W => W.cell? ⟨b, 0, none⟩ = some (.int .i64 sw) ∧ W.cell? ⟨b, 1, none⟩ = some (.int .i64 sh) ∧ W.cell? ⟨b, 2, none⟩ = some (.iface 128 (.int .i32 z)))
    (first | exact D | exact DX | exact D.bel HX hlt)
    ((go_at_call 93; refine (Repeat_ok w.heap.size 1 n z _ hc1 h1 h2).mono ?_; rintro e w2 ⟨g, rfl, hg, hgb, hb2⟩; replace HX := (new_bel w (.cells #[.int .i32 z] 21)).drew.trans (hb2.mono hs1)))
  obtain ⟨e0, e1, e2⟩ := D.bel HX hlt
  have fz2 := bel_froz HX _ hlt fz
  have hgb' : w.heap.size ≤ g := by simp at hg; omega
  clear d0 d1 d2 fz
  go_wp2_with fail
  go_ret
  have hne : g ≠ b := by omega
  refine ⟨g, by rw [HN.out]; rfl, ⟨HS.out.w1, HS.out.w2, HS.out.h1, HS.out.h2, HS.out.may, _, (HBK.out.below HX hlt).set_ 2 _, ?_, ?_⟩, (Touch.of_kept (S := fun i => i = b) HX).setCell (p := ⟨b, 2, none⟩) (.inl rfl) _, .inr hgb'⟩
  · rw [HN.out]
  · have h := hgb.far (p := ⟨b, 2, none⟩) hne (.iface 135 (.slice (some ⟨g, 0, none⟩) n n))
    rw [HN.out, rowA_congr (h := fun _ => z) (fun k hk => HF.out k (by rw [HN.out]; exact hk))]
    exact h

theorem srough_ok {w : World} {b sw sh : Nat} {f : Nat → Int} {q : Option Nat} (hS : SlabIs w b sw sh f q) : Calls Try.prog 80 #[.pointer (some ⟨b, 0, none⟩)] w (GivesRough w b sw sh f q) := by
  rcases q with _ | q
  · exact srough_none b sw sh f w hS
  · exact srough_some b sw sh q f w hS
end Go.Proofs.Ytccpgalpahfpaaa

/-
  What became the same again: slices.ContainsFunc with the closure of (*Slab).Fill.
-/
namespace Go.Proofs.Ytccpgalpahfpaaa
open Go.RowKit
set_option linter.unusedVariables false
set_option linter.unusedSimpArgs false

theorem Fill1_any (x y : Int) (p g n c : Nat) (w : World) (hp : w.cell? ⟨p, 0, none⟩ = some (.slice (some ⟨g, 0, none⟩) n c)) (hn : 0 < n) (hg : w.cell? ⟨g, 0, none⟩ = some (.int .i32 y)) :
    Calls Try.prog 82 #[.int .i32 x, .pointer (some ⟨p, 0, none⟩)] w fun e w' => e = .returned (.bool (x != y)) ∧ w = w' := by
  go_enter Try.func82, Try.ntmps82
  go_wp2_with fail
  go_ret
  exact ⟨rfl, rfl⟩

/-- a value of a row that isn't the first one's is found, or there is none -/
def FoundI (n : Nat) (f : Nat → Int) (w : World) (e : Ending) (w' : World) : Prop :=
  ∃ i : Int, e = .returned (.int .i64 i) ∧ -1 ≤ i ∧ (0 ≤ i ↔ ∃ k, k < n ∧ f k ≠ f 0) ∧ w = w'
def FoundB (n : Nat) (f : Nat → Int) (w : World) (e : Ending) (w' : World) : Prop :=
  ∃ z : Bool, e = .returned (.bool z) ∧ (z = true ↔ ∃ k, k < n ∧ f k ≠ f 0) ∧ w = w'

set_option maxHeartbeats 1000000 in
theorem IndexRough (p g n : Nat) (f : Nat → Int) (w : World) (hp : w.cell? ⟨p, 0, none⟩ = some (.slice (some ⟨g, 0, none⟩) n n)) (hn : 0 < n) (hn' : n ≤ 256) (hg : Blk w g 21 (rowA n f)) :
    Calls Try.prog 94 #[.slice (some ⟨g, 0, none⟩) n n, .func (.func 82) #[] #[.pointer (some ⟨p, 0, none⟩)]] w (FoundI n f w) := by
  have h0 : w.cell? ⟨g, 0, none⟩ = some (.int .i32 (f 0)) := (hg.cell 0).trans (rowA_get n f 0 hn)
  have HK := Lib.hid fun k (hk : k < n) => (hg.cell k).trans (rowA_get n f k hk)
  clear hg
  go_enter Try.func94, Try.ntmps94
  go_wp2_with fail
  go_loop [5, 8] (fun _ t => ∃ k : Nat, k ≤ n ∧ t = .int .i64 k ∧ Hid (∀ j, j < k → f j = f 0)) (fun _ t => n - (intOf t).toNat)
  case atStart => exact ⟨0, by omega, rfl, Lib.hid fun j hj => by omega⟩
  case round =>
    obtain ⟨k, hk, rfl, HJ⟩ := hrel
    by_cases hlt : k < n
    · have hc := HK.out k hlt
      by_cases he : f k = f 0
      · have ht : (f k != f 0) = false := by rw [he]; simp
        have HE := Lib.hid he
        clear he
        go_wp2_with fail
        refine (Fill1_any (f k) (f 0) p g n n _ hp hn h0).mono ?_
        rintro e w2 ⟨rfl, rfl⟩
        rw [ht]
        go_wp2_with fail
        go_round
        case rel => exact ⟨k + 1, by omega, by go_num, Lib.hid fun j hj => by
          rcases Nat.lt_or_ge j k with c | c
          · exact HJ.out j c
          · rw [show j = k by omega]; exact HE.out⟩
        case measure => simp only [intOf]; omega
      · have ht : (f k != f 0) = true := by rw [bne_iff_ne]; exact he
        go_wp2_with fail
        refine (Fill1_any (f k) (f 0) p g n n _ hp hn h0).mono ?_
        rintro e w2 ⟨rfl, rfl⟩
        rw [ht]
        go_wp2_with fail
        go_ret
        exact ⟨k, rfl, by omega, ⟨fun _ => ⟨k, hlt, he⟩, fun _ => by omega⟩, rfl⟩
    · go_wp2_with fail
      go_ret
      exact ⟨-1, rfl, by omega, ⟨fun h => by omega, fun ⟨j, hj, hne⟩ => absurd (HJ.out j (by omega)) hne⟩, rfl⟩

theorem ContainsRough (p g n : Nat) (f : Nat → Int) (w : World) (hp : w.cell? ⟨p, 0, none⟩ = some (.slice (some ⟨g, 0, none⟩) n n)) (hn : 0 < n) (hn' : n ≤ 256) (hg : Blk w g 21 (rowA n f)) :
    Calls Try.prog 81 #[.slice (some ⟨g, 0, none⟩) n n, .func (.func 82) #[] #[.pointer (some ⟨p, 0, none⟩)]] w (FoundB n f w) := by
  have HI := Lib.hid (IndexRough p g n f w hp hn hn' hg)
  clear hp hg
  go_enter Try.func81, Try.ntmps81
  go_wp2_with fail
  refine HI.out.mono ?_
  rintro e w2 ⟨i, rfl, h1, h2, rfl⟩
  have H2 := Lib.hid h2
  clear h2
  by_cases h : 0 ≤ i
  · go_wp2_with fail
    go_ret
    exact ⟨_, rfl, by simpa [h] using H2.out, rfl⟩
  · have hd : decide (0 ≤ i) = false := decide_eq_false h
    go_wp2_with fail
    go_ret
    exact ⟨false, rfl, ⟨fun e => (by cases e), fun e => absurd (H2.out.2 e) (by omega)⟩, rfl⟩
end Go.Proofs.Ytccpgalpahfpaaa

/-
  slab.At: a cell's value.
-/
namespace Go.Proofs.Ytccpgalpahfpaaa
open Go.RowKit
set_option linter.unusedVariables false
set_option linter.unusedSimpArgs false

theorem i64_may (v : Int) (h : MayV v) : IntKind.i64.wrap v = v := by unfold MayV at h; exact IntWalk.i64_in _ (by omega)

theorem flat_at (z i : Int) (w : World) (h : MayV z) : Calls Try.prog 115 #[.int .i32 z, .int .i64 i] w fun e w' => e = .returned (.int .i64 z) ∧ w = w' := by
  have W1 := i64_may z h
  go_enter Try.func115, Try.ntmps115
  go_wp2_with fail
  go_ret
  exact ⟨rfl, rfl⟩

theorem rough_at (q n : Nat) (f : Nat → Int) (i : Nat) (w : World) (hb : Blk w q 21 (rowA n f)) (hi : i < n) (h : MayV (f i)) :
    Calls Try.prog 116 #[.slice (some ⟨q, 0, none⟩) n n, .int .i64 i] w fun e w' => e = .returned (.int .i64 (f i)) ∧ w = w' := by
  have W1 := i64_may (f i) h
  have hc : w.cell? ⟨q, i, none⟩ = some (.int .i32 (f i)) := (hb.cell i).trans (rowA_get n f i hi)
  clear hb
  go_enter Try.func116, Try.ntmps116
  go_wp2_with fail
  go_ret
  exact ⟨rfl, rfl⟩

set_option maxHeartbeats 2000000 in
set_option maxRecDepth 100000 in
theorem sAt_flat (b sw sh x y m : Nat) (v : Value) (z : Int) (w : World) (hb : Blk w b 133 #[.int .i64 sw, .int .i64 sh, v]) (h2 : sw ≤ 16) (h4 : sh ≤ 16) (hx : x < sw) (hy : y < sh) (hm : y * sw + x = m)
    (zz : Int) (hv : v = .iface 128 (.int .i32 zz))
    (HC : Hid (∀ W, Below w.heap.size w W → Calls Try.prog 115 #[.int .i32 zz, .int .i64 m] W fun e w' => e = .returned (.int .i64 z) ∧ W = w')) :
    Calls Try.prog 63 #[.pointer (some ⟨b, 0, none⟩), cellV x y] w (Ret (.tuple #[.int .i64 z, .int .i64 0]) w) := by
  subst hv
  have hs := fun W hbW => scheck_any b sw sh (.iface 128 (.int .i32 zz)) x y x y W hbW h2 h4
  rw [show withinZ x y x y sw sh = 0 from within_of ⟨by omega, by omega, by omega, by omega⟩ (by omega) (by omega) (by omega) (by omega) (by omega) (by omega)] at hs
  have HS := Lib.hid hs
  have hlt := hb.lt
  have HBK := Lib.hid hb
  have HM := Lib.hid hm
  clear hs hm hb
  have hmeth : ∀ (W : World), (method 270 128 (.int .i32 zz) "hachure/slab.at").run Try.prog W = .ok (115, .int .i32 zz) W := fun _ => by kernel_rfl
  go_enter Try.func63, Try.ntmps63
  go_wp2_with fail
  refine (sspot_any x y _).mono ?_
  rintro e w1 ⟨rfl, hb1⟩
  go_wp2_with fail
  refine (HS.out _ ((HBK.out.alloc _).kept hb1)).mono ?_
  rintro e w2 ⟨rfl, hb2⟩
  have HB2 : Below (w.heap.size + 1) (w.alloc (.cells #[.int .i64 x, .int .i64 y] 24)) w2 := by
    have := bel_trans hb1 hb2 (Nat.le_refl _)
    simpa using this
  have C := (box2_new w (.int .i64 x) (.int .i64 y) 24).bel HB2 (by omega)
  have D : Box3 w2 b (.int .i64 sw) (.int .i64 sh) (.iface 128 (.int .i32 zz)) := by
    have := (HBK.out.alloc (.cells #[.int .i64 x, .int .i64 y] 24)).below HB2 (by omega)
    exact ⟨this.cell 0, this.cell 1, this.cell 2⟩
  have HB : Below w.heap.size w w2 := (new_bel w _).trans (HB2.mono (by omega))
  clear hb1 hb2 HS HB2
  go_wp2_with fail
  have n1 : y * sw ≤ 256 := by have := Nat.mul_le_mul (show y ≤ 16 by omega) h2; omega
  have W1 : IntKind.i64.wrap ((y : Int) * (sw : Int)) = (y : Int) * (sw : Int) := IntWalk.i64_in _ (by rw [show (y : Int) * (sw : Int) = ((y * sw : Nat) : Int) by simp]; omega)
  have W2 : IntKind.i64.wrap ((y : Int) * (sw : Int) + (x : Int)) = (m : Int) := by
    rw [← HM.out, show (y : Int) * (sw : Int) + (x : Int) = ((y * sw + x : Nat) : Int) by simp]
    exact IntWalk.i64_in _ (by omega)
  go_region_held3 (fun W => (W.cell? ⟨w.heap.size, 0, none⟩ = some (.int .i64 x) ∧ W.cell? ⟨w.heap.size, 1, none⟩ = some (.int .i64 y)) ∧ W.cell? ⟨b, 0, none⟩ = some (.int .i64 sw) ∧ W.cell? ⟨b, 1, none⟩ = some (.int .i64 sh) ∧ W.cell? ⟨b, 2, none⟩ = some (.iface 128 (.int .i32 zz)))
    (first | exact ⟨C, D⟩)
    ((go_at_call 115; refine (HC.out _ ?_).mono ?_; exact HB.drew; rintro e w3 ⟨rfl, rfl⟩))
  go_wp2_with fail
  go_ret2
  exact ⟨rfl, HB.drew⟩
set_option maxHeartbeats 2000000 in
set_option maxRecDepth 100000 in
theorem sAt_rough (b sw sh x y m : Nat) (v : Value) (z : Int) (w : World) (hb : Blk w b 133 #[.int .i64 sw, .int .i64 sh, v]) (h2 : sw ≤ 16) (h4 : sh ≤ 16) (hx : x < sw) (hy : y < sh) (hm : y * sw + x = m)
    (A : Option Addr) (n c : Nat) (hv : v = .iface 135 (.slice A n c))
    (HC : Hid (∀ W, Below w.heap.size w W → Calls Try.prog 116 #[.slice A n c, .int .i64 m] W fun e w' => e = .returned (.int .i64 z) ∧ W = w')) :
    Calls Try.prog 63 #[.pointer (some ⟨b, 0, none⟩), cellV x y] w (Ret (.tuple #[.int .i64 z, .int .i64 0]) w) := by
  subst hv
  have hs := fun W hbW => scheck_any b sw sh (.iface 135 (.slice A n c)) x y x y W hbW h2 h4
  rw [show withinZ x y x y sw sh = 0 from within_of ⟨by omega, by omega, by omega, by omega⟩ (by omega) (by omega) (by omega) (by omega) (by omega) (by omega)] at hs
  have HS := Lib.hid hs
  have hlt := hb.lt
  have HBK := Lib.hid hb
  have HM := Lib.hid hm
  clear hs hm hb
  have hmeth : ∀ (W : World), (method 270 135 (.slice A n c) "hachure/slab.at").run Try.prog W = .ok (116, .slice A n c) W := fun _ => by kernel_rfl
  go_enter Try.func63, Try.ntmps63
  go_wp2_with fail
  refine (sspot_any x y _).mono ?_
  rintro e w1 ⟨rfl, hb1⟩
  go_wp2_with fail
  refine (HS.out _ ((HBK.out.alloc _).kept hb1)).mono ?_
  rintro e w2 ⟨rfl, hb2⟩
  have HB2 : Below (w.heap.size + 1) (w.alloc (.cells #[.int .i64 x, .int .i64 y] 24)) w2 := by
    have := bel_trans hb1 hb2 (Nat.le_refl _)
    simpa using this
  have C := (box2_new w (.int .i64 x) (.int .i64 y) 24).bel HB2 (by omega)
  have D : Box3 w2 b (.int .i64 sw) (.int .i64 sh) (.iface 135 (.slice A n c)) := by
    have := (HBK.out.alloc (.cells #[.int .i64 x, .int .i64 y] 24)).below HB2 (by omega)
    exact ⟨this.cell 0, this.cell 1, this.cell 2⟩
  have HB : Below w.heap.size w w2 := (new_bel w _).trans (HB2.mono (by omega))
  clear hb1 hb2 HS HB2
  go_wp2_with fail
  have n1 : y * sw ≤ 256 := by have := Nat.mul_le_mul (show y ≤ 16 by omega) h2; omega
  have W1 : IntKind.i64.wrap ((y : Int) * (sw : Int)) = (y : Int) * (sw : Int) := IntWalk.i64_in _ (by rw [show (y : Int) * (sw : Int) = ((y * sw : Nat) : Int) by simp]; omega)
  have W2 : IntKind.i64.wrap ((y : Int) * (sw : Int) + (x : Int)) = (m : Int) := by
    rw [← HM.out, show (y : Int) * (sw : Int) + (x : Int) = ((y * sw + x : Nat) : Int) by simp]
    exact IntWalk.i64_in _ (by omega)
  go_region_held3 (fun W => (W.cell? ⟨w.heap.size, 0, none⟩ = some (.int .i64 x) ∧ W.cell? ⟨w.heap.size, 1, none⟩ = some (.int .i64 y)) ∧ W.cell? ⟨b, 0, none⟩ = some (.int .i64 sw) ∧ W.cell? ⟨b, 1, none⟩ = some (.int .i64 sh) ∧ W.cell? ⟨b, 2, none⟩ = some (.iface 135 (.slice A n c)))
    (first | exact ⟨C, D⟩)
    ((go_at_call 116; refine (HC.out _ ?_).mono ?_; exact HB.drew; rintro e w3 ⟨rfl, rfl⟩))
  go_wp2_with fail
  go_ret2
  exact ⟨rfl, HB.drew⟩

theorem cell_lt {sw sh x y : Nat} (hx : x < sw) (hy : y < sh) : y * sw + x < sw * sh := by
  have : (y + 1) * sw ≤ sh * sw := Nat.mul_le_mul_right _ hy
  rw [Nat.succ_mul] at this
  rw [Nat.mul_comm sw sh]
  omega
theorem sAt_ok {b sw sh : Nat} {f : Nat → Int} {q : Option Nat} {w : World} (hS : SlabIs w b sw sh f q) (x y : Nat) (hx : x < sw) (hy : y < sh) :
    Calls Try.prog 63 #[.pointer (some ⟨b, 0, none⟩), cellV x y] w (Ret (.tuple #[.int .i64 (f (y * sw + x)), .int .i64 0]) w) := by
  obtain ⟨v, hb, hl⟩ := hS.body
  have hlt := cell_lt hx hy
  have hmay := hS.may _ hlt
  rcases q with _ | q
  · obtain ⟨z, hv, hf⟩ := hl
    have e := hf _ hlt
    rw [e] at hmay ⊢
    exact sAt_flat b sw sh x y _ v z w hb hS.w2 hS.h2 hx hy rfl z hv (Lib.hid fun W _ => flat_at z _ W hmay)
  · obtain ⟨hv, hq⟩ := hl
    exact sAt_rough b sw sh x y _ v _ w hb hS.w2 hS.h2 hx hy rfl _ _ _ hv (Lib.hid fun W hW => rough_at q _ f _ W (hq.kept hW) hlt hmay)
end Go.Proofs.Ytccpgalpahfpaaa

/-
  (*Slab).Fill: a rectangle of a slab gets one value.
-/
namespace Go.Proofs.Ytccpgalpahfpaaa
open Go.RowKit
set_option linter.unusedVariables false
set_option linter.unusedSimpArgs false

/-- a slab's cells behind a fill -/
def fillK (sw x0 y0 x1 y1 : Nat) (v : Int) (f : Nat → Int) (k : Nat) : Int := if x0 ≤ k % sw ∧ k % sw ≤ x1 ∧ y0 ≤ k / sw ∧ k / sw ≤ y1 then v else f k
/-- and on the way there: the rows ahead of y, and of row y the columns ahead of x -/
def fillT (sw x0 y0 x1 : Nat) (v : Int) (f : Nat → Int) (y x k : Nat) : Int := if (x0 ≤ k % sw ∧ k % sw ≤ x1 ∧ y0 ≤ k / sw ∧ k / sw < y) ∨ (k / sw = y ∧ x0 ≤ k % sw ∧ k % sw < x) then v else f k
section
variable {sw x0 y0 x1 y1 : Nat} {v : Int} {f : Nat → Int}
theorem fillT_start (k : Nat) : fillT sw x0 y0 x1 v f y0 x0 k = f k := by unfold fillT; rw [if_neg (by omega)]
theorem fillT_row {y : Nat} (hy : y0 ≤ y) (k : Nat) : fillT sw x0 y0 x1 v f y (x1 + 1) k = fillT sw x0 y0 x1 v f (y + 1) x0 k := by
  unfold fillT
  by_cases c : (x0 ≤ k % sw ∧ k % sw ≤ x1 ∧ y0 ≤ k / sw ∧ k / sw < y) ∨ (k / sw = y ∧ x0 ≤ k % sw ∧ k % sw < x1 + 1)
  · rw [if_pos c, if_pos (by omega)]
  · rw [if_neg c, if_neg (by omega)]
theorem fillT_end (k : Nat) : fillT sw x0 y0 x1 v f (y1 + 1) x0 k = fillK sw x0 y0 x1 y1 v f k := by
  unfold fillT fillK
  by_cases c : x0 ≤ k % sw ∧ k % sw ≤ x1 ∧ y0 ≤ k / sw ∧ k / sw ≤ y1
  · rw [if_pos c, if_pos (by omega)]
  · rw [if_neg c, if_neg (by omega)]
theorem at_iff {k x y : Nat} (hx : x < sw) : k = y * sw + x ↔ (k / sw = y ∧ k % sw = x) := by
  constructor
  · rintro rfl
    rw [Nat.mul_comm y sw, Nat.mul_add_div (by omega), Nat.mul_add_mod, Nat.div_eq_of_lt hx, Nat.mod_eq_of_lt hx]
    exact ⟨rfl, rfl⟩
  · rintro ⟨rfl, rfl⟩
    have := Nat.div_add_mod k sw
    rw [Nat.mul_comm] at this
    omega
theorem fillT_step {y x : Nat} (hx : x < sw) (h0 : x0 ≤ x) (k : Nat) : (if k = y * sw + x then v else fillT sw x0 y0 x1 v f y x k) = fillT sw x0 y0 x1 v f y (x + 1) k := by
  by_cases c : k = y * sw + x
  · rw [if_pos c]
    obtain ⟨c1, c2⟩ := (at_iff hx).1 c
    unfold fillT
    rw [if_pos (by omega)]
  · rw [if_neg c]
    have hn : ¬ (k / sw = y ∧ k % sw = x) := fun e => c ((at_iff hx).2 e)
    unfold fillT
    by_cases d : (x0 ≤ k % sw ∧ k % sw ≤ x1 ∧ y0 ≤ k / sw ∧ k / sw < y) ∨ (k / sw = y ∧ x0 ≤ k % sw ∧ k % sw < x)
    · rw [if_pos d, if_pos (by omega)]
    · rw [if_neg d, if_neg (by omega)]
theorem fillK_may {n : Nat} (hv : MayV v) (h : ∀ k, k < n → MayV (f k)) : ∀ k, k < n → MayV (fillK sw x0 y0 x1 y1 v f k) := by
  intro k hk; unfold fillK; split
  · exact hv
  · exact h k hk
end
/-- all cells of a slab are in a rectangle that has as many -/
theorem whole_all {sw sh x0 y0 x1 y1 : Nat} (h1 : x0 ≤ x1) (h2 : x1 < sw) (h3 : y0 ≤ y1) (h4 : y1 < sh) (ha : (x1 - x0 + 1) * (y1 - y0 + 1) = sw * sh) : x0 = 0 ∧ x1 = sw - 1 ∧ y0 = 0 ∧ y1 = sh - 1 := by
  have e1 : x1 - x0 + 1 = sw := by
    rcases Nat.lt_or_ge (x1 - x0 + 1) sw with c | c
    · have a1 : (x1 - x0 + 1) * (y1 - y0 + 1) ≤ (x1 - x0 + 1) * sh := Nat.mul_le_mul_left _ (by omega)
      have a2 : (x1 - x0 + 1) * sh < sw * sh := Nat.mul_lt_mul_of_pos_right c (by omega)
      omega
    · omega
  have e2 : y1 - y0 + 1 = sh := by
    rw [e1] at ha
    exact Nat.eq_of_mul_eq_mul_left (by omega) ha
  omega

theorem SlabIs.kept {w w' : World} {b sw sh : Nat} {f : Nat → Int} {q : Option Nat} (h : SlabIs w b sw sh f q) (hb : Below w.heap.size w w') : SlabIs w' b sw sh f q := by
  obtain ⟨v, h1, h2⟩ := h.body
  refine ⟨h.w1, h.w2, h.h1, h.h2, h.may, v, h1.kept hb, ?_⟩
  rcases q with _ | q
  · exact h2
  · exact ⟨h2.1, h2.2.kept hb⟩
theorem SlabIs.congr {w : World} {b sw sh : Nat} {f g : Nat → Int} {q : Option Nat} (h : SlabIs w b sw sh f q) (e : ∀ k, k < sw * sh → f k = g k) : SlabIs w b sw sh g q := by
  obtain ⟨v, h1, h2⟩ := h.body
  refine ⟨h.w1, h.w2, h.h1, h.h2, fun k hk => by rw [← e k hk]; exact h.may k hk, v, h1, ?_⟩
  rcases q with _ | q
  · obtain ⟨z, hz, hf⟩ := h2
    exact ⟨z, hz, fun k hk => by rw [← e k hk]; exact hf k hk⟩
  · exact ⟨h2.1, by rw [← rowA_congr e]; exact h2.2⟩

theorem slab_rough {w : World} {b sw sh n g : Nat} {f : Nat → Int} (hn : sw * sh = n) (s1 : 1 ≤ sw) (s2 : sw ≤ 16) (s3 : 1 ≤ sh) (s4 : sh ≤ 16) (hm : ∀ k, k < n → MayV (f k))
    (hb : Blk w b 133 #[.int .i64 sw, .int .i64 sh, .iface 135 (.slice (some ⟨g, 0, none⟩) n n)]) (hg : Blk w g 21 (rowA n f)) : SlabIs w b sw sh f (some g) := by
  subst hn; exact ⟨s1, s2, s3, s4, hm, _, hb, rfl, hg⟩
theorem slab_flat {w : World} {b sw sh n : Nat} {f : Nat → Int} {z : Int} (hn : sw * sh = n) (s1 : 1 ≤ sw) (s2 : sw ≤ 16) (s3 : 1 ≤ sh) (s4 : sh ≤ 16) (hm : ∀ k, k < n → MayV (f k)) (hf : ∀ k, k < n → f k = z)
    (hb : Blk w b 133 #[.int .i64 sw, .int .i64 sh, .iface 128 (.int .i32 z)]) : SlabIs w b sw sh f none := by
  subst hn; exact ⟨s1, s2, s3, s4, hm, _, hb, z, rfl, hf⟩

/-- a slab has been filled -/
def GivesFilled (w : World) (b sw sh : Nat) (f : Nat → Int) (q : Option Nat) (e : Ending) (w' : World) : Prop :=
  ∃ q', e = .returned (.int .i64 0) ∧ SlabIs w' b sw sh f q' ∧ Touch (fun i => i = b ∨ some i = q) w w' ∧ (∀ g, q' = some g → q = some g ∨ w.heap.size ≤ g)

set_option maxHeartbeats 4000000 in
set_option maxRecDepth 100000 in
theorem sFill_same (b sw sh x0 y0 x1 y1 n : Nat) (v one : Int) (V : Value) (w : World) (hb : Blk w b 133 #[.int .i64 sw, .int .i64 sh, V]) (s1 : 1 ≤ sw) (s2 : sw ≤ 16) (s3 : 1 ≤ sh) (s4 : sh ≤ 16) (hn : sw * sh = n)
    (hx : x0 ≤ x1) (hx' : x1 < sw) (hy : y0 ≤ y1) (hy' : y1 < sh) (hv : MayV v) (ta : ∀ W : World, (Instr.typeAssert V 131 128 true).run Try.prog W = .ok (.tuple #[.int .i32 one, .bool true]) W) (hone : (one == v) = true)
       :
    Calls Try.prog 49 #[.pointer (some ⟨b, 0, none⟩), rectV x0 y0 x1 y1, .int .i64 v] w (fun e w' => e = .returned (.int .i64 0) ∧ ∃ w1, Below w.heap.size w w1 ∧ w' = w1.setCell ⟨b, 2, none⟩ (.iface 128 (.int .i32 v))) := by
  have hs := fun W hbW => scheck_any b sw sh V x0 y0 x1 y1 W hbW s2 s4
  rw [show withinZ x0 y0 x1 y1 sw sh = 0 from within_of ⟨by omega, by omega, by omega, by omega⟩ (by omega) (by omega) (by omega) (by omega) (by omega) (by omega)] at hs
  have HS := Lib.hid hs
  have hm := fun W => may_any v W
  rw [show decide (MayV v) = true from decide_eq_true hv] at hm
  have HM := Lib.hid hm
  have hA := fun W => Area_any x0 y0 x1 y1 W
  rw [show areaZ x0 y0 x1 y1 = ((x1 : Int) - x0 + 1) * ((y1 : Int) - y0 + 1) by
    unfold areaZ; rw [if_pos ((right_iff _ _ _ _).2 ⟨by omega, by omega, by omega, by omega, by omega, by omega⟩)]] at hA
  have HA := Lib.hid hA
  have hlt := hb.lt
  have HBK := Lib.hid hb
  have HN := Lib.hid hn
  have n1 : 1 ≤ n := by rw [← hn]; exact Nat.mul_pos s1 s3
  have n2 : n ≤ 256 := by rw [← hn]; exact Nat.mul_le_mul s2 s4
  have W1 : IntKind.i64.wrap ((sw : Int) * (sh : Int)) = (n : Int) := by
    rw [show (sw : Int) * (sh : Int) = ((sw * sh : Nat) : Int) by simp, hn]
    exact IntWalk.i64_in _ (by omega)
  have W2 := i32_wrap v hv
  have HV := Lib.hid hv
  obtain ⟨ar, har⟩ : ∃ ar, ((x1 : Int) - x0 + 1) * ((y1 : Int) - y0 + 1) = ar := ⟨_, rfl⟩
  rw [har] at HA 
  clear hs hm hA hb hn har hv
  go_enter Try.func49, Try.ntmps49
  go_wp2_with fail
  refine (HS.out _ (HBK.out.alloc _)).mono ?_
  rintro e w1 ⟨rfl, hb1⟩
  have HB1 : Below (w.heap.size + 1) (w.alloc (.cells #[.int .i64 x0, .int .i64 y0, .int .i64 x1, .int .i64 y1] 45)) w1 := by simpa using hb1
  have hz1 : w.heap.size + 1 ≤ w1.heap.size := by have := HB1.size; simpa using this
  have BB := (HBK.out.alloc (.cells #[.int .i64 x0, .int .i64 y0, .int .i64 x1, .int .i64 y1] 45)).below HB1 (by omega)
  have BC := (Blk.new w 45 #[.int .i64 x0, .int .i64 y0, .int .i64 x1, .int .i64 y1]).below HB1 (by omega)
  have D : Box3 w1 b (.int .i64 sw) (.int .i64 sh) V := ⟨BB.cell 0, BB.cell 1, BB.cell 2⟩
  have C : Box4 w1 w.heap.size (.int .i64 x0) (.int .i64 y0) (.int .i64 x1) (.int .i64 y1) := ⟨BC.cell 0, BC.cell 1, BC.cell 2, BC.cell 3⟩
  have HB : Below w.heap.size w w1 := (new_bel w _).trans (HB1.mono (by omega))
  clear hb1 HS HB1
  go_wp2_with fail
  refine (HM.out _).mono ?_
  rintro e w2 ⟨rfl, rfl⟩
  obtain ⟨d0, d1, d2⟩ := id D
  have fz := BB.frozen 2
  go_wp2_with fail
  refine wp_region_noPanic ?_
  refine wp_region_held_drew (S := (fun W => (W.cell? ⟨w.heap.size, 0, none⟩ = some (.int .i64 x0) ∧ W.cell? ⟨w.heap.size, 1, none⟩ = some (.int .i64 y0) ∧ W.cell? ⟨w.heap.size, 2, none⟩ = some (.int .i64 x1) ∧ W.cell? ⟨w.heap.size, 3, none⟩ = some (.int .i64 y1)) ∧ (W.cell? ⟨b, 0, none⟩ = some (.int .i64 sw) ∧ W.cell? ⟨b, 1, none⟩ = some (.int .i64 sh) ∧ W.cell? ⟨b, 2, none⟩ = some V))) (by kernel_rfl) ?_ (fun hHeld => ?_)
  · exact ⟨C, D⟩
  refine wpAnyH_take (i := 0) (oi := _) (v := ?_) rfl (by kernel_rfl) (by kernel_rfl) (by kernel_rfl) (fun _ _ _ h => h) (Or.inl ⟨by rfl, ?_⟩) (by assumption) ?_
  rotate_left
  · (intro w hSw; (try dsimp only at hSw); go_simp; try with_reducible rfl)
  try simp only [List.getElem_toArray, List.getElem_cons_zero, List.getElem_cons_succ, Act.put, List.setIfInBounds_toArray, List.set_cons_zero, List.set_cons_succ]
  refine wpAnyH_take (i := 1) (oi := _) (v := ?_) rfl (by kernel_rfl) (by kernel_rfl) (by kernel_rfl) (fun _ _ _ h => h) (Or.inl ⟨by rfl, ?_⟩) (by assumption) ?_
  rotate_left
  · (intro w hSw; (try dsimp only at hSw); go_simp; try with_reducible rfl)
  try simp only [List.getElem_toArray, List.getElem_cons_zero, List.getElem_cons_succ, Act.put, List.setIfInBounds_toArray, List.set_cons_zero, List.set_cons_succ]
  refine wpAnyH_take (i := 2) (oi := _) (v := ?_) rfl (by kernel_rfl) (by kernel_rfl) (by kernel_rfl) (fun _ _ _ h => h) (Or.inl ⟨by rfl, ?_⟩) (by assumption) ?_
  rotate_left
  · (intro w hSw; (try dsimp only at hSw); go_simp; try with_reducible rfl)
  try simp only [List.getElem_toArray, List.getElem_cons_zero, List.getElem_cons_succ, Act.put, List.setIfInBounds_toArray, List.set_cons_zero, List.set_cons_succ]
  refine wpAnyH_take (i := 3) (oi := _) (v := ?_) rfl (by kernel_rfl) (by kernel_rfl) (by kernel_rfl) (fun _ _ _ h => h) (Or.inl ⟨by rfl, ?_⟩) (by assumption) ?_
  rotate_left
  · (intro w hSw; (try dsimp only at hSw); go_simp; try with_reducible rfl)
  try simp only [List.getElem_toArray, List.getElem_cons_zero, List.getElem_cons_succ, Act.put, List.setIfInBounds_toArray, List.set_cons_zero, List.set_cons_succ]
  refine wpAnyH_take (i := 4) (oi := _) (v := ?_) rfl (by kernel_rfl) (by kernel_rfl) (by kernel_rfl) (fun _ _ _ h => h) (Or.inl ⟨by rfl, ?_⟩) (by assumption) ?_
  rotate_left
  · (intro w hSw; (try dsimp only at hSw); go_simp; try with_reducible rfl)
  try simp only [List.getElem_toArray, List.getElem_cons_zero, List.getElem_cons_succ, Act.put, List.setIfInBounds_toArray, List.set_cons_zero, List.set_cons_succ]
  refine wpAnyH_take (i := 5) (oi := _) (v := ?_) rfl (by kernel_rfl) (by kernel_rfl) (by kernel_rfl) (fun _ _ _ h => h) (Or.inl ⟨by rfl, ?_⟩) (by assumption) ?_
  rotate_left
  · (intro w hSw; (try dsimp only at hSw); go_simp; try with_reducible rfl)
  try simp only [List.getElem_toArray, List.getElem_cons_zero, List.getElem_cons_succ, Act.put, List.setIfInBounds_toArray, List.set_cons_zero, List.set_cons_succ]
  refine wpAnyH_take (i := 6) (oi := _) (v := ?_) rfl (by kernel_rfl) (by kernel_rfl) (by kernel_rfl) (fun _ _ _ h => h) (Or.inl ⟨by rfl, ?_⟩) (by assumption) ?_
  rotate_left
  · (intro w hSw; (try dsimp only at hSw); go_simp; try with_reducible rfl)
  try simp only [List.getElem_toArray, List.getElem_cons_zero, List.getElem_cons_succ, Act.put, List.setIfInBounds_toArray, List.set_cons_zero, List.set_cons_succ]
  refine wpAnyH_take (i := 7) (oi := _) (v := ?_) rfl (by kernel_rfl) (by kernel_rfl) (by kernel_rfl) (fun _ _ _ h => h) (Or.inl ⟨by rfl, ?_⟩) (by assumption) ?_
  rotate_left
  · (intro w hSw; (try dsimp only at hSw); go_simp; try with_reducible rfl)
  try simp only [List.getElem_toArray, List.getElem_cons_zero, List.getElem_cons_succ, Act.put, List.setIfInBounds_toArray, List.set_cons_zero, List.set_cons_succ]
  refine wpAnyH_take (i := 8) (oi := _) (v := undef) rfl (by kernel_rfl) (by kernel_rfl) (by kernel_rfl) (fun _ _ _ h => h) (Or.inr ⟨by rfl, rfl⟩) (by assumption) ?_
  try simp only [List.getElem_toArray, List.getElem_cons_zero, List.getElem_cons_succ, Act.put, List.setIfInBounds_toArray, List.set_cons_zero, List.set_cons_succ]
  refine wpAnyH_take (i := 9) (oi := _) (v := undef) rfl (by kernel_rfl) (by kernel_rfl) (by kernel_rfl) (fun _ _ _ h => h) (Or.inr ⟨by rfl, rfl⟩) (by assumption) ?_
  try simp only [List.getElem_toArray, List.getElem_cons_zero, List.getElem_cons_succ, Act.put, List.setIfInBounds_toArray, List.set_cons_zero, List.set_cons_succ]
  refine wpAnyH_take (i := 10) (oi := _) (v := undef) rfl (by kernel_rfl) (by kernel_rfl) (by kernel_rfl) (fun _ _ _ h => h) (Or.inr ⟨by rfl, rfl⟩) (by assumption) ?_
  try simp only [List.getElem_toArray, List.getElem_cons_zero, List.getElem_cons_succ, Act.put, List.setIfInBounds_toArray, List.set_cons_zero, List.set_cons_succ]
  refine wpAnyH_take (i := 11) (oi := _) (v := undef) rfl (by kernel_rfl) (by kernel_rfl) (by kernel_rfl) (fun _ _ _ h => h) (Or.inr ⟨by rfl, rfl⟩) (by assumption) ?_
  try simp only [List.getElem_toArray, List.getElem_cons_zero, List.getElem_cons_succ, Act.put, List.setIfInBounds_toArray, List.set_cons_zero, List.set_cons_succ]
  refine wpAnyH_take (i := 12) (oi := _) (v := undef) rfl (by kernel_rfl) (by kernel_rfl) (by kernel_rfl) (fun _ _ _ h => h) (Or.inr ⟨by rfl, rfl⟩) (by assumption) ?_
  try simp only [List.getElem_toArray, List.getElem_cons_zero, List.getElem_cons_succ, Act.put, List.setIfInBounds_toArray, List.set_cons_zero, List.set_cons_succ]
  refine wpAnyH_take (i := 13) (oi := _) (v := undef) rfl (by kernel_rfl) (by kernel_rfl) (by kernel_rfl) (fun _ _ _ h => h) (Or.inr ⟨by rfl, rfl⟩) (by assumption) ?_
  try simp only [List.getElem_toArray, List.getElem_cons_zero, List.getElem_cons_succ, Act.put, List.setIfInBounds_toArray, List.set_cons_zero, List.set_cons_succ]
  refine wpAnyH_take (i := 14) (oi := _) (v := undef) rfl (by kernel_rfl) (by kernel_rfl) (by kernel_rfl) (fun _ _ _ h => h) (Or.inr ⟨by rfl, rfl⟩) (by assumption) ?_
  try simp only [List.getElem_toArray, List.getElem_cons_zero, List.getElem_cons_succ, Act.put, List.setIfInBounds_toArray, List.set_cons_zero, List.set_cons_succ]
  refine wpAnyH_take (i := 15) (oi := _) (v := undef) rfl (by kernel_rfl) (by kernel_rfl) (by kernel_rfl) (fun _ _ _ h => h) (Or.inr ⟨by rfl, rfl⟩) (by assumption) ?_
  try simp only [List.getElem_toArray, List.getElem_cons_zero, List.getElem_cons_succ, Act.put, List.setIfInBounds_toArray, List.set_cons_zero, List.set_cons_succ]
  refine wpAnyH_take (i := 16) (oi := _) (v := undef) rfl (by kernel_rfl) (by kernel_rfl) (by kernel_rfl) (fun _ _ _ h => h) (Or.inr ⟨by rfl, rfl⟩) (by assumption) ?_
  try simp only [List.getElem_toArray, List.getElem_cons_zero, List.getElem_cons_succ, Act.put, List.setIfInBounds_toArray, List.set_cons_zero, List.set_cons_succ]
  refine wpAnyH_take (i := 17) (oi := _) (v := undef) rfl (by kernel_rfl) (by kernel_rfl) (by kernel_rfl) (fun _ _ _ h => h) (Or.inr ⟨by rfl, rfl⟩) (by assumption) ?_
  try simp only [List.getElem_toArray, List.getElem_cons_zero, List.getElem_cons_succ, Act.put, List.setIfInBounds_toArray, List.set_cons_zero, List.set_cons_succ]
  refine wpAnyH_take (i := 18) (oi := _) (v := undef) rfl (by kernel_rfl) (by kernel_rfl) (by kernel_rfl) (fun _ _ _ h => h) (Or.inr ⟨by rfl, rfl⟩) (by assumption) ?_
  try simp only [List.getElem_toArray, List.getElem_cons_zero, List.getElem_cons_succ, Act.put, List.setIfInBounds_toArray, List.set_cons_zero, List.set_cons_succ]
  refine wpAnyH_take (i := 19) (oi := _) (v := undef) rfl (by kernel_rfl) (by kernel_rfl) (by kernel_rfl) (fun _ _ _ h => h) (Or.inr ⟨by rfl, rfl⟩) (by assumption) ?_
  try simp only [List.getElem_toArray, List.getElem_cons_zero, List.getElem_cons_succ, Act.put, List.setIfInBounds_toArray, List.set_cons_zero, List.set_cons_succ]
  refine wpAnyH_take (i := 20) (oi := _) (v := ?_) rfl (by kernel_rfl) (by kernel_rfl) (by kernel_rfl) (fun _ _ _ h => h) (Or.inl ⟨by rfl, ?_⟩) (by assumption) ?_
  rotate_left
  · (intro w hSw; (try dsimp only at hSw); go_simp; try with_reducible rfl)
  try simp only [List.getElem_toArray, List.getElem_cons_zero, List.getElem_cons_succ, Act.put, List.setIfInBounds_toArray, List.set_cons_zero, List.set_cons_succ]
  refine wpAnyH_done (by kernel_rfl) ?_ _
  refine NoPanic.normal ?_
  go_wp2_with fail
  go_ret
  exact ⟨rfl, w1.drew, HB.drew, rfl⟩

set_option maxHeartbeats 4000000 in
set_option maxRecDepth 100000 in
theorem sFill_whole_t (b sw sh x0 y0 x1 y1 n : Nat) (v one : Int) (V : Value) (w : World) (hb : Blk w b 133 #[.int .i64 sw, .int .i64 sh, V]) (s1 : 1 ≤ sw) (s2 : sw ≤ 16) (s3 : 1 ≤ sh) (s4 : sh ≤ 16) (hn : sw * sh = n)
    (hx : x0 ≤ x1) (hx' : x1 < sw) (hy : y0 ≤ y1) (hy' : y1 < sh) (hv : MayV v) (ta : ∀ W : World, (Instr.typeAssert V 131 128 true).run Try.prog W = .ok (.tuple #[.int .i32 one, .bool true]) W) (hone : (one == v) = false)
    (harea : ((((x1 : Int) - x0 + 1) * ((y1 : Int) - y0 + 1)) == (n : Int)) = true)   :
    Calls Try.prog 49 #[.pointer (some ⟨b, 0, none⟩), rectV x0 y0 x1 y1, .int .i64 v] w (fun e w' => e = .returned (.int .i64 0) ∧ ∃ w1, Below w.heap.size w w1 ∧ w' = w1.setCell ⟨b, 2, none⟩ (.iface 128 (.int .i32 v))) := by
  have hs := fun W hbW => scheck_any b sw sh V x0 y0 x1 y1 W hbW s2 s4
  rw [show withinZ x0 y0 x1 y1 sw sh = 0 from within_of ⟨by omega, by omega, by omega, by omega⟩ (by omega) (by omega) (by omega) (by omega) (by omega) (by omega)] at hs
  have HS := Lib.hid hs
  have hm := fun W => may_any v W
  rw [show decide (MayV v) = true from decide_eq_true hv] at hm
  have HM := Lib.hid hm
  have hA := fun W => Area_any x0 y0 x1 y1 W
  rw [show areaZ x0 y0 x1 y1 = ((x1 : Int) - x0 + 1) * ((y1 : Int) - y0 + 1) by
    unfold areaZ; rw [if_pos ((right_iff _ _ _ _).2 ⟨by omega, by omega, by omega, by omega, by omega, by omega⟩)]] at hA
  have HA := Lib.hid hA
  have hlt := hb.lt
  have HBK := Lib.hid hb
  have HN := Lib.hid hn
  have n1 : 1 ≤ n := by rw [← hn]; exact Nat.mul_pos s1 s3
  have n2 : n ≤ 256 := by rw [← hn]; exact Nat.mul_le_mul s2 s4
  have W1 : IntKind.i64.wrap ((sw : Int) * (sh : Int)) = (n : Int) := by
    rw [show (sw : Int) * (sh : Int) = ((sw * sh : Nat) : Int) by simp, hn]
    exact IntWalk.i64_in _ (by omega)
  have W2 := i32_wrap v hv
  have HV := Lib.hid hv
  obtain ⟨ar, har⟩ : ∃ ar, ((x1 : Int) - x0 + 1) * ((y1 : Int) - y0 + 1) = ar := ⟨_, rfl⟩
  rw [har] at HA harea
  clear hs hm hA hb hn har hv
  go_enter Try.func49, Try.ntmps49
  go_wp2_with fail
  refine (HS.out _ (HBK.out.alloc _)).mono ?_
  rintro e w1 ⟨rfl, hb1⟩
  have HB1 : Below (w.heap.size + 1) (w.alloc (.cells #[.int .i64 x0, .int .i64 y0, .int .i64 x1, .int .i64 y1] 45)) w1 := by simpa using hb1
  have hz1 : w.heap.size + 1 ≤ w1.heap.size := by have := HB1.size; simpa using this
  have BB := (HBK.out.alloc (.cells #[.int .i64 x0, .int .i64 y0, .int .i64 x1, .int .i64 y1] 45)).below HB1 (by omega)
  have BC := (Blk.new w 45 #[.int .i64 x0, .int .i64 y0, .int .i64 x1, .int .i64 y1]).below HB1 (by omega)
  have D : Box3 w1 b (.int .i64 sw) (.int .i64 sh) V := ⟨BB.cell 0, BB.cell 1, BB.cell 2⟩
  have C : Box4 w1 w.heap.size (.int .i64 x0) (.int .i64 y0) (.int .i64 x1) (.int .i64 y1) := ⟨BC.cell 0, BC.cell 1, BC.cell 2, BC.cell 3⟩
  have HB : Below w.heap.size w w1 := (new_bel w _).trans (HB1.mono (by omega))
  clear hb1 HS HB1
  go_wp2_with fail
  refine (HM.out _).mono ?_
  rintro e w2 ⟨rfl, rfl⟩
  obtain ⟨d0, d1, d2⟩ := id D
  have fz := BB.frozen 2
  go_wp2_with fail
  refine wp_region_noPanic ?_
  refine wp_region_held_drew (S := (fun W => (W.cell? ⟨w.heap.size, 0, none⟩ = some (.int .i64 x0) ∧ W.cell? ⟨w.heap.size, 1, none⟩ = some (.int .i64 y0) ∧ W.cell? ⟨w.heap.size, 2, none⟩ = some (.int .i64 x1) ∧ W.cell? ⟨w.heap.size, 3, none⟩ = some (.int .i64 y1)) ∧ (W.cell? ⟨b, 0, none⟩ = some (.int .i64 sw) ∧ W.cell? ⟨b, 1, none⟩ = some (.int .i64 sh) ∧ W.cell? ⟨b, 2, none⟩ = some V))) (by kernel_rfl) ?_ (fun hHeld => ?_)
  · exact ⟨C, D⟩
  refine wpAnyH_take (i := 0) (oi := _) (v := ?_) rfl (by kernel_rfl) (by kernel_rfl) (by kernel_rfl) (fun _ _ _ h => h) (Or.inl ⟨by rfl, ?_⟩) (by assumption) ?_
  rotate_left
  · (intro w hSw; (try dsimp only at hSw); go_simp; try with_reducible rfl)
  try simp only [List.getElem_toArray, List.getElem_cons_zero, List.getElem_cons_succ, Act.put, List.setIfInBounds_toArray, List.set_cons_zero, List.set_cons_succ]
  refine wpAnyH_take (i := 1) (oi := _) (v := ?_) rfl (by kernel_rfl) (by kernel_rfl) (by kernel_rfl) (fun _ _ _ h => h) (Or.inl ⟨by rfl, ?_⟩) (by assumption) ?_
  rotate_left
  · (intro w hSw; (try dsimp only at hSw); go_simp; try with_reducible rfl)
  try simp only [List.getElem_toArray, List.getElem_cons_zero, List.getElem_cons_succ, Act.put, List.setIfInBounds_toArray, List.set_cons_zero, List.set_cons_succ]
  refine wpAnyH_take (i := 2) (oi := _) (v := ?_) rfl (by kernel_rfl) (by kernel_rfl) (by kernel_rfl) (fun _ _ _ h => h) (Or.inl ⟨by rfl, ?_⟩) (by assumption) ?_
  rotate_left
  · (intro w hSw; (try dsimp only at hSw); go_simp; try with_reducible rfl)
  try simp only [List.getElem_toArray, List.getElem_cons_zero, List.getElem_cons_succ, Act.put, List.setIfInBounds_toArray, List.set_cons_zero, List.set_cons_succ]
  refine wpAnyH_take (i := 3) (oi := _) (v := ?_) rfl (by kernel_rfl) (by kernel_rfl) (by kernel_rfl) (fun _ _ _ h => h) (Or.inl ⟨by rfl, ?_⟩) (by assumption) ?_
  rotate_left
  · (intro w hSw; (try dsimp only at hSw); go_simp; try with_reducible rfl)
  try simp only [List.getElem_toArray, List.getElem_cons_zero, List.getElem_cons_succ, Act.put, List.setIfInBounds_toArray, List.set_cons_zero, List.set_cons_succ]
  refine wpAnyH_take (i := 4) (oi := _) (v := ?_) rfl (by kernel_rfl) (by kernel_rfl) (by kernel_rfl) (fun _ _ _ h => h) (Or.inl ⟨by rfl, ?_⟩) (by assumption) ?_
  rotate_left
  · (intro w hSw; (try dsimp only at hSw); go_simp; try with_reducible rfl)
  try simp only [List.getElem_toArray, List.getElem_cons_zero, List.getElem_cons_succ, Act.put, List.setIfInBounds_toArray, List.set_cons_zero, List.set_cons_succ]
  refine wpAnyH_take (i := 5) (oi := _) (v := ?_) rfl (by kernel_rfl) (by kernel_rfl) (by kernel_rfl) (fun _ _ _ h => h) (Or.inl ⟨by rfl, ?_⟩) (by assumption) ?_
  rotate_left
  · (intro w hSw; (try dsimp only at hSw); go_simp; try with_reducible rfl)
  try simp only [List.getElem_toArray, List.getElem_cons_zero, List.getElem_cons_succ, Act.put, List.setIfInBounds_toArray, List.set_cons_zero, List.set_cons_succ]
  refine wpAnyH_take (i := 6) (oi := _) (v := ?_) rfl (by kernel_rfl) (by kernel_rfl) (by kernel_rfl) (fun _ _ _ h => h) (Or.inl ⟨by rfl, ?_⟩) (by assumption) ?_
  rotate_left
  · (intro w hSw; (try dsimp only at hSw); go_simp; try with_reducible rfl)
  try simp only [List.getElem_toArray, List.getElem_cons_zero, List.getElem_cons_succ, Act.put, List.setIfInBounds_toArray, List.set_cons_zero, List.set_cons_succ]
  refine wpAnyH_take (i := 7) (oi := _) (v := ?_) rfl (by kernel_rfl) (by kernel_rfl) (by kernel_rfl) (fun _ _ _ h => h) (Or.inl ⟨by rfl, ?_⟩) (by assumption) ?_
  rotate_left
  · (intro w hSw; (try dsimp only at hSw); go_simp; try with_reducible rfl)
  try simp only [List.getElem_toArray, List.getElem_cons_zero, List.getElem_cons_succ, Act.put, List.setIfInBounds_toArray, List.set_cons_zero, List.set_cons_succ]
  refine wpAnyH_take (i := 8) (oi := _) (v := ?_) rfl (by kernel_rfl) (by kernel_rfl) (by kernel_rfl) (fun _ _ _ h => h) (Or.inl ⟨by rfl, ?_⟩) (by assumption) ?_
  rotate_left
  · (intro w hSw; (try dsimp only at hSw); go_simp; try with_reducible rfl)
  try simp only [List.getElem_toArray, List.getElem_cons_zero, List.getElem_cons_succ, Act.put, List.setIfInBounds_toArray, List.set_cons_zero, List.set_cons_succ]
  refine wpAnyH_take (i := 10) (oi := _) (v := ?_) rfl (by kernel_rfl) (by kernel_rfl) (by kernel_rfl) (fun _ _ _ h => h) (Or.inl ⟨by rfl, ?_⟩) (by assumption) ?_
  rotate_left
  · (intro w hSw; (try dsimp only at hSw); go_simp; try with_reducible rfl)
  try simp only [List.getElem_toArray, List.getElem_cons_zero, List.getElem_cons_succ, Act.put, List.setIfInBounds_toArray, List.set_cons_zero, List.set_cons_succ]
  refine wpAnyH_take (i := 11) (oi := _) (v := ?_) rfl (by kernel_rfl) (by kernel_rfl) (by kernel_rfl) (fun _ _ _ h => h) (Or.inl ⟨by rfl, ?_⟩) (by assumption) ?_
  rotate_left
  · (intro w hSw; (try dsimp only at hSw); go_simp; try with_reducible rfl)
  try simp only [List.getElem_toArray, List.getElem_cons_zero, List.getElem_cons_succ, Act.put, List.setIfInBounds_toArray, List.set_cons_zero, List.set_cons_succ]
  refine wpAnyH_take (i := 12) (oi := _) (v := ?_) rfl (by kernel_rfl) (by kernel_rfl) (by kernel_rfl) (fun _ _ _ h => h) (Or.inl ⟨by rfl, ?_⟩) (by assumption) ?_
  rotate_left
  · (intro w hSw; (try dsimp only at hSw); go_simp; try with_reducible rfl)
  try simp only [List.getElem_toArray, List.getElem_cons_zero, List.getElem_cons_succ, Act.put, List.setIfInBounds_toArray, List.set_cons_zero, List.set_cons_succ]
  refine wpAnyH_take (i := 13) (oi := _) (v := ?_) rfl (by kernel_rfl) (by kernel_rfl) (by kernel_rfl) (fun _ _ _ h => h) (Or.inl ⟨by rfl, ?_⟩) (by assumption) ?_
  rotate_left
  · (intro w hSw; (try dsimp only at hSw); go_simp; try with_reducible rfl)
  try simp only [List.getElem_toArray, List.getElem_cons_zero, List.getElem_cons_succ, Act.put, List.setIfInBounds_toArray, List.set_cons_zero, List.set_cons_succ]
  refine wpAnyH_take (i := 14) (oi := _) (v := ?_) rfl (by kernel_rfl) (by kernel_rfl) (by kernel_rfl) (fun _ _ _ h => h) (Or.inl ⟨by rfl, ?_⟩) (by assumption) ?_
  rotate_left
  · (intro w hSw; (try dsimp only at hSw); go_simp; try with_reducible rfl)
  try simp only [List.getElem_toArray, List.getElem_cons_zero, List.getElem_cons_succ, Act.put, List.setIfInBounds_toArray, List.set_cons_zero, List.set_cons_succ]
  refine wpAnyH_take (i := 15) (oi := _) (v := ?_) rfl (by kernel_rfl) (by kernel_rfl) (by kernel_rfl) (fun _ _ _ h => h) (Or.inl ⟨by rfl, ?_⟩) (by assumption) ?_
  rotate_left
  · (intro w hSw; (try dsimp only at hSw); go_simp; try with_reducible rfl)
  try simp only [List.getElem_toArray, List.getElem_cons_zero, List.getElem_cons_succ, Act.put, List.setIfInBounds_toArray, List.set_cons_zero, List.set_cons_succ]
  refine wpAnyH_take (i := 16) (oi := _) (v := ?_) rfl (by kernel_rfl) (by kernel_rfl) (by kernel_rfl) (fun _ _ _ h => h) (Or.inl ⟨by rfl, ?_⟩) (by assumption) ?_
  rotate_left
  · (intro w hSw; (try dsimp only at hSw); go_simp; try with_reducible rfl)
  try simp only [List.getElem_toArray, List.getElem_cons_zero, List.getElem_cons_succ, Act.put, List.setIfInBounds_toArray, List.set_cons_zero, List.set_cons_succ]
  refine wpAnyH_take (i := 17) (oi := _) (v := ?_) rfl (by kernel_rfl) (by kernel_rfl) (by kernel_rfl) (fun _ _ _ h => h) (Or.inl ⟨by rfl, ?_⟩) (by assumption) ?_
  rotate_left
  · (intro w hSw; (try dsimp only at hSw); go_simp; try with_reducible rfl)
  try simp only [List.getElem_toArray, List.getElem_cons_zero, List.getElem_cons_succ, Act.put, List.setIfInBounds_toArray, List.set_cons_zero, List.set_cons_succ]
  refine wpAnyH_take (i := 18) (oi := _) (v := ?_) rfl (by kernel_rfl) (by kernel_rfl) (by kernel_rfl) (fun _ _ _ h => h) (Or.inl ⟨by rfl, ?_⟩) (by assumption) ?_
  rotate_left
  · (intro w hSw; (try dsimp only at hSw); go_simp; try with_reducible rfl)
  try simp only [List.getElem_toArray, List.getElem_cons_zero, List.getElem_cons_succ, Act.put, List.setIfInBounds_toArray, List.set_cons_zero, List.set_cons_succ]
  refine wpAnyH_ready (rs := [9]) (by kernel_rfl) (by simp) ?_
  refine AllReadyH.cons (o := _) rfl (fun K hK => ?_) AllReadyH.nil
  go_simp
  refine (HA.out _).mono ?_
  rintro e w2 ⟨rfl, hb2⟩
  have HX : Below w1.heap.size w1 w2 := bel_trans_drew (Below.refl w1.heap.size w1) hb2 (Nat.le_refl _)
  refine hK.out _ _ ?_ (fun hHeld => ?_)
  · exact ⟨C.bel HX (by omega), D.bel HX (by omega)⟩
  clear hK K
  try simp only [List.getElem_toArray, List.getElem_cons_zero, List.getElem_cons_succ, Act.put, List.setIfInBounds_toArray, List.set_cons_zero, List.set_cons_succ]
  refine wpAnyH_take (i := 19) (oi := _) (v := ?_) rfl (by kernel_rfl) (by kernel_rfl) (by kernel_rfl) (fun _ _ _ h => h) (Or.inl ⟨by rfl, ?_⟩) (by assumption) ?_
  rotate_left
  · (intro w hSw; (try dsimp only at hSw); go_simp; try with_reducible rfl)
  try simp only [List.getElem_toArray, List.getElem_cons_zero, List.getElem_cons_succ, Act.put, List.setIfInBounds_toArray, List.set_cons_zero, List.set_cons_succ]
  refine wpAnyH_take (i := 20) (oi := _) (v := ?_) rfl (by kernel_rfl) (by kernel_rfl) (by kernel_rfl) (fun _ _ _ h => h) (Or.inl ⟨by rfl, ?_⟩) (by assumption) ?_
  rotate_left
  · (intro w hSw; (try dsimp only at hSw); go_simp; try with_reducible rfl)
  try simp only [List.getElem_toArray, List.getElem_cons_zero, List.getElem_cons_succ, Act.put, List.setIfInBounds_toArray, List.set_cons_zero, List.set_cons_succ]
  refine wpAnyH_done (by kernel_rfl) ?_ _
  refine NoPanic.normal ?_
  obtain ⟨e0, e1, e2⟩ := D.bel HX (by omega)
  have fz2 := bel_froz HX _ (by simp; omega) fz
  clear d0 d1 d2 fz
  go_wp2_with fail
  go_ret
  exact ⟨rfl, w2, bel_trans HB (HX.mono (Nat.le_refl _)) (Nat.le_refl _), rfl⟩

set_option maxHeartbeats 4000000 in
set_option maxRecDepth 100000 in
theorem sFill_whole_f (b sw sh x0 y0 x1 y1 n : Nat) (v one : Int) (V : Value) (w : World) (hb : Blk w b 133 #[.int .i64 sw, .int .i64 sh, V]) (s1 : 1 ≤ sw) (s2 : sw ≤ 16) (s3 : 1 ≤ sh) (s4 : sh ≤ 16) (hn : sw * sh = n)
    (hx : x0 ≤ x1) (hx' : x1 < sw) (hy : y0 ≤ y1) (hy' : y1 < sh) (hv : MayV v) (ta : ∀ W : World, (Instr.typeAssert V 131 128 true).run Try.prog W = .ok (.tuple #[.int .i32 one, .bool false]) W) 
    (harea : ((((x1 : Int) - x0 + 1) * ((y1 : Int) - y0 + 1)) == (n : Int)) = true)   :
    Calls Try.prog 49 #[.pointer (some ⟨b, 0, none⟩), rectV x0 y0 x1 y1, .int .i64 v] w (fun e w' => e = .returned (.int .i64 0) ∧ ∃ w1, Below w.heap.size w w1 ∧ w' = w1.setCell ⟨b, 2, none⟩ (.iface 128 (.int .i32 v))) := by
  have hs := fun W hbW => scheck_any b sw sh V x0 y0 x1 y1 W hbW s2 s4
  rw [show withinZ x0 y0 x1 y1 sw sh = 0 from within_of ⟨by omega, by omega, by omega, by omega⟩ (by omega) (by omega) (by omega) (by omega) (by omega) (by omega)] at hs
  have HS := Lib.hid hs
  have hm := fun W => may_any v W
  rw [show decide (MayV v) = true from decide_eq_true hv] at hm
  have HM := Lib.hid hm
  have hA := fun W => Area_any x0 y0 x1 y1 W
  rw [show areaZ x0 y0 x1 y1 = ((x1 : Int) - x0 + 1) * ((y1 : Int) - y0 + 1) by
    unfold areaZ; rw [if_pos ((right_iff _ _ _ _).2 ⟨by omega, by omega, by omega, by omega, by omega, by omega⟩)]] at hA
  have HA := Lib.hid hA
  have hlt := hb.lt
  have HBK := Lib.hid hb
  have HN := Lib.hid hn
  have n1 : 1 ≤ n := by rw [← hn]; exact Nat.mul_pos s1 s3
  have n2 : n ≤ 256 := by rw [← hn]; exact Nat.mul_le_mul s2 s4
  have W1 : IntKind.i64.wrap ((sw : Int) * (sh : Int)) = (n : Int) := by
    rw [show (sw : Int) * (sh : Int) = ((sw * sh : Nat) : Int) by simp, hn]
    exact IntWalk.i64_in _ (by omega)
  have W2 := i32_wrap v hv
  have HV := Lib.hid hv
  obtain ⟨ar, har⟩ : ∃ ar, ((x1 : Int) - x0 + 1) * ((y1 : Int) - y0 + 1) = ar := ⟨_, rfl⟩
  rw [har] at HA harea
  clear hs hm hA hb hn har hv
  go_enter Try.func49, Try.ntmps49
  go_wp2_with fail
  refine (HS.out _ (HBK.out.alloc _)).mono ?_
  rintro e w1 ⟨rfl, hb1⟩
  have HB1 : Below (w.heap.size + 1) (w.alloc (.cells #[.int .i64 x0, .int .i64 y0, .int .i64 x1, .int .i64 y1] 45)) w1 := by simpa using hb1
  have hz1 : w.heap.size + 1 ≤ w1.heap.size := by have := HB1.size; simpa using this
  have BB := (HBK.out.alloc (.cells #[.int .i64 x0, .int .i64 y0, .int .i64 x1, .int .i64 y1] 45)).below HB1 (by omega)
  have BC := (Blk.new w 45 #[.int .i64 x0, .int .i64 y0, .int .i64 x1, .int .i64 y1]).below HB1 (by omega)
  have D : Box3 w1 b (.int .i64 sw) (.int .i64 sh) V := ⟨BB.cell 0, BB.cell 1, BB.cell 2⟩
  have C : Box4 w1 w.heap.size (.int .i64 x0) (.int .i64 y0) (.int .i64 x1) (.int .i64 y1) := ⟨BC.cell 0, BC.cell 1, BC.cell 2, BC.cell 3⟩
  have HB : Below w.heap.size w w1 := (new_bel w _).trans (HB1.mono (by omega))
  clear hb1 HS HB1
  go_wp2_with fail
  refine (HM.out _).mono ?_
  rintro e w2 ⟨rfl, rfl⟩
  obtain ⟨d0, d1, d2⟩ := id D
  have fz := BB.frozen 2
  go_wp2_with fail
  refine wp_region_noPanic ?_
  refine wp_region_held_drew (S := (fun W => (W.cell? ⟨w.heap.size, 0, none⟩ = some (.int .i64 x0) ∧ W.cell? ⟨w.heap.size, 1, none⟩ = some (.int .i64 y0) ∧ W.cell? ⟨w.heap.size, 2, none⟩ = some (.int .i64 x1) ∧ W.cell? ⟨w.heap.size, 3, none⟩ = some (.int .i64 y1)) ∧ (W.cell? ⟨b, 0, none⟩ = some (.int .i64 sw) ∧ W.cell? ⟨b, 1, none⟩ = some (.int .i64 sh) ∧ W.cell? ⟨b, 2, none⟩ = some V))) (by kernel_rfl) ?_ (fun hHeld => ?_)
  · exact ⟨C, D⟩
  refine wpAnyH_take (i := 0) (oi := _) (v := ?_) rfl (by kernel_rfl) (by kernel_rfl) (by kernel_rfl) (fun _ _ _ h => h) (Or.inl ⟨by rfl, ?_⟩) (by assumption) ?_
  rotate_left
  · (intro w hSw; (try dsimp only at hSw); go_simp; try with_reducible rfl)
  try simp only [List.getElem_toArray, List.getElem_cons_zero, List.getElem_cons_succ, Act.put, List.setIfInBounds_toArray, List.set_cons_zero, List.set_cons_succ]
  refine wpAnyH_take (i := 1) (oi := _) (v := ?_) rfl (by kernel_rfl) (by kernel_rfl) (by kernel_rfl) (fun _ _ _ h => h) (Or.inl ⟨by rfl, ?_⟩) (by assumption) ?_
  rotate_left
  · (intro w hSw; (try dsimp only at hSw); go_simp; try with_reducible rfl)
  try simp only [List.getElem_toArray, List.getElem_cons_zero, List.getElem_cons_succ, Act.put, List.setIfInBounds_toArray, List.set_cons_zero, List.set_cons_succ]
  refine wpAnyH_take (i := 2) (oi := _) (v := undef) rfl (by kernel_rfl) (by kernel_rfl) (by kernel_rfl) (fun _ _ _ h => h) (Or.inr ⟨by rfl, rfl⟩) (by assumption) ?_
  try simp only [List.getElem_toArray, List.getElem_cons_zero, List.getElem_cons_succ, Act.put, List.setIfInBounds_toArray, List.set_cons_zero, List.set_cons_succ]
  refine wpAnyH_take (i := 3) (oi := _) (v := undef) rfl (by kernel_rfl) (by kernel_rfl) (by kernel_rfl) (fun _ _ _ h => h) (Or.inr ⟨by rfl, rfl⟩) (by assumption) ?_
  try simp only [List.getElem_toArray, List.getElem_cons_zero, List.getElem_cons_succ, Act.put, List.setIfInBounds_toArray, List.set_cons_zero, List.set_cons_succ]
  refine wpAnyH_take (i := 4) (oi := _) (v := undef) rfl (by kernel_rfl) (by kernel_rfl) (by kernel_rfl) (fun _ _ _ h => h) (Or.inr ⟨by rfl, rfl⟩) (by assumption) ?_
  try simp only [List.getElem_toArray, List.getElem_cons_zero, List.getElem_cons_succ, Act.put, List.setIfInBounds_toArray, List.set_cons_zero, List.set_cons_succ]
  refine wpAnyH_take (i := 5) (oi := _) (v := undef) rfl (by kernel_rfl) (by kernel_rfl) (by kernel_rfl) (fun _ _ _ h => h) (Or.inr ⟨by rfl, rfl⟩) (by assumption) ?_
  try simp only [List.getElem_toArray, List.getElem_cons_zero, List.getElem_cons_succ, Act.put, List.setIfInBounds_toArray, List.set_cons_zero, List.set_cons_succ]
  refine wpAnyH_take (i := 6) (oi := _) (v := ?_) rfl (by kernel_rfl) (by kernel_rfl) (by kernel_rfl) (fun _ _ _ h => h) (Or.inl ⟨by rfl, ?_⟩) (by assumption) ?_
  rotate_left
  · (intro w hSw; (try dsimp only at hSw); go_simp; try with_reducible rfl)
  try simp only [List.getElem_toArray, List.getElem_cons_zero, List.getElem_cons_succ, Act.put, List.setIfInBounds_toArray, List.set_cons_zero, List.set_cons_succ]
  refine wpAnyH_take (i := 7) (oi := _) (v := ?_) rfl (by kernel_rfl) (by kernel_rfl) (by kernel_rfl) (fun _ _ _ h => h) (Or.inl ⟨by rfl, ?_⟩) (by assumption) ?_
  rotate_left
  · (intro w hSw; (try dsimp only at hSw); go_simp; try with_reducible rfl)
  try simp only [List.getElem_toArray, List.getElem_cons_zero, List.getElem_cons_succ, Act.put, List.setIfInBounds_toArray, List.set_cons_zero, List.set_cons_succ]
  refine wpAnyH_take (i := 8) (oi := _) (v := ?_) rfl (by kernel_rfl) (by kernel_rfl) (by kernel_rfl) (fun _ _ _ h => h) (Or.inl ⟨by rfl, ?_⟩) (by assumption) ?_
  rotate_left
  · (intro w hSw; (try dsimp only at hSw); go_simp; try with_reducible rfl)
  try simp only [List.getElem_toArray, List.getElem_cons_zero, List.getElem_cons_succ, Act.put, List.setIfInBounds_toArray, List.set_cons_zero, List.set_cons_succ]
  refine wpAnyH_take (i := 10) (oi := _) (v := ?_) rfl (by kernel_rfl) (by kernel_rfl) (by kernel_rfl) (fun _ _ _ h => h) (Or.inl ⟨by rfl, ?_⟩) (by assumption) ?_
  rotate_left
  · (intro w hSw; (try dsimp only at hSw); go_simp; try with_reducible rfl)
  try simp only [List.getElem_toArray, List.getElem_cons_zero, List.getElem_cons_succ, Act.put, List.setIfInBounds_toArray, List.set_cons_zero, List.set_cons_succ]
  refine wpAnyH_take (i := 11) (oi := _) (v := ?_) rfl (by kernel_rfl) (by kernel_rfl) (by kernel_rfl) (fun _ _ _ h => h) (Or.inl ⟨by rfl, ?_⟩) (by assumption) ?_
  rotate_left
  · (intro w hSw; (try dsimp only at hSw); go_simp; try with_reducible rfl)
  try simp only [List.getElem_toArray, List.getElem_cons_zero, List.getElem_cons_succ, Act.put, List.setIfInBounds_toArray, List.set_cons_zero, List.set_cons_succ]
  refine wpAnyH_take (i := 12) (oi := _) (v := ?_) rfl (by kernel_rfl) (by kernel_rfl) (by kernel_rfl) (fun _ _ _ h => h) (Or.inl ⟨by rfl, ?_⟩) (by assumption) ?_
  rotate_left
  · (intro w hSw; (try dsimp only at hSw); go_simp; try with_reducible rfl)
  try simp only [List.getElem_toArray, List.getElem_cons_zero, List.getElem_cons_succ, Act.put, List.setIfInBounds_toArray, List.set_cons_zero, List.set_cons_succ]
  refine wpAnyH_take (i := 13) (oi := _) (v := ?_) rfl (by kernel_rfl) (by kernel_rfl) (by kernel_rfl) (fun _ _ _ h => h) (Or.inl ⟨by rfl, ?_⟩) (by assumption) ?_
  rotate_left
  · (intro w hSw; (try dsimp only at hSw); go_simp; try with_reducible rfl)
  try simp only [List.getElem_toArray, List.getElem_cons_zero, List.getElem_cons_succ, Act.put, List.setIfInBounds_toArray, List.set_cons_zero, List.set_cons_succ]
  refine wpAnyH_take (i := 14) (oi := _) (v := ?_) rfl (by kernel_rfl) (by kernel_rfl) (by kernel_rfl) (fun _ _ _ h => h) (Or.inl ⟨by rfl, ?_⟩) (by assumption) ?_
  rotate_left
  · (intro w hSw; (try dsimp only at hSw); go_simp; try with_reducible rfl)
  try simp only [List.getElem_toArray, List.getElem_cons_zero, List.getElem_cons_succ, Act.put, List.setIfInBounds_toArray, List.set_cons_zero, List.set_cons_succ]
  refine wpAnyH_take (i := 15) (oi := _) (v := ?_) rfl (by kernel_rfl) (by kernel_rfl) (by kernel_rfl) (fun _ _ _ h => h) (Or.inl ⟨by rfl, ?_⟩) (by assumption) ?_
  rotate_left
  · (intro w hSw; (try dsimp only at hSw); go_simp; try with_reducible rfl)
  try simp only [List.getElem_toArray, List.getElem_cons_zero, List.getElem_cons_succ, Act.put, List.setIfInBounds_toArray, List.set_cons_zero, List.set_cons_succ]
  refine wpAnyH_take (i := 16) (oi := _) (v := ?_) rfl (by kernel_rfl) (by kernel_rfl) (by kernel_rfl) (fun _ _ _ h => h) (Or.inl ⟨by rfl, ?_⟩) (by assumption) ?_
  rotate_left
  · (intro w hSw; (try dsimp only at hSw); go_simp; try with_reducible rfl)
  try simp only [List.getElem_toArray, List.getElem_cons_zero, List.getElem_cons_succ, Act.put, List.setIfInBounds_toArray, List.set_cons_zero, List.set_cons_succ]
  refine wpAnyH_take (i := 17) (oi := _) (v := ?_) rfl (by kernel_rfl) (by kernel_rfl) (by kernel_rfl) (fun _ _ _ h => h) (Or.inl ⟨by rfl, ?_⟩) (by assumption) ?_
  rotate_left
  · (intro w hSw; (try dsimp only at hSw); go_simp; try with_reducible rfl)
  try simp only [List.getElem_toArray, List.getElem_cons_zero, List.getElem_cons_succ, Act.put, List.setIfInBounds_toArray, List.set_cons_zero, List.set_cons_succ]
  refine wpAnyH_take (i := 18) (oi := _) (v := ?_) rfl (by kernel_rfl) (by kernel_rfl) (by kernel_rfl) (fun _ _ _ h => h) (Or.inl ⟨by rfl, ?_⟩) (by assumption) ?_
  rotate_left
  · (intro w hSw; (try dsimp only at hSw); go_simp; try with_reducible rfl)
  try simp only [List.getElem_toArray, List.getElem_cons_zero, List.getElem_cons_succ, Act.put, List.setIfInBounds_toArray, List.set_cons_zero, List.set_cons_succ]
  refine wpAnyH_ready (rs := [9]) (by kernel_rfl) (by simp) ?_
  refine AllReadyH.cons (o := _) rfl (fun K hK => ?_) AllReadyH.nil
  go_simp
  refine (HA.out _).mono ?_
  rintro e w2 ⟨rfl, hb2⟩
  have HX : Below w1.heap.size w1 w2 := bel_trans_drew (Below.refl w1.heap.size w1) hb2 (Nat.le_refl _)
  refine hK.out _ _ ?_ (fun hHeld => ?_)
  · exact ⟨C.bel HX (by omega), D.bel HX (by omega)⟩
  clear hK K
  try simp only [List.getElem_toArray, List.getElem_cons_zero, List.getElem_cons_succ, Act.put, List.setIfInBounds_toArray, List.set_cons_zero, List.set_cons_succ]
  refine wpAnyH_take (i := 19) (oi := _) (v := ?_) rfl (by kernel_rfl) (by kernel_rfl) (by kernel_rfl) (fun _ _ _ h => h) (Or.inl ⟨by rfl, ?_⟩) (by assumption) ?_
  rotate_left
  · (intro w hSw; (try dsimp only at hSw); go_simp; try with_reducible rfl)
  try simp only [List.getElem_toArray, List.getElem_cons_zero, List.getElem_cons_succ, Act.put, List.setIfInBounds_toArray, List.set_cons_zero, List.set_cons_succ]
  refine wpAnyH_take (i := 20) (oi := _) (v := ?_) rfl (by kernel_rfl) (by kernel_rfl) (by kernel_rfl) (fun _ _ _ h => h) (Or.inl ⟨by rfl, ?_⟩) (by assumption) ?_
  rotate_left
  · (intro w hSw; (try dsimp only at hSw); go_simp; try with_reducible rfl)
  try simp only [List.getElem_toArray, List.getElem_cons_zero, List.getElem_cons_succ, Act.put, List.setIfInBounds_toArray, List.set_cons_zero, List.set_cons_succ]
  refine wpAnyH_done (by kernel_rfl) ?_ _
  refine NoPanic.normal ?_
  obtain ⟨e0, e1, e2⟩ := D.bel HX (by omega)
  have fz2 := bel_froz HX _ (by simp; omega) fz
  clear d0 d1 d2 fz
  go_wp2_with fail
  go_ret
  exact ⟨rfl, w2, bel_trans HB (HX.mono (Nat.le_refl _)) (Nat.le_refl _), rfl⟩
end Go.Proofs.Ytccpgalpahfpaaa

/-
  (*Slab).Fill, where only a part of a slab is filled, and not by what all of it is: it is flat.
-/
namespace Go.Proofs.Ytccpgalpahfpaaa
open Go.RowKit
set_option linter.unusedVariables false
set_option linter.unusedSimpArgs false

set_option maxHeartbeats 4000000 in
set_option maxRecDepth 100000 in
theorem sFill_part_t (b sw sh x0 y0 x1 y1 n : Nat) (v one : Int) (V : Value) (f : Nat → Int) (q : Option Nat) (w : World) (hb : Blk w b 133 #[.int .i64 sw, .int .i64 sh, V]) (s1 : 1 ≤ sw) (s2 : sw ≤ 16) (s3 : 1 ≤ sh) (s4 : sh ≤ 16) (hn : sw * sh = n)
    (hx : x0 ≤ x1) (hx' : x1 < sw) (hy : y0 ≤ y1) (hy' : y1 < sh) (hv : MayV v) (ta : ∀ W : World, (Instr.typeAssert V 131 128 true).run Try.prog W = .ok (.tuple #[.int .i32 one, .bool true]) W) (hone : (one == v) = false)
    (harea : ((((x1 : Int) - x0 + 1) * ((y1 : Int) - y0 + 1)) == (n : Int)) = false) (HR : Hid (∀ W, Below w.heap.size w W → Calls Try.prog 80 #[.pointer (some ⟨b, 0, none⟩)] W (GivesRough W b sw sh f q))) :
    Calls Try.prog 49 #[.pointer (some ⟨b, 0, none⟩), rectV x0 y0 x1 y1, .int .i64 v] w (GivesFilled w b sw sh (fillK sw x0 y0 x1 y1 v f) q) := by
  have hs := fun W hbW => scheck_any b sw sh V x0 y0 x1 y1 W hbW s2 s4
  rw [show withinZ x0 y0 x1 y1 sw sh = 0 from within_of ⟨by omega, by omega, by omega, by omega⟩ (by omega) (by omega) (by omega) (by omega) (by omega) (by omega)] at hs
  have HS := Lib.hid hs
  have hm := fun W => may_any v W
  rw [show decide (MayV v) = true from decide_eq_true hv] at hm
  have HM := Lib.hid hm
  have hA := fun W => Area_any x0 y0 x1 y1 W
  rw [show areaZ x0 y0 x1 y1 = ((x1 : Int) - x0 + 1) * ((y1 : Int) - y0 + 1) by
    unfold areaZ; rw [if_pos ((right_iff _ _ _ _).2 ⟨by omega, by omega, by omega, by omega, by omega, by omega⟩)]] at hA
  have HA := Lib.hid hA
  have hlt := hb.lt
  have HBK := Lib.hid hb
  have HN := Lib.hid hn
  have n1 : 1 ≤ n := by rw [← hn]; exact Nat.mul_pos s1 s3
  have n2 : n ≤ 256 := by rw [← hn]; exact Nat.mul_le_mul s2 s4
  have W1 : IntKind.i64.wrap ((sw : Int) * (sh : Int)) = (n : Int) := by
    rw [show (sw : Int) * (sh : Int) = ((sw * sh : Nat) : Int) by simp, hn]
    exact IntWalk.i64_in _ (by omega)
  have W2 := i32_wrap v hv
  have HV := Lib.hid hv
  obtain ⟨ar, har⟩ : ∃ ar, ((x1 : Int) - x0 + 1) * ((y1 : Int) - y0 + 1) = ar := ⟨_, rfl⟩
  rw [har] at HA harea
  clear hs hm hA hb hn har hv
  go_enter Try.func49, Try.ntmps49
  go_wp2_with fail
  refine (HS.out _ (HBK.out.alloc _)).mono ?_
  rintro e w1 ⟨rfl, hb1⟩
  have HB1 : Below (w.heap.size + 1) (w.alloc (.cells #[.int .i64 x0, .int .i64 y0, .int .i64 x1, .int .i64 y1] 45)) w1 := by simpa using hb1
  have hz1 : w.heap.size + 1 ≤ w1.heap.size := by have := HB1.size; simpa using this
  have BB := (HBK.out.alloc (.cells #[.int .i64 x0, .int .i64 y0, .int .i64 x1, .int .i64 y1] 45)).below HB1 (by omega)
  have BC := (Blk.new w 45 #[.int .i64 x0, .int .i64 y0, .int .i64 x1, .int .i64 y1]).below HB1 (by omega)
  have D : Box3 w1 b (.int .i64 sw) (.int .i64 sh) V := ⟨BB.cell 0, BB.cell 1, BB.cell 2⟩
  have C : Box4 w1 w.heap.size (.int .i64 x0) (.int .i64 y0) (.int .i64 x1) (.int .i64 y1) := ⟨BC.cell 0, BC.cell 1, BC.cell 2, BC.cell 3⟩
  have HB : Below w.heap.size w w1 := (new_bel w _).trans (HB1.mono (by omega))
  clear hb1 HS HB1
  go_wp2_with fail
  refine (HM.out _).mono ?_
  rintro e w2 ⟨rfl, rfl⟩
  obtain ⟨d0, d1, d2⟩ := id D
  have fz := BB.frozen 2
  go_wp2_with fail
  refine wp_region_noPanic ?_
  refine wp_region_held_drew (S := (fun W => (W.cell? ⟨w.heap.size, 0, none⟩ = some (.int .i64 x0) ∧ W.cell? ⟨w.heap.size, 1, none⟩ = some (.int .i64 y0) ∧ W.cell? ⟨w.heap.size, 2, none⟩ = some (.int .i64 x1) ∧ W.cell? ⟨w.heap.size, 3, none⟩ = some (.int .i64 y1)) ∧ (W.cell? ⟨b, 0, none⟩ = some (.int .i64 sw) ∧ W.cell? ⟨b, 1, none⟩ = some (.int .i64 sh) ∧ W.cell? ⟨b, 2, none⟩ = some V))) (by kernel_rfl) ?_ (fun hHeld => ?_)
  · exact ⟨C, D⟩
  refine wpAnyH_take (i := 0) (oi := _) (v := ?_) rfl (by kernel_rfl) (by kernel_rfl) (by kernel_rfl) (fun _ _ _ h => h) (Or.inl ⟨by rfl, ?_⟩) (by assumption) ?_
  rotate_left
  · (intro w hSw; (try dsimp only at hSw); go_simp; try with_reducible rfl)
  try simp only [List.getElem_toArray, List.getElem_cons_zero, List.getElem_cons_succ, Act.put, List.setIfInBounds_toArray, List.set_cons_zero, List.set_cons_succ]
  refine wpAnyH_take (i := 1) (oi := _) (v := ?_) rfl (by kernel_rfl) (by kernel_rfl) (by kernel_rfl) (fun _ _ _ h => h) (Or.inl ⟨by rfl, ?_⟩) (by assumption) ?_
  rotate_left
  · (intro w hSw; (try dsimp only at hSw); go_simp; try with_reducible rfl)
  try simp only [List.getElem_toArray, List.getElem_cons_zero, List.getElem_cons_succ, Act.put, List.setIfInBounds_toArray, List.set_cons_zero, List.set_cons_succ]
  refine wpAnyH_take (i := 2) (oi := _) (v := ?_) rfl (by kernel_rfl) (by kernel_rfl) (by kernel_rfl) (fun _ _ _ h => h) (Or.inl ⟨by rfl, ?_⟩) (by assumption) ?_
  rotate_left
  · (intro w hSw; (try dsimp only at hSw); go_simp; try with_reducible rfl)
  try simp only [List.getElem_toArray, List.getElem_cons_zero, List.getElem_cons_succ, Act.put, List.setIfInBounds_toArray, List.set_cons_zero, List.set_cons_succ]
  refine wpAnyH_take (i := 3) (oi := _) (v := ?_) rfl (by kernel_rfl) (by kernel_rfl) (by kernel_rfl) (fun _ _ _ h => h) (Or.inl ⟨by rfl, ?_⟩) (by assumption) ?_
  rotate_left
  · (intro w hSw; (try dsimp only at hSw); go_simp; try with_reducible rfl)
  try simp only [List.getElem_toArray, List.getElem_cons_zero, List.getElem_cons_succ, Act.put, List.setIfInBounds_toArray, List.set_cons_zero, List.set_cons_succ]
  refine wpAnyH_take (i := 4) (oi := _) (v := ?_) rfl (by kernel_rfl) (by kernel_rfl) (by kernel_rfl) (fun _ _ _ h => h) (Or.inl ⟨by rfl, ?_⟩) (by assumption) ?_
  rotate_left
  · (intro w hSw; (try dsimp only at hSw); go_simp; try with_reducible rfl)
  try simp only [List.getElem_toArray, List.getElem_cons_zero, List.getElem_cons_succ, Act.put, List.setIfInBounds_toArray, List.set_cons_zero, List.set_cons_succ]
  refine wpAnyH_take (i := 5) (oi := _) (v := ?_) rfl (by kernel_rfl) (by kernel_rfl) (by kernel_rfl) (fun _ _ _ h => h) (Or.inl ⟨by rfl, ?_⟩) (by assumption) ?_
  rotate_left
  · (intro w hSw; (try dsimp only at hSw); go_simp; try with_reducible rfl)
  try simp only [List.getElem_toArray, List.getElem_cons_zero, List.getElem_cons_succ, Act.put, List.setIfInBounds_toArray, List.set_cons_zero, List.set_cons_succ]
  refine wpAnyH_take (i := 6) (oi := _) (v := ?_) rfl (by kernel_rfl) (by kernel_rfl) (by kernel_rfl) (fun _ _ _ h => h) (Or.inl ⟨by rfl, ?_⟩) (by assumption) ?_
  rotate_left
  · (intro w hSw; (try dsimp only at hSw); go_simp; try with_reducible rfl)
  try simp only [List.getElem_toArray, List.getElem_cons_zero, List.getElem_cons_succ, Act.put, List.setIfInBounds_toArray, List.set_cons_zero, List.set_cons_succ]
  refine wpAnyH_take (i := 7) (oi := _) (v := ?_) rfl (by kernel_rfl) (by kernel_rfl) (by kernel_rfl) (fun _ _ _ h => h) (Or.inl ⟨by rfl, ?_⟩) (by assumption) ?_
  rotate_left
  · (intro w hSw; (try dsimp only at hSw); go_simp; try with_reducible rfl)
  try simp only [List.getElem_toArray, List.getElem_cons_zero, List.getElem_cons_succ, Act.put, List.setIfInBounds_toArray, List.set_cons_zero, List.set_cons_succ]
  refine wpAnyH_take (i := 8) (oi := _) (v := ?_) rfl (by kernel_rfl) (by kernel_rfl) (by kernel_rfl) (fun _ _ _ h => h) (Or.inl ⟨by rfl, ?_⟩) (by assumption) ?_
  rotate_left
  · (intro w hSw; (try dsimp only at hSw); go_simp; try with_reducible rfl)
  try simp only [List.getElem_toArray, List.getElem_cons_zero, List.getElem_cons_succ, Act.put, List.setIfInBounds_toArray, List.set_cons_zero, List.set_cons_succ]
  refine wpAnyH_take (i := 10) (oi := _) (v := ?_) rfl (by kernel_rfl) (by kernel_rfl) (by kernel_rfl) (fun _ _ _ h => h) (Or.inl ⟨by rfl, ?_⟩) (by assumption) ?_
  rotate_left
  · (intro w hSw; (try dsimp only at hSw); go_simp; try with_reducible rfl)
  try simp only [List.getElem_toArray, List.getElem_cons_zero, List.getElem_cons_succ, Act.put, List.setIfInBounds_toArray, List.set_cons_zero, List.set_cons_succ]
  refine wpAnyH_take (i := 11) (oi := _) (v := ?_) rfl (by kernel_rfl) (by kernel_rfl) (by kernel_rfl) (fun _ _ _ h => h) (Or.inl ⟨by rfl, ?_⟩) (by assumption) ?_
  rotate_left
  · (intro w hSw; (try dsimp only at hSw); go_simp; try with_reducible rfl)
  try simp only [List.getElem_toArray, List.getElem_cons_zero, List.getElem_cons_succ, Act.put, List.setIfInBounds_toArray, List.set_cons_zero, List.set_cons_succ]
  refine wpAnyH_take (i := 12) (oi := _) (v := ?_) rfl (by kernel_rfl) (by kernel_rfl) (by kernel_rfl) (fun _ _ _ h => h) (Or.inl ⟨by rfl, ?_⟩) (by assumption) ?_
  rotate_left
  · (intro w hSw; (try dsimp only at hSw); go_simp; try with_reducible rfl)
  try simp only [List.getElem_toArray, List.getElem_cons_zero, List.getElem_cons_succ, Act.put, List.setIfInBounds_toArray, List.set_cons_zero, List.set_cons_succ]
  refine wpAnyH_take (i := 13) (oi := _) (v := ?_) rfl (by kernel_rfl) (by kernel_rfl) (by kernel_rfl) (fun _ _ _ h => h) (Or.inl ⟨by rfl, ?_⟩) (by assumption) ?_
  rotate_left
  · (intro w hSw; (try dsimp only at hSw); go_simp; try with_reducible rfl)
  try simp only [List.getElem_toArray, List.getElem_cons_zero, List.getElem_cons_succ, Act.put, List.setIfInBounds_toArray, List.set_cons_zero, List.set_cons_succ]
  refine wpAnyH_take (i := 14) (oi := _) (v := ?_) rfl (by kernel_rfl) (by kernel_rfl) (by kernel_rfl) (fun _ _ _ h => h) (Or.inl ⟨by rfl, ?_⟩) (by assumption) ?_
  rotate_left
  · (intro w hSw; (try dsimp only at hSw); go_simp; try with_reducible rfl)
  try simp only [List.getElem_toArray, List.getElem_cons_zero, List.getElem_cons_succ, Act.put, List.setIfInBounds_toArray, List.set_cons_zero, List.set_cons_succ]
  refine wpAnyH_take (i := 15) (oi := _) (v := ?_) rfl (by kernel_rfl) (by kernel_rfl) (by kernel_rfl) (fun _ _ _ h => h) (Or.inl ⟨by rfl, ?_⟩) (by assumption) ?_
  rotate_left
  · (intro w hSw; (try dsimp only at hSw); go_simp; try with_reducible rfl)
  try simp only [List.getElem_toArray, List.getElem_cons_zero, List.getElem_cons_succ, Act.put, List.setIfInBounds_toArray, List.set_cons_zero, List.set_cons_succ]
  refine wpAnyH_take (i := 16) (oi := _) (v := ?_) rfl (by kernel_rfl) (by kernel_rfl) (by kernel_rfl) (fun _ _ _ h => h) (Or.inl ⟨by rfl, ?_⟩) (by assumption) ?_
  rotate_left
  · (intro w hSw; (try dsimp only at hSw); go_simp; try with_reducible rfl)
  try simp only [List.getElem_toArray, List.getElem_cons_zero, List.getElem_cons_succ, Act.put, List.setIfInBounds_toArray, List.set_cons_zero, List.set_cons_succ]
  refine wpAnyH_take (i := 17) (oi := _) (v := ?_) rfl (by kernel_rfl) (by kernel_rfl) (by kernel_rfl) (fun _ _ _ h => h) (Or.inl ⟨by rfl, ?_⟩) (by assumption) ?_
  rotate_left
  · (intro w hSw; (try dsimp only at hSw); go_simp; try with_reducible rfl)
  try simp only [List.getElem_toArray, List.getElem_cons_zero, List.getElem_cons_succ, Act.put, List.setIfInBounds_toArray, List.set_cons_zero, List.set_cons_succ]
  refine wpAnyH_take (i := 18) (oi := _) (v := ?_) rfl (by kernel_rfl) (by kernel_rfl) (by kernel_rfl) (fun _ _ _ h => h) (Or.inl ⟨by rfl, ?_⟩) (by assumption) ?_
  rotate_left
  · (intro w hSw; (try dsimp only at hSw); go_simp; try with_reducible rfl)
  try simp only [List.getElem_toArray, List.getElem_cons_zero, List.getElem_cons_succ, Act.put, List.setIfInBounds_toArray, List.set_cons_zero, List.set_cons_succ]
  refine wpAnyH_ready (rs := [9]) (by kernel_rfl) (by simp) ?_
  refine AllReadyH.cons (o := _) rfl (fun K hK => ?_) AllReadyH.nil
  go_simp
  refine (HA.out _).mono ?_
  rintro e w2 ⟨rfl, hb2⟩
  have HX : Below w1.heap.size w1 w2 := bel_trans_drew (Below.refl w1.heap.size w1) hb2 (Nat.le_refl _)
  refine hK.out _ _ ?_ (fun hHeld => ?_)
  · exact ⟨C.bel HX (by omega), D.bel HX (by omega)⟩
  clear hK K
  try simp only [List.getElem_toArray, List.getElem_cons_zero, List.getElem_cons_succ, Act.put, List.setIfInBounds_toArray, List.set_cons_zero, List.set_cons_succ]
  refine wpAnyH_take (i := 19) (oi := _) (v := ?_) rfl (by kernel_rfl) (by kernel_rfl) (by kernel_rfl) (fun _ _ _ h => h) (Or.inl ⟨by rfl, ?_⟩) (by assumption) ?_
  rotate_left
  · (intro w hSw; (try dsimp only at hSw); go_simp; try with_reducible rfl)
  try simp only [List.getElem_toArray, List.getElem_cons_zero, List.getElem_cons_succ, Act.put, List.setIfInBounds_toArray, List.set_cons_zero, List.set_cons_succ]
  refine wpAnyH_take (i := 20) (oi := _) (v := ?_) rfl (by kernel_rfl) (by kernel_rfl) (by kernel_rfl) (fun _ _ _ h => h) (Or.inl ⟨by rfl, ?_⟩) (by assumption) ?_
  rotate_left
  · (intro w hSw; (try dsimp only at hSw); go_simp; try with_reducible rfl)
  try simp only [List.getElem_toArray, List.getElem_cons_zero, List.getElem_cons_succ, Act.put, List.setIfInBounds_toArray, List.set_cons_zero, List.set_cons_succ]
  refine wpAnyH_done (by kernel_rfl) ?_ _
  refine NoPanic.normal ?_
  go_wp2_with fail
  have HB2 := bel_trans HB HX (Nat.le_refl _)
  refine (HR.out _ HB2).mono ?_
  rintro e w3 ⟨g, rfl, hS3, hT3, hg3⟩
  obtain ⟨V3, BB3, hV3, BG3⟩ := hS3.body
  subst hV3
  have BC3 := (BC.below HX (by omega)).touch hT3 (by omega)
  have hT03 : Touch (fun i => i = b) w w3 := (Touch.of_kept HB2).trans hT3
  have hmay := Lib.hid hS3.may
  rw [HN.out] at BB3 BG3 hmay ⊢
  have hz2 := HX.size
  have HBz := HB2
  have hz3 := hT3.size
  clear hS3 hT3 BC BB C D d0 d1 d2 fz HX HB HB2 HR HA HM
  have BB4 := BB3.alloc (.cells #[.slice (some ⟨g, 0, none⟩) n n] 135)
  have BC4 := BC3.alloc (.cells #[.slice (some ⟨g, 0, none⟩) n n] 135)
  have BG4 := BG3.alloc (.cells #[.slice (some ⟨g, 0, none⟩) n n] 135)
  have BP4 := Blk.new w3 135 #[.slice (some ⟨g, 0, none⟩) n n]
  have ne1 : b ≠ g := Blk.ne_ BB3 BG3 (by decide)
  have ne2 : w.heap.size ≠ g := Blk.ne_ BC3 BG3 (by decide)
  have ne3 : w3.heap.size ≠ g := Blk.ne_ BP4 BG4 (by decide)
  have hT4 : Touch (fun i => i = b) w (w3.alloc (.cells #[.slice (some ⟨g, 0, none⟩) n n] 135)) := hT03.alloc _
  have k1 : (w3.alloc (.cells #[.slice (some ⟨g, 0, none⟩) n n] 135)).cell? ⟨w.heap.size, 1, none⟩ = some (.int .i64 y0) := BC4.cell 1
  have H4 := Lib.hid (And.intro BB4 (And.intro BC4 (And.intro BG4 BP4)))
  clear BB3 BC3 BG3 BB4 BC4 BG4 BP4 hT03
  go_wp2_with fail
  obtain ⟨w4, hw4⟩ : ∃ w4, w4 = w3.alloc (.cells #[.slice (some ⟨g, 0, none⟩) n n] 135) := ⟨_, rfl⟩
  rw [← hw4] at H4 hT4 ⊢
  have hpb : w3.heap.size < w4.heap.size := by rw [hw4]; simp
  clear hw4 k1
  go_loopw [11] (fun t wr => ∃ y : Nat, y0 ≤ y ∧ y ≤ y1 + 1 ∧ t = .int .i64 y ∧ Hid (Blk wr g 21 (rowA n (fillT sw x0 y0 x1 v f y x0))) ∧ Touch (fun i => i = g) w4 wr) (fun t _ => (y1 + 1 : Nat) - (intOf t).toNat)
  case atStart =>
    refine ⟨y0, Nat.le_refl _, by omega, rfl, Lib.hid ?_, Touch.refl _ _⟩
    rw [rowA_congr (fun k _ => fillT_start k)]
    exact H4.out.2.2.1
  case round =>
    obtain ⟨y, yl, yu, rfl, HG, hT⟩ := hrel
    have BBr := H4.out.1.touch hT ne1
    have BCr := H4.out.2.1.touch hT ne2
    have BPr := H4.out.2.2.2.touch hT ne3
    have c0 : wr.cell? ⟨w.heap.size, 0, none⟩ = some (.int .i64 x0) := BCr.cell 0
    have c3 : wr.cell? ⟨w.heap.size, 3, none⟩ = some (.int .i64 y1) := BCr.cell 3
    have b0 : wr.cell? ⟨b, 0, none⟩ = some (.int .i64 sw) := BBr.cell 0
    have p0 : wr.cell? ⟨w3.heap.size, 0, none⟩ = some (.slice (some ⟨g, 0, none⟩) n n) := BPr.cell 0
    by_cases hlt : y ≤ y1
    · obtain ⟨m, hm⟩ : ∃ m, y * sw = m := ⟨_, rfl⟩
      have hmn : m + sw ≤ n := by
        rw [← hm, ← HN.out, Nat.mul_comm sw sh]
        have : (y + 1) * sw ≤ sh * sw := Nat.mul_le_mul_right _ (by omega)
        rw [Nat.succ_mul] at this
        exact this
      have W3 : IntKind.i64.wrap ((y : Int) * (sw : Int)) = (m : Int) := by
        rw [show (y : Int) * (sw : Int) = ((y * sw : Nat) : Int) by simp, hm]
        exact IntWalk.i64_in _ (by omega)
      have W4 : IntKind.i64.wrap ((y : Int) + 1) = (y : Int) + 1 := IntWalk.i64_in _ (by omega)
      have W5 : IntKind.i64.wrap (((y : Int) + 1) * (sw : Int)) = (m : Int) + (sw : Int) := by
        rw [show ((y : Int) + 1) * (sw : Int) = ((y * sw + sw : Nat) : Int) by simp [Int.add_mul], hm]
        rw [IntWalk.i64_in _ (by omega)]
        simp
      have HMM := Lib.hid hm
      have t1 : ((y : Int)) ≤ (y1 : Int) := by omega
      have q1 : (0 : Int) ≤ (m : Int) := by omega
      have q2 : (m : Int) ≤ (m : Int) + (sw : Int) := by omega
      have q3 : (m : Int) + (sw : Int) ≤ (n : Int) := by omega
      have q4 : ¬ n = m := by omega
      clear hm
      go_wp2_with fail
      go_region_held3 (fun W => W.cell? ⟨b, 0, none⟩ = some (.int .i64 sw) ∧ W.cell? ⟨w3.heap.size, 0, none⟩ = some (.slice (some ⟨g, 0, none⟩) n n)) (first | exact ⟨b0, p0⟩) (fail)
      go_wp2_with fail
      have eL : ((m : Int) + (sw : Int)).toNat - m = sw := by omega
      rw [eL]
      clear eL W3 W4 W5 q2 q3 q4 c0 c3 b0 p0 BBr BCr BPr
      go_loopw [13] (fun t wr2 => ∃ x : Nat, x0 ≤ x ∧ x ≤ x1 + 1 ∧ t = .int .i64 x ∧ Hid (Blk wr2 g 21 (rowA n (fillT sw x0 y0 x1 v f y x))) ∧ Touch (fun i => i = g) w4 wr2) (fun t _ => (x1 + 1 : Nat) - (intOf t).toNat)
      case atStart => exact ⟨x0, Nat.le_refl _, by omega, rfl, HG, hT.drew⟩
      case round =>
        obtain ⟨x, xl, xu, rfl, HG2, hT2⟩ := hrel
        have c2 : wr.cell? ⟨w.heap.size, 2, none⟩ = some (.int .i64 x1) := (H4.out.2.1.touch hT2 ne2).cell 2
        by_cases hlt2 : x ≤ x1
        · have t2 : (x : Int) ≤ (x1 : Int) := by omega
          have i1 : (x : Int) < (sw : Int) := by omega
          have i0 : (0 : Int) ≤ (x : Int) := by omega
          have sc : wr.cell? ⟨g, m + x, none⟩ = some (.int .i32 (fillT sw x0 y0 x1 v f y x (m + x))) := (HG2.out.cell (m + x)).trans (rowA_get _ _ _ (by omega))
          have sf : wr.frozen? ⟨g, m + x, none⟩ = false := HG2.out.frozen (m + x)
          go_wp2_with fail
          go_roundw
          case rel =>
            refine ⟨x + 1, by omega, by omega, by go_num, Lib.hid ?_, hT2.setCell (p := ⟨g, m + x, none⟩) (.inl rfl) _⟩
            have h := HG2.out.set_ (m + x) (.int .i32 v)
            rw [rowA_set, rowA_congr (h := fillT sw x0 y0 x1 v f y (x + 1)) (fun k _ => by rw [← HMM.out]; exact fillT_step (by omega) xl k)] at h
            exact h
          case measure =>
            simp only [intOf]
            omega
        · have t2 : decide ((x : Int) ≤ (x1 : Int)) = false := decide_eq_false (by omega)
          have e : x = x1 + 1 := by omega
          subst e
          go_wp2_with fail
          go_roundw
          case rel =>
            refine ⟨y + 1, by omega, by omega, by go_num, Lib.hid ?_, hT2⟩
            have h := HG2.out
            rw [rowA_congr (fun k _ => fillT_row yl k)] at h
            exact h
          case measure =>
            simp only [intOf]
            omega
    · have t1 : decide ((y : Int) ≤ (y1 : Int)) = false := decide_eq_false (by omega)
      have e : y = y1 + 1 := by omega
      subst e
      have HGK : Hid (Blk wr g 21 (rowA n (fillK sw x0 y0 x1 y1 v f))) := Lib.hid (by
        have h := HG.out
        rw [rowA_congr (fun k _ => fillT_end k)] at h
        exact h)
      have hmayK := Lib.hid (fillK_may (sw := sw) (x0 := x0) (y0 := y0) (x1 := x1) (y1 := y1) HV.out hmay.out)
      have hT5 : Touch (fun i => i = b ∨ some i = q) w wr := (hT4.mono (fun i _ e => .inl e)).trans' hT (fun i hi e => by
        subst e
        rcases hg3 with e | e
        · exact .inr e.symm
        · have := HBz.size; omega)
      have hq5 : q = some g ∨ w.heap.size ≤ g := by
        rcases hg3 with e | e
        · exact .inl e
        · have := HBz.size; exact .inr (by omega)
      obtain ⟨F, hF⟩ : ∃ F, F = fillK sw x0 y0 x1 y1 v f := ⟨_, rfl⟩
      rw [← hF] at HGK hmayK
      have HF := Lib.hid hF
      clear hF hmay HG W1
      have g0 : wr.cell? ⟨g, 0, none⟩ = some (.int .i32 (F 0)) := (HGK.out.cell 0).trans (rowA_get _ _ _ (by omega))
      have b2 : wr.cell? ⟨b, 2, none⟩ = some (.iface 135 (.slice (some ⟨g, 0, none⟩) n n)) := BBr.cell 2
      have f2 := BBr.frozen 2
      have HBr := Lib.hid BBr
      have hn0 : (0 : Int) < (n : Int) := by omega
      clear BBr BCr BPr
      go_wp2_with fail
      refine (ContainsRough w3.heap.size g n F _ p0 (by omega) n2 HGK.out).mono ?_
      rintro e w5 ⟨z, rfl, hz, rfl⟩
      have HZ := Lib.hid hz
      clear hz
      rcases z with _ | _
      · go_wp2_with fail
        go_ret
        show GivesFilled w b sw sh (fillK sw x0 y0 x1 y1 v f) q _ _
        rw [← HF.out]
        have hall : ∀ k, k < n → F k = F 0 := fun k hk => Classical.byContradiction fun hne => by
          have := HZ.out.2 ⟨k, hk, hne⟩
          cases this
        exact ⟨none, rfl, slab_flat HN.out s1 s2 s3 s4 hmayK.out hall (HBr.out.set_ 2 (.iface 128 (.int .i32 (F 0)))), hT5.setCell (p := ⟨b, 2, none⟩) (.inl (.inl rfl)) _, (fun _ h => by cases h)⟩
      · go_wp2_with fail
        go_ret
        show GivesFilled w b sw sh (fillK sw x0 y0 x1 y1 v f) q _ _
        rw [← HF.out]
        exact ⟨some g, rfl, slab_rough HN.out s1 s2 s3 s4 hmayK.out HBr.out HGK.out, hT5, (fun g' h => by injection h with h; subst h; exact hq5)⟩
end Go.Proofs.Ytccpgalpahfpaaa

/-
  (*Slab).Fill, where only a part of a slab is filled, and not by what all of it is: it is rough.
-/
namespace Go.Proofs.Ytccpgalpahfpaaa
open Go.RowKit
set_option linter.unusedVariables false
set_option linter.unusedSimpArgs false

set_option maxHeartbeats 4000000 in
set_option maxRecDepth 100000 in
theorem sFill_part_f (b sw sh x0 y0 x1 y1 n : Nat) (v one : Int) (V : Value) (f : Nat → Int) (q : Option Nat) (w : World) (hb : Blk w b 133 #[.int .i64 sw, .int .i64 sh, V]) (s1 : 1 ≤ sw) (s2 : sw ≤ 16) (s3 : 1 ≤ sh) (s4 : sh ≤ 16) (hn : sw * sh = n)
    (hx : x0 ≤ x1) (hx' : x1 < sw) (hy : y0 ≤ y1) (hy' : y1 < sh) (hv : MayV v) (ta : ∀ W : World, (Instr.typeAssert V 131 128 true).run Try.prog W = .ok (.tuple #[.int .i32 one, .bool false]) W) 
    (harea : ((((x1 : Int) - x0 + 1) * ((y1 : Int) - y0 + 1)) == (n : Int)) = false) (HR : Hid (∀ W, Below w.heap.size w W → Calls Try.prog 80 #[.pointer (some ⟨b, 0, none⟩)] W (GivesRough W b sw sh f q))) :
    Calls Try.prog 49 #[.pointer (some ⟨b, 0, none⟩), rectV x0 y0 x1 y1, .int .i64 v] w (GivesFilled w b sw sh (fillK sw x0 y0 x1 y1 v f) q) := by
  have hs := fun W hbW => scheck_any b sw sh V x0 y0 x1 y1 W hbW s2 s4
  rw [show withinZ x0 y0 x1 y1 sw sh = 0 from within_of ⟨by omega, by omega, by omega, by omega⟩ (by omega) (by omega) (by omega) (by omega) (by omega) (by omega)] at hs
  have HS := Lib.hid hs
  have hm := fun W => may_any v W
  rw [show decide (MayV v) = true from decide_eq_true hv] at hm
  have HM := Lib.hid hm
  have hA := fun W => Area_any x0 y0 x1 y1 W
  rw [show areaZ x0 y0 x1 y1 = ((x1 : Int) - x0 + 1) * ((y1 : Int) - y0 + 1) by
    unfold areaZ; rw [if_pos ((right_iff _ _ _ _).2 ⟨by omega, by omega, by omega, by omega, by omega, by omega⟩)]] at hA
  have HA := Lib.hid hA
  have hlt := hb.lt
  have HBK := Lib.hid hb
  have HN := Lib.hid hn
  have n1 : 1 ≤ n := by rw [← hn]; exact Nat.mul_pos s1 s3
  have n2 : n ≤ 256 := by rw [← hn]; exact Nat.mul_le_mul s2 s4
  have W1 : IntKind.i64.wrap ((sw : Int) * (sh : Int)) = (n : Int) := by
    rw [show (sw : Int) * (sh : Int) = ((sw * sh : Nat) : Int) by simp, hn]
    exact IntWalk.i64_in _ (by omega)
  have W2 := i32_wrap v hv
  have HV := Lib.hid hv
  obtain ⟨ar, har⟩ : ∃ ar, ((x1 : Int) - x0 + 1) * ((y1 : Int) - y0 + 1) = ar := ⟨_, rfl⟩
  rw [har] at HA harea
  clear hs hm hA hb hn har hv
  go_enter Try.func49, Try.ntmps49
  go_wp2_with fail
  refine (HS.out _ (HBK.out.alloc _)).mono ?_
  rintro e w1 ⟨rfl, hb1⟩
  have HB1 : Below (w.heap.size + 1) (w.alloc (.cells #[.int .i64 x0, .int .i64 y0, .int .i64 x1, .int .i64 y1] 45)) w1 := by simpa using hb1
  have hz1 : w.heap.size + 1 ≤ w1.heap.size := by have := HB1.size; simpa using this
  have BB := (HBK.out.alloc (.cells #[.int .i64 x0, .int .i64 y0, .int .i64 x1, .int .i64 y1] 45)).below HB1 (by omega)
  have BC := (Blk.new w 45 #[.int .i64 x0, .int .i64 y0, .int .i64 x1, .int .i64 y1]).below HB1 (by omega)
  have D : Box3 w1 b (.int .i64 sw) (.int .i64 sh) V := ⟨BB.cell 0, BB.cell 1, BB.cell 2⟩
  have C : Box4 w1 w.heap.size (.int .i64 x0) (.int .i64 y0) (.int .i64 x1) (.int .i64 y1) := ⟨BC.cell 0, BC.cell 1, BC.cell 2, BC.cell 3⟩
  have HB : Below w.heap.size w w1 := (new_bel w _).trans (HB1.mono (by omega))
  clear hb1 HS HB1
  go_wp2_with fail
  refine (HM.out _).mono ?_
  rintro e w2 ⟨rfl, rfl⟩
  obtain ⟨d0, d1, d2⟩ := id D
  have fz := BB.frozen 2
  go_wp2_with fail
  refine wp_region_noPanic ?_
  refine wp_region_held_drew (S := (fun W => (W.cell? ⟨w.heap.size, 0, none⟩ = some (.int .i64 x0) ∧ W.cell? ⟨w.heap.size, 1, none⟩ = some (.int .i64 y0) ∧ W.cell? ⟨w.heap.size, 2, none⟩ = some (.int .i64 x1) ∧ W.cell? ⟨w.heap.size, 3, none⟩ = some (.int .i64 y1)) ∧ (W.cell? ⟨b, 0, none⟩ = some (.int .i64 sw) ∧ W.cell? ⟨b, 1, none⟩ = some (.int .i64 sh) ∧ W.cell? ⟨b, 2, none⟩ = some V))) (by kernel_rfl) ?_ (fun hHeld => ?_)
  · exact ⟨C, D⟩
  refine wpAnyH_take (i := 0) (oi := _) (v := ?_) rfl (by kernel_rfl) (by kernel_rfl) (by kernel_rfl) (fun _ _ _ h => h) (Or.inl ⟨by rfl, ?_⟩) (by assumption) ?_
  rotate_left
  · (intro w hSw; (try dsimp only at hSw); go_simp; try with_reducible rfl)
  try simp only [List.getElem_toArray, List.getElem_cons_zero, List.getElem_cons_succ, Act.put, List.setIfInBounds_toArray, List.set_cons_zero, List.set_cons_succ]
  refine wpAnyH_take (i := 1) (oi := _) (v := ?_) rfl (by kernel_rfl) (by kernel_rfl) (by kernel_rfl) (fun _ _ _ h => h) (Or.inl ⟨by rfl, ?_⟩) (by assumption) ?_
  rotate_left
  · (intro w hSw; (try dsimp only at hSw); go_simp; try with_reducible rfl)
  try simp only [List.getElem_toArray, List.getElem_cons_zero, List.getElem_cons_succ, Act.put, List.setIfInBounds_toArray, List.set_cons_zero, List.set_cons_succ]
  refine wpAnyH_take (i := 2) (oi := _) (v := undef) rfl (by kernel_rfl) (by kernel_rfl) (by kernel_rfl) (fun _ _ _ h => h) (Or.inr ⟨by rfl, rfl⟩) (by assumption) ?_
  try simp only [List.getElem_toArray, List.getElem_cons_zero, List.getElem_cons_succ, Act.put, List.setIfInBounds_toArray, List.set_cons_zero, List.set_cons_succ]
  refine wpAnyH_take (i := 3) (oi := _) (v := undef) rfl (by kernel_rfl) (by kernel_rfl) (by kernel_rfl) (fun _ _ _ h => h) (Or.inr ⟨by rfl, rfl⟩) (by assumption) ?_
  try simp only [List.getElem_toArray, List.getElem_cons_zero, List.getElem_cons_succ, Act.put, List.setIfInBounds_toArray, List.set_cons_zero, List.set_cons_succ]
  refine wpAnyH_take (i := 4) (oi := _) (v := undef) rfl (by kernel_rfl) (by kernel_rfl) (by kernel_rfl) (fun _ _ _ h => h) (Or.inr ⟨by rfl, rfl⟩) (by assumption) ?_
  try simp only [List.getElem_toArray, List.getElem_cons_zero, List.getElem_cons_succ, Act.put, List.setIfInBounds_toArray, List.set_cons_zero, List.set_cons_succ]
  refine wpAnyH_take (i := 5) (oi := _) (v := undef) rfl (by kernel_rfl) (by kernel_rfl) (by kernel_rfl) (fun _ _ _ h => h) (Or.inr ⟨by rfl, rfl⟩) (by assumption) ?_
  try simp only [List.getElem_toArray, List.getElem_cons_zero, List.getElem_cons_succ, Act.put, List.setIfInBounds_toArray, List.set_cons_zero, List.set_cons_succ]
  refine wpAnyH_take (i := 6) (oi := _) (v := ?_) rfl (by kernel_rfl) (by kernel_rfl) (by kernel_rfl) (fun _ _ _ h => h) (Or.inl ⟨by rfl, ?_⟩) (by assumption) ?_
  rotate_left
  · (intro w hSw; (try dsimp only at hSw); go_simp; try with_reducible rfl)
  try simp only [List.getElem_toArray, List.getElem_cons_zero, List.getElem_cons_succ, Act.put, List.setIfInBounds_toArray, List.set_cons_zero, List.set_cons_succ]
  refine wpAnyH_take (i := 7) (oi := _) (v := ?_) rfl (by kernel_rfl) (by kernel_rfl) (by kernel_rfl) (fun _ _ _ h => h) (Or.inl ⟨by rfl, ?_⟩) (by assumption) ?_
  rotate_left
  · (intro w hSw; (try dsimp only at hSw); go_simp; try with_reducible rfl)
  try simp only [List.getElem_toArray, List.getElem_cons_zero, List.getElem_cons_succ, Act.put, List.setIfInBounds_toArray, List.set_cons_zero, List.set_cons_succ]
  refine wpAnyH_take (i := 8) (oi := _) (v := ?_) rfl (by kernel_rfl) (by kernel_rfl) (by kernel_rfl) (fun _ _ _ h => h) (Or.inl ⟨by rfl, ?_⟩) (by assumption) ?_
  rotate_left
  · (intro w hSw; (try dsimp only at hSw); go_simp; try with_reducible rfl)
  try simp only [List.getElem_toArray, List.getElem_cons_zero, List.getElem_cons_succ, Act.put, List.setIfInBounds_toArray, List.set_cons_zero, List.set_cons_succ]
  refine wpAnyH_take (i := 10) (oi := _) (v := ?_) rfl (by kernel_rfl) (by kernel_rfl) (by kernel_rfl) (fun _ _ _ h => h) (Or.inl ⟨by rfl, ?_⟩) (by assumption) ?_
  rotate_left
  · (intro w hSw; (try dsimp only at hSw); go_simp; try with_reducible rfl)
  try simp only [List.getElem_toArray, List.getElem_cons_zero, List.getElem_cons_succ, Act.put, List.setIfInBounds_toArray, List.set_cons_zero, List.set_cons_succ]
  refine wpAnyH_take (i := 11) (oi := _) (v := ?_) rfl (by kernel_rfl) (by kernel_rfl) (by kernel_rfl) (fun _ _ _ h => h) (Or.inl ⟨by rfl, ?_⟩) (by assumption) ?_
  rotate_left
  · (intro w hSw; (try dsimp only at hSw); go_simp; try with_reducible rfl)
  try simp only [List.getElem_toArray, List.getElem_cons_zero, List.getElem_cons_succ, Act.put, List.setIfInBounds_toArray, List.set_cons_zero, List.set_cons_succ]
  refine wpAnyH_take (i := 12) (oi := _) (v := ?_) rfl (by kernel_rfl) (by kernel_rfl) (by kernel_rfl) (fun _ _ _ h => h) (Or.inl ⟨by rfl, ?_⟩) (by assumption) ?_
  rotate_left
  · (intro w hSw; (try dsimp only at hSw); go_simp; try with_reducible rfl)
  try simp only [List.getElem_toArray, List.getElem_cons_zero, List.getElem_cons_succ, Act.put, List.setIfInBounds_toArray, List.set_cons_zero, List.set_cons_succ]
  refine wpAnyH_take (i := 13) (oi := _) (v := ?_) rfl (by kernel_rfl) (by kernel_rfl) (by kernel_rfl) (fun _ _ _ h => h) (Or.inl ⟨by rfl, ?_⟩) (by assumption) ?_
  rotate_left
  · (intro w hSw; (try dsimp only at hSw); go_simp; try with_reducible rfl)
  try simp only [List.getElem_toArray, List.getElem_cons_zero, List.getElem_cons_succ, Act.put, List.setIfInBounds_toArray, List.set_cons_zero, List.set_cons_succ]
  refine wpAnyH_take (i := 14) (oi := _) (v := ?_) rfl (by kernel_rfl) (by kernel_rfl) (by kernel_rfl) (fun _ _ _ h => h) (Or.inl ⟨by rfl, ?_⟩) (by assumption) ?_
  rotate_left
  · (intro w hSw; (try dsimp only at hSw); go_simp; try with_reducible rfl)
  try simp only [List.getElem_toArray, List.getElem_cons_zero, List.getElem_cons_succ, Act.put, List.setIfInBounds_toArray, List.set_cons_zero, List.set_cons_succ]
  refine wpAnyH_take (i := 15) (oi := _) (v := ?_) rfl (by kernel_rfl) (by kernel_rfl) (by kernel_rfl) (fun _ _ _ h => h) (Or.inl ⟨by rfl, ?_⟩) (by assumption) ?_
  rotate_left
  · (intro w hSw; (try dsimp only at hSw); go_simp; try with_reducible rfl)
  try simp only [List.getElem_toArray, List.getElem_cons_zero, List.getElem_cons_succ, Act.put, List.setIfInBounds_toArray, List.set_cons_zero, List.set_cons_succ]
  refine wpAnyH_take (i := 16) (oi := _) (v := ?_) rfl (by kernel_rfl) (by kernel_rfl) (by kernel_rfl) (fun _ _ _ h => h) (Or.inl ⟨by rfl, ?_⟩) (by assumption) ?_
  rotate_left
  · (intro w hSw; (try dsimp only at hSw); go_simp; try with_reducible rfl)
  try simp only [List.getElem_toArray, List.getElem_cons_zero, List.getElem_cons_succ, Act.put, List.setIfInBounds_toArray, List.set_cons_zero, List.set_cons_succ]
  refine wpAnyH_take (i := 17) (oi := _) (v := ?_) rfl (by kernel_rfl) (by kernel_rfl) (by kernel_rfl) (fun _ _ _ h => h) (Or.inl ⟨by rfl, ?_⟩) (by assumption) ?_
  rotate_left
  · (intro w hSw; (try dsimp only at hSw); go_simp; try with_reducible rfl)
  try simp only [List.getElem_toArray, List.getElem_cons_zero, List.getElem_cons_succ, Act.put, List.setIfInBounds_toArray, List.set_cons_zero, List.set_cons_succ]
  refine wpAnyH_take (i := 18) (oi := _) (v := ?_) rfl (by kernel_rfl) (by kernel_rfl) (by kernel_rfl) (fun _ _ _ h => h) (Or.inl ⟨by rfl, ?_⟩) (by assumption) ?_
  rotate_left
  · (intro w hSw; (try dsimp only at hSw); go_simp; try with_reducible rfl)
  try simp only [List.getElem_toArray, List.getElem_cons_zero, List.getElem_cons_succ, Act.put, List.setIfInBounds_toArray, List.set_cons_zero, List.set_cons_succ]
  refine wpAnyH_ready (rs := [9]) (by kernel_rfl) (by simp) ?_
  refine AllReadyH.cons (o := _) rfl (fun K hK => ?_) AllReadyH.nil
  go_simp
  refine (HA.out _).mono ?_
  rintro e w2 ⟨rfl, hb2⟩
  have HX : Below w1.heap.size w1 w2 := bel_trans_drew (Below.refl w1.heap.size w1) hb2 (Nat.le_refl _)
  refine hK.out _ _ ?_ (fun hHeld => ?_)
  · exact ⟨C.bel HX (by omega), D.bel HX (by omega)⟩
  clear hK K
  try simp only [List.getElem_toArray, List.getElem_cons_zero, List.getElem_cons_succ, Act.put, List.setIfInBounds_toArray, List.set_cons_zero, List.set_cons_succ]
  refine wpAnyH_take (i := 19) (oi := _) (v := ?_) rfl (by kernel_rfl) (by kernel_rfl) (by kernel_rfl) (fun _ _ _ h => h) (Or.inl ⟨by rfl, ?_⟩) (by assumption) ?_
  rotate_left
  · (intro w hSw; (try dsimp only at hSw); go_simp; try with_reducible rfl)
  try simp only [List.getElem_toArray, List.getElem_cons_zero, List.getElem_cons_succ, Act.put, List.setIfInBounds_toArray, List.set_cons_zero, List.set_cons_succ]
  refine wpAnyH_take (i := 20) (oi := _) (v := ?_) rfl (by kernel_rfl) (by kernel_rfl) (by kernel_rfl) (fun _ _ _ h => h) (Or.inl ⟨by rfl, ?_⟩) (by assumption) ?_
  rotate_left
  · (intro w hSw; (try dsimp only at hSw); go_simp; try with_reducible rfl)
  try simp only [List.getElem_toArray, List.getElem_cons_zero, List.getElem_cons_succ, Act.put, List.setIfInBounds_toArray, List.set_cons_zero, List.set_cons_succ]
  refine wpAnyH_done (by kernel_rfl) ?_ _
  refine NoPanic.normal ?_
  go_wp2_with fail
  have HB2 := bel_trans HB HX (Nat.le_refl _)
  refine (HR.out _ HB2).mono ?_
  rintro e w3 ⟨g, rfl, hS3, hT3, hg3⟩
  obtain ⟨V3, BB3, hV3, BG3⟩ := hS3.body
  subst hV3
  have BC3 := (BC.below HX (by omega)).touch hT3 (by omega)
  have hT03 : Touch (fun i => i = b) w w3 := (Touch.of_kept HB2).trans hT3
  have hmay := Lib.hid hS3.may
  rw [HN.out] at BB3 BG3 hmay ⊢
  have hz2 := HX.size
  have HBz := HB2
  have hz3 := hT3.size
  clear hS3 hT3 BC BB C D d0 d1 d2 fz HX HB HB2 HR HA HM
  have BB4 := BB3.alloc (.cells #[.slice (some ⟨g, 0, none⟩) n n] 135)
  have BC4 := BC3.alloc (.cells #[.slice (some ⟨g, 0, none⟩) n n] 135)
  have BG4 := BG3.alloc (.cells #[.slice (some ⟨g, 0, none⟩) n n] 135)
  have BP4 := Blk.new w3 135 #[.slice (some ⟨g, 0, none⟩) n n]
  have ne1 : b ≠ g := Blk.ne_ BB3 BG3 (by decide)
  have ne2 : w.heap.size ≠ g := Blk.ne_ BC3 BG3 (by decide)
  have ne3 : w3.heap.size ≠ g := Blk.ne_ BP4 BG4 (by decide)
  have hT4 : Touch (fun i => i = b) w (w3.alloc (.cells #[.slice (some ⟨g, 0, none⟩) n n] 135)) := hT03.alloc _
  have k1 : (w3.alloc (.cells #[.slice (some ⟨g, 0, none⟩) n n] 135)).cell? ⟨w.heap.size, 1, none⟩ = some (.int .i64 y0) := BC4.cell 1
  have H4 := Lib.hid (And.intro BB4 (And.intro BC4 (And.intro BG4 BP4)))
  clear BB3 BC3 BG3 BB4 BC4 BG4 BP4 hT03
  go_wp2_with fail
  obtain ⟨w4, hw4⟩ : ∃ w4, w4 = w3.alloc (.cells #[.slice (some ⟨g, 0, none⟩) n n] 135) := ⟨_, rfl⟩
  rw [← hw4] at H4 hT4 ⊢
  have hpb : w3.heap.size < w4.heap.size := by rw [hw4]; simp
  clear hw4 k1
  go_loopw [11] (fun t wr => ∃ y : Nat, y0 ≤ y ∧ y ≤ y1 + 1 ∧ t = .int .i64 y ∧ Hid (Blk wr g 21 (rowA n (fillT sw x0 y0 x1 v f y x0))) ∧ Touch (fun i => i = g) w4 wr) (fun t _ => (y1 + 1 : Nat) - (intOf t).toNat)
  case atStart =>
    refine ⟨y0, Nat.le_refl _, by omega, rfl, Lib.hid ?_, Touch.refl _ _⟩
    rw [rowA_congr (fun k _ => fillT_start k)]
    exact H4.out.2.2.1
  case round =>
    obtain ⟨y, yl, yu, rfl, HG, hT⟩ := hrel
    have BBr := H4.out.1.touch hT ne1
    have BCr := H4.out.2.1.touch hT ne2
    have BPr := H4.out.2.2.2.touch hT ne3
    have c0 : wr.cell? ⟨w.heap.size, 0, none⟩ = some (.int .i64 x0) := BCr.cell 0
    have c3 : wr.cell? ⟨w.heap.size, 3, none⟩ = some (.int .i64 y1) := BCr.cell 3
    have b0 : wr.cell? ⟨b, 0, none⟩ = some (.int .i64 sw) := BBr.cell 0
    have p0 : wr.cell? ⟨w3.heap.size, 0, none⟩ = some (.slice (some ⟨g, 0, none⟩) n n) := BPr.cell 0
    by_cases hlt : y ≤ y1
    · obtain ⟨m, hm⟩ : ∃ m, y * sw = m := ⟨_, rfl⟩
      have hmn : m + sw ≤ n := by
        rw [← hm, ← HN.out, Nat.mul_comm sw sh]
        have : (y + 1) * sw ≤ sh * sw := Nat.mul_le_mul_right _ (by omega)
        rw [Nat.succ_mul] at this
        exact this
      have W3 : IntKind.i64.wrap ((y : Int) * (sw : Int)) = (m : Int) := by
        rw [show (y : Int) * (sw : Int) = ((y * sw : Nat) : Int) by simp, hm]
        exact IntWalk.i64_in _ (by omega)
      have W4 : IntKind.i64.wrap ((y : Int) + 1) = (y : Int) + 1 := IntWalk.i64_in _ (by omega)
      have W5 : IntKind.i64.wrap (((y : Int) + 1) * (sw : Int)) = (m : Int) + (sw : Int) := by
        rw [show ((y : Int) + 1) * (sw : Int) = ((y * sw + sw : Nat) : Int) by simp [Int.add_mul], hm]
        rw [IntWalk.i64_in _ (by omega)]
        simp
      have HMM := Lib.hid hm
      have t1 : ((y : Int)) ≤ (y1 : Int) := by omega
      have q1 : (0 : Int) ≤ (m : Int) := by omega
      have q2 : (m : Int) ≤ (m : Int) + (sw : Int) := by omega
      have q3 : (m : Int) + (sw : Int) ≤ (n : Int) := by omega
      have q4 : ¬ n = m := by omega
      clear hm
      go_wp2_with fail
      go_region_held3 (fun W => W.cell? ⟨b, 0, none⟩ = some (.int .i64 sw) ∧ W.cell? ⟨w3.heap.size, 0, none⟩ = some (.slice (some ⟨g, 0, none⟩) n n)) (first | exact ⟨b0, p0⟩) (fail)
      go_wp2_with fail
      have eL : ((m : Int) + (sw : Int)).toNat - m = sw := by omega
      rw [eL]
      clear eL W3 W4 W5 q2 q3 q4 c0 c3 b0 p0 BBr BCr BPr
      go_loopw [13] (fun t wr2 => ∃ x : Nat, x0 ≤ x ∧ x ≤ x1 + 1 ∧ t = .int .i64 x ∧ Hid (Blk wr2 g 21 (rowA n (fillT sw x0 y0 x1 v f y x))) ∧ Touch (fun i => i = g) w4 wr2) (fun t _ => (x1 + 1 : Nat) - (intOf t).toNat)
      case atStart => exact ⟨x0, Nat.le_refl _, by omega, rfl, HG, hT.drew⟩
      case round =>
        obtain ⟨x, xl, xu, rfl, HG2, hT2⟩ := hrel
        have c2 : wr.cell? ⟨w.heap.size, 2, none⟩ = some (.int .i64 x1) := (H4.out.2.1.touch hT2 ne2).cell 2
        by_cases hlt2 : x ≤ x1
        · have t2 : (x : Int) ≤ (x1 : Int) := by omega
          have i1 : (x : Int) < (sw : Int) := by omega
          have i0 : (0 : Int) ≤ (x : Int) := by omega
          have sc : wr.cell? ⟨g, m + x, none⟩ = some (.int .i32 (fillT sw x0 y0 x1 v f y x (m + x))) := (HG2.out.cell (m + x)).trans (rowA_get _ _ _ (by omega))
          have sf : wr.frozen? ⟨g, m + x, none⟩ = false := HG2.out.frozen (m + x)
          go_wp2_with fail
          go_roundw
          case rel =>
            refine ⟨x + 1, by omega, by omega, by go_num, Lib.hid ?_, hT2.setCell (p := ⟨g, m + x, none⟩) (.inl rfl) _⟩
            have h := HG2.out.set_ (m + x) (.int .i32 v)
            rw [rowA_set, rowA_congr (h := fillT sw x0 y0 x1 v f y (x + 1)) (fun k _ => by rw [← HMM.out]; exact fillT_step (by omega) xl k)] at h
            exact h
          case measure =>
            simp only [intOf]
            omega
        · have t2 : decide ((x : Int) ≤ (x1 : Int)) = false := decide_eq_false (by omega)
          have e : x = x1 + 1 := by omega
          subst e
          go_wp2_with fail
          go_roundw
          case rel =>
            refine ⟨y + 1, by omega, by omega, by go_num, Lib.hid ?_, hT2⟩
            have h := HG2.out
            rw [rowA_congr (fun k _ => fillT_row yl k)] at h
            exact h
          case measure =>
            simp only [intOf]
            omega
    · have t1 : decide ((y : Int) ≤ (y1 : Int)) = false := decide_eq_false (by omega)
      have e : y = y1 + 1 := by omega
      subst e
      have HGK : Hid (Blk wr g 21 (rowA n (fillK sw x0 y0 x1 y1 v f))) := Lib.hid (by
        have h := HG.out
        rw [rowA_congr (fun k _ => fillT_end k)] at h
        exact h)
      have hmayK := Lib.hid (fillK_may (sw := sw) (x0 := x0) (y0 := y0) (x1 := x1) (y1 := y1) HV.out hmay.out)
      have hT5 : Touch (fun i => i = b ∨ some i = q) w wr := (hT4.mono (fun i _ e => .inl e)).trans' hT (fun i hi e => by
        subst e
        rcases hg3 with e | e
        · exact .inr e.symm
        · have := HBz.size; omega)
      have hq5 : q = some g ∨ w.heap.size ≤ g := by
        rcases hg3 with e | e
        · exact .inl e
        · have := HBz.size; exact .inr (by omega)
      obtain ⟨F, hF⟩ : ∃ F, F = fillK sw x0 y0 x1 y1 v f := ⟨_, rfl⟩
      rw [← hF] at HGK hmayK
      have HF := Lib.hid hF
      clear hF hmay HG W1
      have g0 : wr.cell? ⟨g, 0, none⟩ = some (.int .i32 (F 0)) := (HGK.out.cell 0).trans (rowA_get _ _ _ (by omega))
      have b2 : wr.cell? ⟨b, 2, none⟩ = some (.iface 135 (.slice (some ⟨g, 0, none⟩) n n)) := BBr.cell 2
      have f2 := BBr.frozen 2
      have HBr := Lib.hid BBr
      have hn0 : (0 : Int) < (n : Int) := by omega
      clear BBr BCr BPr
      go_wp2_with fail
      refine (ContainsRough w3.heap.size g n F _ p0 (by omega) n2 HGK.out).mono ?_
      rintro e w5 ⟨z, rfl, hz, rfl⟩
      have HZ := Lib.hid hz
      clear hz
      rcases z with _ | _
      · go_wp2_with fail
        go_ret
        show GivesFilled w b sw sh (fillK sw x0 y0 x1 y1 v f) q _ _
        rw [← HF.out]
        have hall : ∀ k, k < n → F k = F 0 := fun k hk => Classical.byContradiction fun hne => by
          have := HZ.out.2 ⟨k, hk, hne⟩
          cases this
        exact ⟨none, rfl, slab_flat HN.out s1 s2 s3 s4 hmayK.out hall (HBr.out.set_ 2 (.iface 128 (.int .i32 (F 0)))), hT5.setCell (p := ⟨b, 2, none⟩) (.inl (.inl rfl)) _, (fun _ h => by cases h)⟩
      · go_wp2_with fail
        go_ret
        show GivesFilled w b sw sh (fillK sw x0 y0 x1 y1 v f) q _ _
        rw [← HF.out]
        exact ⟨some g, rfl, slab_rough HN.out s1 s2 s3 s4 hmayK.out HBr.out HGK.out, hT5, (fun g' h => by injection h with h; subst h; exact hq5)⟩
end Go.Proofs.Ytccpgalpahfpaaa

/-
  (*Slab).Fill: a rectangle of a slab gets one value, whatever the slab is.
-/
namespace Go.Proofs.Ytccpgalpahfpaaa
open Go.RowKit
set_option linter.unusedVariables false
set_option linter.unusedSimpArgs false

theorem filled_flat {w w1 : World} {b sw sh x0 y0 x1 y1 : Nat} {f : Nat → Int} {q : Option Nat} {v : Int} {V : Value} (hS : SlabIs w b sw sh f q) (hb : Blk w b 133 #[.int .i64 sw, .int .i64 sh, V]) (hv : MayV v) (hall : ∀ k, k < sw * sh → fillK sw x0 y0 x1 y1 v f k = v)
    (h1 : Below w.heap.size w w1) : GivesFilled w b sw sh (fillK sw x0 y0 x1 y1 v f) q (.returned (.int .i64 0)) (w1.setCell ⟨b, 2, none⟩ (.iface 128 (.int .i32 v))) := by
  refine ⟨none, rfl, slab_flat rfl hS.w1 hS.w2 hS.h1 hS.h2 (fun k hk => ?_) hall ((hb.kept h1).set_ 2 _), (Touch.of_kept (S := fun i => i = b ∨ some i = q) h1).setCell (p := ⟨b, 2, none⟩) (.inl (.inl rfl)) _, (fun _ h => by cases h)⟩
  rw [hall k hk]; exact hv

theorem area_cast {x0 y0 x1 y1 : Nat} (hx : x0 ≤ x1) (hy : y0 ≤ y1) : ((x1 : Int) - x0 + 1) * ((y1 : Int) - y0 + 1) = (((x1 - x0 + 1) * (y1 - y0 + 1) : Nat) : Int) := by
  rw [Int.natCast_mul]
  congr 1 <;> omega

theorem sFill_ok {w : World} {b sw sh : Nat} {f : Nat → Int} {q : Option Nat} (hS : SlabIs w b sw sh f q) (x0 y0 x1 y1 : Nat) (v : Int) (hx : x0 ≤ x1) (hx' : x1 < sw) (hy : y0 ≤ y1) (hy' : y1 < sh) (hv : MayV v) :
    Calls Try.prog 49 #[.pointer (some ⟨b, 0, none⟩), rectV x0 y0 x1 y1, .int .i64 v] w (GivesFilled w b sw sh (fillK sw x0 y0 x1 y1 v f) q) := by
  obtain ⟨V, hb, hl⟩ := hS.body
  have HR := Lib.hid fun W (hW : Below w.heap.size w W) => srough_ok (hS.kept hW)
  have hwhole : (((x1 : Int) - x0 + 1) * ((y1 : Int) - y0 + 1) == ((sw * sh : Nat) : Int)) = true → ∀ k, k < sw * sh → fillK sw x0 y0 x1 y1 v f k = v := by
    intro he k hk
    rw [beq_iff_eq, area_cast hx hy] at he
    obtain ⟨e1, e2, e3, e4⟩ := whole_all hx hx' hy hy' (by omega)
    have d1 := Nat.mod_lt k (show 0 < sw by omega)
    have d2 : k / sw < sh := Nat.div_lt_of_lt_mul hk
    unfold fillK
    generalize k % sw = a at *
    generalize k / sw = c at *
    rw [if_pos ⟨by omega, by omega, by omega, by omega⟩]
  rcases q with _ | g
  · obtain ⟨z, rfl, hf⟩ := hl
    by_cases hz : z = v
    · refine (sFill_same b sw sh x0 y0 x1 y1 _ v z _ w hb hS.w1 hS.w2 hS.h1 hS.h2 rfl hx hx' hy hy' hv (fun W => ta_flat_flat z W) (by rw [beq_iff_eq]; exact hz)).mono ?_
      rintro e w' ⟨rfl, w1, h1, rfl⟩
      refine filled_flat hS hb hv (fun k hk => ?_) h1
      unfold fillK
      split
      · rfl
      · rw [hf k hk, hz]
    · have hone : (z == v) = false := by rw [beq_eq_false_iff_ne]; exact hz
      rcases hA : (((x1 : Int) - x0 + 1) * ((y1 : Int) - y0 + 1) == ((sw * sh : Nat) : Int)) with _ | _
      · exact sFill_part_t b sw sh x0 y0 x1 y1 _ v z _ f none w hb hS.w1 hS.w2 hS.h1 hS.h2 rfl hx hx' hy hy' hv (fun W => ta_flat_flat z W) hone hA HR
      · refine (sFill_whole_t b sw sh x0 y0 x1 y1 _ v z _ w hb hS.w1 hS.w2 hS.h1 hS.h2 rfl hx hx' hy hy' hv (fun W => ta_flat_flat z W) hone hA).mono ?_
        rintro e w' ⟨rfl, w1, h1, rfl⟩
        exact filled_flat hS hb hv (hwhole hA) h1
  · obtain ⟨rfl, hg⟩ := hl
    rcases hA : (((x1 : Int) - x0 + 1) * ((y1 : Int) - y0 + 1) == ((sw * sh : Nat) : Int)) with _ | _
    · exact sFill_part_f b sw sh x0 y0 x1 y1 _ v 0 _ f (some g) w hb hS.w1 hS.w2 hS.h1 hS.h2 rfl hx hx' hy hy' hv (fun W => ta_rough_flat _ _ _ W) hA HR
    · refine (sFill_whole_f b sw sh x0 y0 x1 y1 _ v 0 _ w hb hS.w1 hS.w2 hS.h1 hS.h2 rfl hx hx' hy hy' hv (fun W => ta_rough_flat _ _ _ W) hA).mono ?_
      rintro e w' ⟨rfl, w1, h1, rfl⟩
      exact filled_flat hS hb hv (hwhole hA) h1
end Go.Proofs.Ytccpgalpahfpaaa

/-
  rect.Pieces: a rectangle by tiles.
-/
namespace Go.Proofs.Ytccpgalpahfpaaa
open Go.RowKit
set_option linter.unusedVariables false
set_option linter.unusedSimpArgs false

/-- a rectangle -/
structure Rc where
  x0 : Int
  y0 : Int
  x1 : Int
  y1 : Int
def encR (r : Rc) : List Value := [.int .i64 r.x0, .int .i64 r.y0, .int .i64 r.x1, .int .i64 r.y1]
theorem encR_len (r : Rc) : (encR r).length = 4 := rfl
theorem encR_plain (r : Rc) : ∀ u ∈ encR r, u.oneCell' = true := by intro u hu; simp [encR] at hu; rcases hu with rfl | rfl | rfl | rfl <;> rfl
theorem info_rect : (Try.prog.info? 45).map (fun i => (i.zero, i.size, i.bytes)) = some (some (rectV 0 0 0 0), 4, 32) := by kernel_rfl

/-- the piece of a rectangle in the tile i columns and j rows behind its first one -/
def pc (r : Rc) (i j : Nat) : Rc := ⟨max (r.x0 - r.x0 % 16 + 16 * (i : Int)) r.x0, max (r.y0 - r.y0 % 16 + 16 * (j : Int)) r.y0, min (r.x0 - r.x0 % 16 + 16 * (i : Int) + 16 - 1) r.x1, min (r.y0 - r.y0 % 16 + 16 * (j : Int) + 16 - 1) r.y1⟩
/-- how many columns, how many rows of tiles it meets -/
def pcX (r : Rc) : Nat := (r.x1 / 16 - r.x0 / 16 + 1).toNat
def pcY (r : Rc) : Nat := (r.y1 / 16 - r.y0 / 16 + 1).toNat
def pcRow (r : Rc) (i j : Nat) : List Rc := (List.range i).map fun a => pc r a j
def pcRows (r : Rc) (j : Nat) : List Rc := (List.range j).flatMap fun b => pcRow r (pcX r) b
/-- all its pieces -/
def pcs (r : Rc) : List Rc := pcRows r (pcY r)
theorem pcRow_succ (r : Rc) (i j : Nat) : pcRow r (i + 1) j = pcRow r i j ++ [pc r i j] := by simp [pcRow, List.range_succ]
theorem pcRows_succ (r : Rc) (j : Nat) : pcRows r (j + 1) = pcRows r j ++ pcRow r (pcX r) j := by simp [pcRows, List.range_succ]
theorem pcRow_len (r : Rc) (i j : Nat) : (pcRow r i j).length = i := by simp [pcRow]
theorem pcRows_len (r : Rc) (j : Nat) : (pcRows r j).length = j * pcX r := by
  induction j with
  | zero => simp [pcRows]
  | succ j ih => rw [pcRows_succ, List.length_append, ih, pcRow_len, Nat.succ_mul]

/-- it returns rectangles in memory of its own -/
def GivesR (w : World) (l : List Rc) (e : Ending) (w' : World) : Prop :=
  ∃ A c, e = .returned (.slice A l.length c) ∧ w'.ownsRow w.heap.size 45 4 (.slice A l.length c) l.length (flt encR l) ∧ Below w.heap.size w w'
def RectsAt (w wr : World) (v : Value) (l : List Rc) : Prop :=
  ∃ A c, v = .slice A l.length c ∧ wr.ownsRow w.heap.size 45 4 (.slice A l.length c) l.length (flt encR l)

set_option maxHeartbeats 2000000 in
set_option maxRecDepth 100000 in
theorem Pieces_ok (r : Rc) (w : World) (hr : rightB r.x0 r.y0 r.x1 r.y1 = true) : Calls Try.prog 46 #[rectV r.x0 r.y0 r.x1 r.y1] w (GivesR w (pcs r)) := by
  obtain ⟨i0, hi0, hz0, hz1, hz2⟩ := info_parts info_rect
  obtain ⟨x0, y0, x1, y1⟩ := r
  simp only at hr ⊢
  have hR := fun W => Right_any x0 y0 x1 y1 W
  rw [hr] at hR
  have HR := Lib.hid hR
  obtain ⟨h1, h2, h3, h4, h5, h6⟩ := (right_iff _ _ _ _).1 hr
  obtain ⟨nx, hnx⟩ : ∃ m, pcX ⟨x0, y0, x1, y1⟩ = m := ⟨_, rfl⟩
  obtain ⟨ny, hny⟩ : ∃ m, pcY ⟨x0, y0, x1, y1⟩ = m := ⟨_, rfl⟩
  have ex : (nx : Int) = x1 / 16 - x0 / 16 + 1 := by rw [← hnx]; unfold pcX; simp only; omega
  have ey : (ny : Int) = y1 / 16 - y0 / 16 + 1 := by rw [← hny]; unfold pcY; simp only; omega
  have HNX := Lib.hid hnx
  have HNY := Lib.hid hny
  have EX := Lib.hid ex
  have EY := Lib.hid ey
  have lx : nx ≤ 64 := by omega
  have ly : ny ≤ 64 := by omega
  have FX := Lib.hid (fun W => floor_any x0 W h1 (by omega))
  have FY := Lib.hid (fun W => floor_any y0 W h4 (by omega))
  clear hr hR hnx hny ex ey
  go_enter Try.func46, Try.ntmps46
  go_wp2_with fail
  refine (HR.out _).mono ?_
  rintro e w1 ⟨rfl, hb1⟩
  obtain ⟨c0, c1, c2, c3⟩ := (box4_new w (.int .i64 x0) (.int .i64 y0) (.int .i64 x1) (.int .i64 y1) 45).bel hb1 (by simp)
  have hz : w.heap.size < w1.heap.size := by have := hb1.size; simp at this; omega
  have HB : Below w.heap.size w w1 := (new_bel w _).trans (hb1.mono (by simp))
  clear hb1 HR
  go_wp2_with fail
  refine (FY.out _).mono ?_
  rintro e w2 ⟨rfl, rfl⟩
  go_wp2_with fail
  go_loopw [3, 4] (fun v t wr => ∃ (j : Nat), j ≤ ny ∧ t = .int .i64 (y0 - y0 % 16 + 16 * (j : Int)) ∧ RectsAt w1 wr v (pcRows ⟨x0, y0, x1, y1⟩ j) ∧ Below w1.heap.size w1 wr) (fun _ t _ => (2000 - intOf t).toNat)
  case atStart => exact ⟨0, by omega, by simp, ⟨none, 0, by simp [pcRows], by simpa [pcRows, flt] using World.ownsRow_nil _ _ _ _⟩, Below.refl _ _⟩
  case round =>
    obtain ⟨j, hj, rfl, ⟨A, c, rfl, hown⟩, hbr⟩ := hrel
    have q0 := bel_cell hbr _ _ (by simpa using hz) c0
    have q1 := bel_cell hbr _ _ (by simpa using hz) c1
    have q2 := bel_cell hbr _ _ (by simpa using hz) c2
    have q3 := bel_cell hbr _ _ (by simpa using hz) c3
    have hy := EY.out
    by_cases hlt : j < ny
    · have t1 : y0 - y0 % 16 + 16 * (j : Int) ≤ y1 := by omega
      clear hy
      go_wp2_with fail
      refine (FX.out _).mono ?_
      rintro e w2 ⟨rfl, rfl⟩
      go_wp2_with fail
      go_loopw [3, 5] (fun v t wr2 => ∃ (i : Nat), i ≤ nx ∧ t = .int .i64 (x0 - x0 % 16 + 16 * (i : Int)) ∧ RectsAt w1 wr2 v (pcRows ⟨x0, y0, x1, y1⟩ j ++ pcRow ⟨x0, y0, x1, y1⟩ i j) ∧ Below w1.heap.size w1 wr2) (fun _ t _ => (2000 - intOf t).toNat)
      case atStart => exact ⟨0, by omega, by simp, ⟨A, c, by simp [pcRow], by simpa [pcRow] using hown⟩, hbr⟩
      case round =>
        obtain ⟨i, hi, rfl, ⟨A2, c2', rfl, hown2⟩, hbr2⟩ := hrel
        have p0 := bel_cell hbr2 _ _ (by simpa using hz) c0
        have p1 := bel_cell hbr2 _ _ (by simpa using hz) c1
        have p2 := bel_cell hbr2 _ _ (by simpa using hz) c2
        have p3 := bel_cell hbr2 _ _ (by simpa using hz) c3
        have hzr := hbr2.size
        clear q0 q1 q2 q3 hown hbr
        have len4 : (pcRows ⟨x0, y0, x1, y1⟩ j ++ pcRow ⟨x0, y0, x1, y1⟩ i j).length ≤ 8192 := by
          rw [List.length_append, pcRows_len, pcRow_len, HNX.out]
          have := Nat.mul_le_mul (show j ≤ 64 by omega) lx
          omega
        obtain ⟨L, hL⟩ : ∃ L, pcRows ⟨x0, y0, x1, y1⟩ j ++ pcRow ⟨x0, y0, x1, y1⟩ i j = L := ⟨_, rfl⟩
        rw [hL] at len4 hown2 ⊢
        have HL := Lib.hid hL
        clear hL
        have hx := EX.out
        by_cases hlt2 : i < nx
        · have t2 : x0 - x0 % 16 + 16 * (i : Int) ≤ x1 := by omega
          have hfit : Reads ((wr.alloc (.cells #[.int .i64 (max (x0 - x0 % 16 + 16 * (i : Int)) x0), .int .i64 (max (y0 - y0 % 16 + 16 * (j : Int)) y0), .int .i64 (min (x0 - x0 % 16 + 16 * (i : Int) + 16 - 1) x1), .int .i64 (min (y0 - y0 % 16 + 16 * (j : Int) + 16 - 1) y1)] 45)).alloc (.cells #[.int .i64 (max (x0 - x0 % 16 + 16 * (i : Int)) x0), .int .i64 (max (y0 - y0 % 16 + 16 * (j : Int)) y0), .int .i64 (min (x0 - x0 % 16 + 16 * (i : Int) + 16 - 1) x1), .int .i64 (min (y0 - y0 % 16 + 16 * (j : Int) + 16 - 1) y1)] 45)) (wr.heap.size + 1 + 1) 4 (some ⟨wr.heap.size + 1, 0, none⟩) 1 (encR (pc ⟨x0, y0, x1, y1⟩ i j)) := by
            have := reads_new (wr.alloc (.cells #[.int .i64 (max (x0 - x0 % 16 + 16 * (i : Int)) x0), .int .i64 (max (y0 - y0 % 16 + 16 * (j : Int)) y0), .int .i64 (min (x0 - x0 % 16 + 16 * (i : Int) + 16 - 1) x1), .int .i64 (min (y0 - y0 % 16 + 16 * (j : Int) + 16 - 1) y1)] 45)) (encR (pc ⟨x0, y0, x1, y1⟩ i j)) 45 #[.int .i64 (max (x0 - x0 % 16 + 16 * (i : Int)) x0), .int .i64 (max (y0 - y0 % 16 + 16 * (j : Int)) y0), .int .i64 (min (x0 - x0 % 16 + 16 * (i : Int) + 16 - 1) x1), .int .i64 (min (y0 - y0 % 16 + 16 * (j : Int) + 16 - 1) y1)] 4 1 rfl rfl
            rw [show (wr.alloc (.cells #[.int .i64 (max (x0 - x0 % 16 + 16 * (i : Int)) x0), .int .i64 (max (y0 - y0 % 16 + 16 * (j : Int)) y0), .int .i64 (min (x0 - x0 % 16 + 16 * (i : Int) + 16 - 1) x1), .int .i64 (min (y0 - y0 % 16 + 16 * (j : Int) + 16 - 1) y1)] 45)).heap.size = wr.heap.size + 1 by simp] at this
            exact this
          have HF := Lib.hid hfit
          clear hx hfit
          go_wp2_with (at_builtin; refine wpList_append_appl _ rfl (.tmp 49) (.tmp 51) _ rfl w1.heap.size 45 i0 _ 4 32 Try.underlying93 hi0 hz0 hz1 hz2 rfl (by omega) (.slice A2 L.length c2') _ _ rfl (.inl ((hown2.alloc _).alloc _)) (wr.heap.size + 1 + 1) (some ⟨wr.heap.size + 1, 0, none⟩) 1 1 (encR (pc ⟨x0, y0, x1, y1⟩ i j)) rfl HF.out (encR_plain _) (.inl (by omega)) (by simp only [maxLen]; omega) (by omega) (by simp; omega) ?_; intro v1 w3 hown3 hB3 hg3 hat3)
          go_roundw
          case rel =>
            obtain ⟨A3, c3, rfl, _⟩ := own_shape' hown3
            have e2 : pcRows ⟨x0, y0, x1, y1⟩ j ++ pcRow ⟨x0, y0, x1, y1⟩ (i + 1) j = L ++ [pc ⟨x0, y0, x1, y1⟩ i j] := by rw [pcRow_succ, ← List.append_assoc, HL.out]
            refine ⟨i + 1, by omega, by go_num, ⟨A3, c3, ?_, ?_⟩, ((hbr2.alloc hbr2.size _).alloc (by simp; omega) _).trans hB3⟩
            · rw [e2]; simp
            · rw [e2, flt_append, flt_one]; simpa using hown3
          case measure =>
            simp only [intOf]
            omega
        · have t2 : decide (x0 - x0 % 16 + 16 * (i : Int) ≤ x1) = false := by simp; omega
          have e : i = nx := by omega
          subst e
          clear hx
          go_wp2_with fail
          go_roundw
          case rel =>
            have e2 : pcRows ⟨x0, y0, x1, y1⟩ (j + 1) = L := by rw [pcRows_succ, HNX.out, HL.out]
            refine ⟨j + 1, by omega, by go_num, ⟨A2, c2', ?_, ?_⟩, hbr2⟩
            · rw [e2]
            · rw [e2]; exact hown2
          case measure =>
            simp only [intOf]
            omega
    · have t1 : decide (y0 - y0 % 16 + 16 * (j : Int) ≤ y1) = false := by simp; omega
      have e : j = ny := by omega
      subst e
      clear hy
      go_wp2_with fail
      go_ret
      have e2 : pcs ⟨x0, y0, x1, y1⟩ = pcRows ⟨x0, y0, x1, y1⟩ j := by unfold pcs; rw [HNY.out]
      rw [e2]
      exact ⟨A, c, rfl, ownsRow_low hown HB.size, HB.trans (hbr.mono HB.size)⟩
end Go.Proofs.Ytccpgalpahfpaaa

/-
  Grids: what they are in memory; (*Grid).Size, All, check, slab; inner, spot.
-/
namespace Go.Proofs.Ytccpgalpahfpaaa
open Go.RowKit
set_option linter.unusedVariables false
set_option linter.unusedSimpArgs false

/-- how many tiles one behind the other cover n cells -/
def tiles (n : Nat) : Nat := (n + 15) / 16
/-- how many of n cells are in the tile i -/
def tw (n i : Nat) : Nat := min 16 (n - 16 * i)
/-- the cells of the tile in column i and row j -/
def tileF (f : Nat → Nat → Int) (W i j k : Nat) : Int := f (16 * i + k % tw W i) (16 * j + k / tw W i)

/-- block gb is a grid of W columns and H rows, its slabs' list is in the block sb, the slabs are in the blocks p k, their rows, where they have some, in the blocks q k -/
structure GridOpen (w : World) (gb W H : Nat) (f : Nat → Nat → Int) (sb c : Nat) (p : Nat → Nat) (q : Nat → Option Nat) : Prop where
  w1 : 1 ≤ W
  w2 : W ≤ 1024
  h1 : 1 ≤ H
  h2 : H ≤ 1024
  head : Blk w gb 100 #[.int .i64 W, .int .i64 H, .int .i64 (tiles W), .slice (some ⟨sb, 0, none⟩) (tiles W * tiles H) c]
  list : ∃ cur, Blk w sb 96 cur ∧ ∀ k, k < tiles W * tiles H → cur[k]? = some (.pointer (some ⟨p k, 0, none⟩))
  slabs : ∀ i j, i < tiles W → j < tiles H → SlabIs w (p (j * tiles W + i)) (tw W i) (tw H j) (tileF f W i j) (q (j * tiles W + i))
  inj : ∀ k l, k < tiles W * tiles H → l < tiles W * tiles H → p k = p l → k = l
  inq : ∀ k l g, k < tiles W * tiles H → l < tiles W * tiles H → q k = some g → q l = some g → k = l
/-- and it turns blocks of F alone -/
def GridIs (w : World) (gb W H : Nat) (f : Nat → Nat → Int) (F : Nat → Prop) : Prop :=
  ∃ sb c p q, GridOpen w gb W H f sb c p q ∧ ∀ k, k < tiles W * tiles H → F (p k) ∧ ∀ g, q k = some g → F g

theorem tw_pos {n i : Nat} (h : i < tiles n) : 1 ≤ tw n i ∧ tw n i ≤ 16 := by unfold tw tiles at *; omega
theorem tile_of {n x : Nat} (h : x < n) : x / 16 < tiles n ∧ x % 16 < tw n (x / 16) := by unfold tw tiles; omega
theorem tiles_le {n : Nat} (h : n ≤ 1024) : tiles n ≤ 64 := by unfold tiles; omega
theorem tiles_pos {n : Nat} (h : 1 ≤ n) : 1 ≤ tiles n := by unfold tiles; omega
theorem idx_lt {a b i j : Nat} (hi : i < a) (hj : j < b) : j * a + i < a * b := cell_lt hi hj
theorem idx_inj {a i j i' j' : Nat} (hi : i < a) (hi' : i' < a) (h : j * a + i = j' * a + i') : i = i' ∧ j = j' := by
  have e1 : (j * a + i) / a = j := by rw [Nat.mul_comm, Nat.mul_add_div (by omega), Nat.div_eq_of_lt hi, Nat.add_zero]
  have e2 : (j' * a + i') / a = j' := by rw [Nat.mul_comm, Nat.mul_add_div (by omega), Nat.div_eq_of_lt hi', Nat.add_zero]
  have e : j = j' := by rw [← e1, h, e2]
  subst e
  exact ⟨by omega, rfl⟩

theorem inner_any (x y : Nat) (w : World) : Calls Try.prog 47 #[.int .i64 x, .int .i64 y] w (Ret (cellV ((x % 16 : Nat) : Int) ((y % 16 : Nat) : Int)) w) := by
  have h1 : (0 : Int) ≤ (x : Int) := by omega
  have h2 : (0 : Int) ≤ (y : Int) := by omega
  go_enter Try.func47, Try.ntmps47
  go_wp2_with fail
  refine bodyPost_ret (v := cellV ((x : Int) % 16) ((y : Int) % 16)) (by simp [results, Try.results47, go_sem]) rfl ⟨?_, (Below.refl _ _).alloc (Nat.le_refl _) _⟩
  simp

theorem gspot_any (x y : Int) (w : World) : Calls Try.prog 73 #[cellV x y] w (Ret (rectV x y x y) w) := by
  go_enter Try.func73, Try.ntmps73
  go_wp2_with fail
  exact bodyPost_ret (v := rectV x y x y) (by simp [results, Try.results73, go_sem]) rfl ⟨rfl, ((Below.refl _ _).alloc (Nat.le_refl _) _).alloc (by simp) _⟩

set_option maxHeartbeats 1000000 in
theorem gcheck_any (b : Nat) (W H : Int) (v2 v3 : Value) (x0 y0 x1 y1 : Int) (w : World) (hb : Blk w b 100 #[.int .i64 W, .int .i64 H, v2, v3]) (h1 : 1 ≤ W) (h2 : W ≤ 1024) (h3 : 1 ≤ H) (h4 : H ≤ 1024) :
    Calls Try.prog 45 #[.pointer (some ⟨b, 0, none⟩), rectV x0 y0 x1 y1] w (Ret (.int .i64 (withinZ x0 y0 x1 y1 W H)) w) := by
  have hlt := hb.lt
  have C := (box4_new w (.int .i64 x0) (.int .i64 y0) (.int .i64 x1) (.int .i64 y1) 45)
  have D : Box2 (w.alloc (.cells #[.int .i64 x0, .int .i64 y0, .int .i64 x1, .int .i64 y1] 45)) b (.int .i64 W) (.int .i64 H) := by
    have := hb.alloc (.cells #[.int .i64 x0, .int .i64 y0, .int .i64 x1, .int .i64 y1] 45)
    exact ⟨this.cell 0, this.cell 1⟩
  have hw := fun W' => Within_any x0 y0 x1 y1 W H W' (by omega) (by omega) (by omega) (by omega)
  have HW := Lib.hid hw
  clear hw hb
  go_enter Try.func45, Try.ntmps45
  go_wp2_with fail
  have HX := Below.refl (w.alloc (.cells #[.int .i64 x0, .int .i64 y0, .int .i64 x1, .int .i64 y1] 45)).heap.size (w.alloc (.cells #[.int .i64 x0, .int .i64 y0, .int .i64 x1, .int .i64 y1] 45))
  go_region_held3 (fun W' => (W'.cell? ⟨w.heap.size, 0, none⟩ = some (.int .i64 x0) ∧ W'.cell? ⟨w.heap.size, 1, none⟩ = some (.int .i64 y0) ∧ W'.cell? ⟨w.heap.size, 2, none⟩ = some (.int .i64 x1) ∧ W'.cell? ⟨w.heap.size, 3, none⟩ = some (.int .i64 y1)) ∧ W'.cell? ⟨b, 0, none⟩ = some (.int .i64 W) ∧ W'.cell? ⟨b, 1, none⟩ = some (.int .i64 H))
    (first | exact ⟨C, D⟩ | exact ⟨C.bel HX (by simp), D.bel HX (by simp; omega)⟩)
    ((go_at_call 71; refine (HW.out _).mono ?_; rintro e w2 ⟨rfl, hb2⟩; replace HX := bel_trans_drew HX hb2 (Nat.le_refl _)))
  go_wp2_with fail
  go_ret
  exact ⟨rfl, (new_bel w _).trans (HX.mono (by simp))⟩

/-- a slab is found -/
theorem gslab_at (b sb n c a x y k s : Nat) (v0 v1 : Value) (cur : Array Value) (w : World) (hb : Blk w b 100 #[v0, v1, .int .i64 a, .slice (some ⟨sb, 0, none⟩) n c]) (hs : w.cell? ⟨sb, k, none⟩ = some (.pointer (some ⟨s, 0, none⟩)))
    (hk : y / 16 * a + x / 16 = k) (hkn : k < n) (ha : a ≤ 64) (hy : y < 1024) (hx : x < 1024) :
    Calls Try.prog 48 #[.pointer (some ⟨b, 0, none⟩), .int .i64 x, .int .i64 y] w fun e w' => e = .returned (.pointer (some ⟨s, 0, none⟩)) ∧ ∃ m, w' = w.drewN m := by
  have c2 : w.cell? ⟨b, 2, none⟩ = some (.int .i64 a) := hb.cell 2
  have c3 : w.cell? ⟨b, 3, none⟩ = some (.slice (some ⟨sb, 0, none⟩) n c) := hb.cell 3
  have m1 : y / 16 * a ≤ 64 * 64 := Nat.mul_le_mul (by omega) ha
  have W0 : IntKind.i64.wrap (((y : Int)).tdiv 16) = ((y / 16 : Nat) : Int) := by rw [IntWalk.i64_quo _ _ (by omega)]; simp
  have W1 : IntKind.i64.wrap (((x : Int)).tdiv 16) = ((x / 16 : Nat) : Int) := by rw [IntWalk.i64_quo _ _ (by omega)]; simp
  have W2 : IntKind.i64.wrap (((y / 16 : Nat) : Int) * (a : Int)) = ((y / 16 * a : Nat) : Int) := by rw [← Int.natCast_mul]; exact IntWalk.i64_in _ (by omega)
  have W3 : IntKind.i64.wrap (((y / 16 * a : Nat) : Int) + ((x / 16 : Nat) : Int)) = (k : Int) := by rw [← Int.natCast_add, hk]; exact IntWalk.i64_in _ (by omega)
  have q1 : (0 : Int) ≤ (k : Int) := by omega
  have q2 : (k : Int) < (n : Int) := by omega
  have V0 : ((y : Int)).tdiv 16 = ((y / 16 : Nat) : Int) := by rw [Int.tdiv_eq_ediv_of_nonneg (by omega)]; simp
  have V1 : ((x : Int)).tdiv 16 = ((x / 16 : Nat) : Int) := by rw [Int.tdiv_eq_ediv_of_nonneg (by omega)]; simp
  have V2 : IntKind.i64.wrap ((y / 16 : Nat) : Int) = ((y / 16 : Nat) : Int) := IntWalk.i64_in _ (by omega)
  have V3 : IntKind.i64.wrap ((x / 16 : Nat) : Int) = ((x / 16 : Nat) : Int) := IntWalk.i64_in _ (by omega)
  generalize y / 16 * a = A at *
  generalize y / 16 = B at *
  generalize x / 16 = X at *
  clear hb hk
  go_enter Try.func48, Try.ntmps48
  go_wp2_with fail
  go_region_held3 (fun W' => W'.cell? ⟨b, 2, none⟩ = some (.int .i64 a) ∧ W'.cell? ⟨b, 3, none⟩ = some (.slice (some ⟨sb, 0, none⟩) n c) ∧ W'.cell? ⟨sb, k, none⟩ = some (.pointer (some ⟨s, 0, none⟩)))
    (first | exact ⟨c2, c3, hs⟩) (fail)
  go_wp2_with fail
  go_ret
  exact ⟨rfl, 1, rfl⟩
end Go.Proofs.Ytccpgalpahfpaaa

/-
  grid.New: all the same.
-/
namespace Go.Proofs.Ytccpgalpahfpaaa
open Go.RowKit
set_option linter.unusedVariables false
set_option linter.unusedSimpArgs false

theorem pcRows_get (r : Rc) (j : Nat) : pcRows r j = (List.range (j * pcX r)).map fun k => pc r (k % pcX r) (k / pcX r) := by
  induction j with
  | zero => simp [pcRows]
  | succ j ih =>
    rw [pcRows_succ, ih, Nat.succ_mul, List.range_add, List.map_append, List.map_map]
    congr 1
    unfold pcRow
    refine List.map_congr_left fun a ha => ?_
    have ha' : a < pcX r := by simpa using ha
    simp only [Function.comp_apply]
    rw [Nat.mul_comm j, Nat.mul_add_mod, Nat.mul_add_div (by omega), Nat.mod_eq_of_lt ha', Nat.div_eq_of_lt ha', Nat.add_zero]
theorem pcs_len (r : Rc) : (pcs r).length = pcY r * pcX r := pcRows_len r _
theorem pcs_get (r : Rc) (k : Nat) (h : k < (pcs r).length) : (pcs r)[k] = pc r (k % pcX r) (k / pcX r) := by
  have e : pcs r = _ := pcRows_get r (pcY r)
  simp only [e, List.getElem_map, List.getElem_range]

/-- all of a grid -/
def allR (W H : Nat) : Rc := ⟨0, 0, (W : Int) - 1, (H : Int) - 1⟩
theorem allR_X {W H : Nat} (h : 1 ≤ W) : pcX (allR W H) = tiles W := by unfold pcX allR tiles; simp only; omega
theorem allR_Y {W H : Nat} (h : 1 ≤ H) : pcY (allR W H) = tiles H := by unfold pcY allR tiles; simp only; omega
theorem allR_pc {W H i j : Nat} (hi : i < tiles W) (hj : j < tiles H) : (pc (allR W H) i j).x1 - (pc (allR W H) i j).x0 + 1 = (tw W i : Int) ∧ (pc (allR W H) i j).y1 - (pc (allR W H) i j).y0 + 1 = (tw H j : Int) ∧
    0 ≤ (pc (allR W H) i j).x0 ∧ (pc (allR W H) i j).x0 ≤ 1024 ∧ 0 ≤ (pc (allR W H) i j).y0 ∧ (pc (allR W H) i j).y0 ≤ 1024 ∨ 1024 < W ∨ 1024 < H := by
  unfold pc allR tw tiles at *
  simp only
  omega

def ptrV (b : Nat) : Value := .pointer (some ⟨b, 0, none⟩)
theorem info_sptr : (Try.prog.info? 96).map (fun i => (i.zero, i.size, i.bytes)) = some (some (.pointer none), 1, 8) := by kernel_rfl

theorem own_of_block {w w' : World} {base : Nat} {e : TypeId} {size n : Nat} {v : Value} {xs : List Value} (h : w.ownsRow base e size v n xs) (hk : ∀ g, v.ownBlock = some g → w'.heap[g]? = w.heap[g]?) : w'.ownsRow base e size v n xs := by
  refine ⟨h.1, ?_⟩
  rcases h.2 with h2 | ⟨g, cap, cur, rfl, hg, hh, h3⟩
  · exact .inl h2
  · exact .inr ⟨g, cap, cur, rfl, hg, (hk g rfl).trans hh, h3⟩
theorem own_blk {w : World} {base : Nat} {e : TypeId} {size n : Nat} {v : Value} {xs : List Value} (h : w.ownsRow base e size v n xs) {g : Nat} (hg : v.ownBlock = some g) : ∃ cur, Blk w g e cur := by
  rcases h.2 with ⟨rfl, _⟩ | ⟨g', cap, cur, rfl, _, hh, _⟩
  · simp [Value.ownBlock] at hg
  · have : g' = g := by simpa [Value.ownBlock] using hg
    subst this
    exact ⟨cur, hh⟩
theorem own_set {w : World} {base g : Nat} {e t : TypeId} {size n : Nat} {v : Value} {xs : List Value} {cs : Array Value} (h : w.ownsRow base e size v n xs) (hg : Blk w g t cs) (hne : e ≠ t) (o : Nat) (u : Value) : (w.setCell ⟨g, o, none⟩ u).ownsRow base e size v n xs :=
  own_of_block h fun k hk => Below.heap_setCell w ⟨g, o, none⟩ u k (by
    rintro rfl
    exact own_blk_ne h hg hne hk)
theorem own_grown {w w' : World} {base base' : Nat} {e e' : TypeId} {size size' n n' : Nat} {v v' : Value} {xs xs' : List Value} (h : w.ownsRow base e size v n xs) (h' : w.ownsRow base' e' size' v' n' xs') (hne : e ≠ e') (hg : w.grownBy w' v'.ownBlock) : w'.ownsRow base e size v n xs :=
  own_of_block h fun k hk => by
    obtain ⟨cur, hc⟩ := own_blk h hk
    refine hg.block k hc.lt (fun he => ?_)
    obtain ⟨cur', hc'⟩ := own_blk h' he.symm
    exact Blk.ne_ hc hc' hne rfl
theorem Blk.own_grown {w w' : World} {base g : Nat} {e t : TypeId} {size n : Nat} {v : Value} {xs : List Value} {cs : Array Value} (h : Blk w g t cs) (h' : w.ownsRow base e size v n xs) (hne : t ≠ e) (hg : w.grownBy w' v.ownBlock) : Blk w' g t cs :=
  h.grown hg (fun he => own_blk_ne h' h (Ne.symm hne) he.symm)
theorem SlabIs.flat_of {w w' : World} {b sw sh : Nat} {f : Nat → Int} (h : SlabIs w b sw sh f none) (hk : ∀ t cs, Blk w b t cs → t = 133 → Blk w' b t cs) : SlabIs w' b sw sh f none := by
  obtain ⟨v, h1, h2⟩ := h.body
  exact ⟨h.w1, h.w2, h.h1, h.h2, h.may, v, hk _ _ h1 rfl, h2⟩

/-- on the way to a new grid: k slabs are there -/
structure NewAt (w wr : World) (B gb W H : Nat) (v : Int) (k : Nat) (A : Option Addr) (c : Nat) (ps : List Nat) : Prop where
  len : ps.length = k
  own : wr.ownsRow B 96 1 (.slice A k c) k (ps.map ptrV)
  head : Blk wr gb 100 #[.int .i64 W, .int .i64 H, .int .i64 (tiles W), .slice A k c]
  slabs : ∀ i (h : i < ps.length), SlabIs wr ps[i] (tw W (i % tiles W)) (tw H (i / tiles W)) (fun _ => v) none
  nodup : ps.Nodup
  low : ∀ b ∈ ps, B ≤ b ∧ b < wr.heap.size
  below : Below B w wr

/-- a slab is new: then it is listed -/
theorem NewAt.next {w wr w1 w2 : World} {B gb W H : Nat} {v : Int} {k : Nat} {A A' : Option Addr} {c c' : Nat} {ps : List Nat} {b : Nat} (h : NewAt w wr B gb W H v k A c ps) (hB : B ≤ wr.heap.size) (hgb : B ≤ gb)
    (h1 : Below wr.heap.size wr w1) (hb : wr.heap.size ≤ b) (hs : SlabIs w1 b (tw W (k % tiles W)) (tw H (k / tiles W)) (fun _ => v) none)
    (ho : w2.ownsRow B 96 1 (.slice A' (k + 1) c') (k + 1) (ps.map ptrV ++ [ptrV b])) (hg : (w1.alloc (.cells #[ptrV b] 96)).grownBy w2 (Value.slice A k c).ownBlock) :
    NewAt w (w2.setCell ⟨gb, 3, none⟩ (.slice A' (k + 1) c')) B gb W H v (k + 1) A' c' (ps ++ [b]) := by
  have own1 : (w1.alloc (.cells #[ptrV b] 96)).ownsRow B 96 1 (.slice A k c) k (ps.map ptrV) := (ownsRow_below h.own h1 (Nat.le_refl _)).alloc _
  have keep : ∀ g t cs, t ≠ 96 → Blk w1 g t cs → Blk w2 g t cs := fun g t cs ht hk => (hk.alloc _).own_grown own1 ht hg
  have hd2 : Blk w2 gb _ _ := keep gb _ _ (by decide) (h.head.kept h1)
  have hsz : w1.heap.size ≤ w2.heap.size := Nat.le_trans (by simp) hg.size
  have hbl := hs
  obtain ⟨vb, hbb, _⟩ := hbl.body
  refine ⟨by simp [h.len], ?_, ?_, ?_, ?_, ?_, ?_⟩
  · rw [List.map_append]
    exact own_set ho hd2 (by decide) 3 _
  · exact hd2.set_ 3 _
  · have step : ∀ b' sw sh f, SlabIs w1 b' sw sh f none → SlabIs (w2.setCell ⟨gb, 3, none⟩ (.slice A' (k + 1) c')) b' sw sh f none := fun b' sw sh f hS => hS.flat_of fun t cs hk ht => by
      have h2 := keep b' t cs (by rw [ht]; decide) hk
      exact h2.far (p := ⟨gb, 3, none⟩) (Blk.ne_ h2 hd2 (by rw [ht]; decide)) _
    intro i hi
    rw [List.length_append, List.length_singleton] at hi
    rcases Nat.lt_or_ge i ps.length with c | c
    · rw [List.getElem_append_left c]
      exact step _ _ _ _ ((h.slabs i c).kept h1)
    · obtain rfl : i = ps.length := by omega
      rw [List.getElem_append_right (Nat.le_refl _)]
      simp only [Nat.sub_self, List.getElem_cons_zero]
      rw [h.len]
      exact step _ _ _ _ hs
  · rw [List.nodup_append]
    refine ⟨h.nodup, by simp, fun a ha a' ha' => ?_⟩
    simp at ha'
    subst ha'
    have := (h.low a ha).2
    omega
  · intro b' hb'
    rw [List.mem_append] at hb'
    rcases hb' with hb' | hb'
    · have := h.low b' hb'
      have := h1.size
      exact ⟨by omega, by simp [World.setCell]; omega⟩
    · simp at hb'
      subst hb'
      have := hbb.lt
      exact ⟨by omega, by simp [World.setCell]; omega⟩
  · have hb2 : Below B w w2 := ((h.below.trans (h1.mono hB)).alloc (by have := h1.size; omega) _).grown hg (by have := h1.size; simp; omega) (fun g hg' => (own1.lt g hg').1)
    exact hb2.setCell hgb _

/-- it gives a new grid -/
def GivesGrid (w : World) (W H : Nat) (f : Nat → Nat → Int) (e : Ending) (w' : World) : Prop :=
  ∃ gb, e = .returned (.tuple #[.pointer (some ⟨gb, 0, none⟩), .int .i64 0]) ∧ w.heap.size ≤ gb ∧ (∃ sb c p q, w.heap.size ≤ sb ∧ GridOpen w' gb W H f sb c p q ∧ ∀ k, k < tiles W * tiles H → (w.heap.size ≤ p k ∧ p k < w'.heap.size) ∧ ∀ g, q k = some g → w.heap.size ≤ g ∧ g < w'.heap.size) ∧ Below w.heap.size w w'

theorem NewAt.done {w wr : World} {gb W H : Nat} {v : Int} {A : Option Addr} {c : Nat} {ps : List Nat} (h : NewAt w wr w.heap.size gb W H v (tiles W * tiles H) A c ps) (h1 : 1 ≤ W) (h2 : W ≤ 1024) (h3 : 1 ≤ H) (h4 : H ≤ 1024) (hgb : w.heap.size ≤ gb) :
    GivesGrid w W H (fun _ _ => v) (.returned (.tuple #[.pointer (some ⟨gb, 0, none⟩), .int .i64 0])) wr := by
  have hp : 0 < tiles W * tiles H := Nat.mul_pos (tiles_pos h1) (tiles_pos h3)
  obtain ⟨sb, cap, hv, hsb, _⟩ := h.own.form hp
  have hA : A = some ⟨sb, 0, none⟩ := by injection hv
  subst hA
  obtain ⟨cur, hc⟩ := own_blk h.own (g := sb) rfl
  have hat : ∀ k (hk : k < tiles W * tiles H), ps.getD k 0 = ps[k]'(by rw [h.len]; exact hk) := fun k hk => by
    rw [List.getD_eq_getElem?_getD, List.getElem?_eq_getElem (by rw [h.len]; exact hk)]; rfl
  refine ⟨gb, rfl, hgb, ⟨sb, c, fun k => ps.getD k 0, fun _ => none, hsb, ⟨h1, h2, h3, h4, h.head, ⟨cur, hc, fun k hk => ?_⟩, ?_, ?_, fun k l g _ _ e => by cases e⟩, ?_⟩, h.below⟩
  · have := h.own.cells (g := sb) rfl k (ptrV (ps[k]'(by rw [h.len]; exact hk))) (by simp [List.getElem?_eq_getElem (show k < ps.length by rw [h.len]; exact hk)])
    rw [add_plain, Nat.zero_add, hc.cell k] at this
    rw [hat k hk]
    exact this
  · intro i j hi hj
    have hlt := idx_lt hi hj
    have hs := h.slabs (j * tiles W + i) (by rw [h.len]; exact hlt)
    rw [hat _ hlt]
    rw [show (j * tiles W + i) % tiles W = i by rw [Nat.mul_comm, Nat.mul_add_mod, Nat.mod_eq_of_lt hi], show (j * tiles W + i) / tiles W = j by rw [Nat.mul_comm, Nat.mul_add_div (by omega), Nat.div_eq_of_lt hi, Nat.add_zero]] at hs
    exact hs
  · intro k l hk hl e
    simp only [hat k hk, hat l hl] at e
    have pw := List.pairwise_iff_getElem.1 h.nodup
    rcases Nat.lt_trichotomy k l with c | c | c
    · exact absurd e (pw k l _ _ c)
    · exact c
    · exact absurd e.symm (pw l k _ _ c)
  · intro k hk
    simp only [hat k hk]
    exact ⟨h.low _ (List.getElem_mem _), fun g e => by cases e⟩

set_option maxHeartbeats 4000000 in
set_option maxRecDepth 100000 in
theorem gNew_ok (W H : Nat) (v : Int) (w : World) (h1 : 1 ≤ W) (h2 : W ≤ 1024) (h3 : 1 ≤ H) (h4 : H ≤ 1024) (hv : MayV v) :
    Calls Try.prog 37 #[.int .i64 W, .int .i64 H, .int .i64 v] w (GivesGrid w W H (fun _ _ => v)) := by
  obtain ⟨i0, hi0, hz0, hz1, hz2⟩ := info_parts info_sptr
  have hw := fun W' => Within_any 0 0 0 0 W H W' (by omega) (by omega) (by omega) (by omega)
  rw [show withinZ 0 0 0 0 W H = 0 from within_of ⟨by omega, by omega, by omega, by omega⟩ (by omega) (by omega) (by omega) (by omega) (by omega) (by omega)] at hw
  have HW := Lib.hid hw
  have hp := fun W' => Pieces_ok (allR W H) W' ((right_iff _ _ _ _).2 (by unfold allR; simp only; omega))
  have HP := Lib.hid hp
  obtain ⟨n, hn⟩ : ∃ n, tiles W * tiles H = n := ⟨_, rfl⟩
  have hlen : (pcs (allR W H)).length = n := by rw [pcs_len, allR_X h1, allR_Y h3, Nat.mul_comm, hn]
  have hnl : n ≤ 4096 := by rw [← hn]; exact Nat.mul_le_mul (tiles_le h2) (tiles_le h4)
  have HL := Lib.hid hlen
  have HN := Lib.hid hn
  have HV := Lib.hid hv
  have ea : ((W : Int) + 16 - 1) / 16 = (tiles W : Int) := by unfold tiles; omega
  have EA := Lib.hid ea
  clear hw hp hlen hn hv ea
  go_enter Try.func37, Try.ntmps37
  go_wp2_with fail
  refine (HW.out _).mono ?_
  rintro e w1 ⟨rfl, hb1⟩
  obtain ⟨c0, c1, c2, c3⟩ := (box4_new w (.int .i64 0) (.int .i64 0) (.int .i64 ((W : Int) - 1)) (.int .i64 ((H : Int) - 1)) 45).bel hb1 (by simp)
  have hz : w.heap.size < w1.heap.size := by have := hb1.size; simp at this; omega
  have HB : Below w.heap.size w w1 := (new_bel w _).trans (hb1.mono (by simp))
  clear hb1 HW
  go_wp2_with fail
  rw [EA.out]
  refine (HP.out _).mono ?_
  rintro e w2 ⟨RA, rc, rfl, hrects, hb2⟩
  rw [HL.out] at hrects ⊢
  have hb2' : Below (w1.heap.size + 1) (w1.alloc (.cells #[.int .i64 W, .int .i64 H, .int .i64 (tiles W), .slice none 0 0] 100)) w2 := by simpa using hb2
  have hd2 := (Blk.new w1 100 #[.int .i64 W, .int .i64 H, .int .i64 (tiles W), .slice none 0 0]).below hb2' (by omega)
  have HB2 : Below w.heap.size w w2 := (HB.alloc HB.size _).trans (hb2'.mono (by omega))
  have hzz : w1.heap.size < w2.heap.size := by have := hb2'.size; simp at this; omega
  have hrects' : w2.ownsRow w.heap.size 45 4 (.slice RA n rc) n (flt encR (pcs (allR W H))) := ownsRow_low hrects (by simp; omega)
  have HR := Lib.hid hrects'
  have HD := Lib.hid hd2
  clear hrects hrects' hd2 hb2 hb2' c0 c1 c2 c3 HP EA
  go_wp2_with fail
  go_loopw [37] (fun t wr => ∃ (k : Nat) (A : Option Addr) (c : Nat) (ps : List Nat), k ≤ n ∧ t = .int .i64 k ∧ Hid (NewAt w wr w.heap.size w1.heap.size W H v k A c ps) ∧ Hid (wr.ownsRow w.heap.size 45 4 (.slice RA n rc) n (flt encR (pcs (allR W H))))) (fun t _ => n - (intOf t).toNat)
  case atStart => exact ⟨0, none, 0, [], by omega, rfl, Lib.hid ⟨rfl, by simpa using World.ownsRow_nil _ _ _ _, HD.out, (fun i hi => by simp at hi), by simp, (fun b hb => by simp at hb), HB2⟩, HR⟩
  case round =>
    obtain ⟨k, A, c, ps, hk, rfl, HNA, HRr⟩ := hrel
    by_cases hlt : k < n
    · have hlt' : k < (pcs (allR W H)).length := by rw [HL.out]; exact hlt
      have hkx : k % tiles W < tiles W := Nat.mod_lt _ (tiles_pos h1)
      have hky : k / tiles W < tiles H := Nat.div_lt_of_lt_mul (by rw [HN.out]; exact hlt)
      obtain ⟨g, hRA, hg1, hg2, hcell⟩ := own_thing (l := pcs (allR W H)) encR_len (by rw [HL.out]; exact HRr.out) hlt'
      subst hRA
      rw [pcs_get _ _ hlt', allR_X h1] at hcell
      rcases allR_pc (W := W) (H := H) hkx hky with ⟨z1, z2, z3, z4, z5, z6⟩ | z | z
      · obtain ⟨r, hr⟩ : ∃ r, pc (allR W H) (k % tiles W) (k / tiles W) = r := ⟨_, rfl⟩
        rw [hr] at hcell z1 z2 z3 z4 z5 z6
        have e0 : wr.cell? ⟨g, k * 4, none⟩ = some (.int .i64 r.x0) := hcell 0 _ rfl
        have e1 : wr.cell? ⟨g, k * 4 + 1, none⟩ = some (.int .i64 r.y0) := hcell 1 _ rfl
        have e2 : wr.cell? ⟨g, k * 4 + 2, none⟩ = some (.int .i64 r.x1) := hcell 2 _ rfl
        have e3 : wr.cell? ⟨g, k * 4 + 3, none⟩ = some (.int .i64 r.y1) := hcell 3 _ rfl
        have t1 : (k : Int) < (n : Int) := by omega
        have p1 := tw_pos hkx
        have p2 := tw_pos hky
        have HNS := Lib.hid fun W' => sNew_ok (tw W (k % tiles W)) (tw H (k / tiles W)) v W' p1.1 p1.2 p2.1 p2.2 HV.out
        have HZ1 := Lib.hid z1
        have HZ2 := Lib.hid z2
        have y1 : 0 ≤ r.x1 := by omega
        have y2 : r.x1 ≤ 2048 := by omega
        have y3 : 0 ≤ r.y1 := by omega
        have y4 : r.y1 ≤ 2048 := by omega
        clear hcell hr hlt' z1 z2
        go_wp2_with fail
        rw [HZ1.out, HZ2.out]
        refine (HNS.out _).mono ?_
        rintro e w3 ⟨b, rfl, hbn, hS3, hb3⟩
        have hb3' : Below wr.heap.size wr w3 := (new_bel wr _).trans (hb3.mono (by simp))
        have hbn' : wr.heap.size ≤ b := by simp at hbn; omega
        have hd3 := HNA.out.head.kept hb3'
        have d3 : w3.cell? ⟨w1.heap.size, 3, none⟩ = some (.slice A k c) := hd3.cell 3
        have ow3 := ownsRow_below HNA.out.own hb3' (Nat.le_refl _)
        have ow3' := ow3.alloc (.cells #[ptrV b] 96)
        have hwr := HNA.out.below.size
        have hz3 := hb3'.size
        have hkeep := Lib.hid (And.intro hd3 (And.intro ow3' (And.intro hS3 (And.intro hb3' hbn'))))
        have HOW := Lib.hid ow3'
        have HNR := Lib.hid (reads_new1 w3 (ptrV b) 96)
        have hd4 := hd3.alloc (.cells #[ptrV b] 96)
        have HD4 := Lib.hid hd4
        clear hd3 hd4 ow3 ow3' hS3 hb3 hbn HNS e0 e1 e2 e3
        go_wp2_with (at_builtin; (go_must (refine wpList_append_appl _ rfl (.tmp 65) (.tmp 67) _ rfl w.heap.size 96 i0 _ 1 8 Try.underlying98 hi0 hz0 hz1 hz2 rfl (by omega) (.slice A k c) _ _ rfl (.inl HOW.out) (w3.heap.size + 1) (some ⟨w3.heap.size, 0, none⟩) 1 1 [ptrV b] rfl HNR.out (by intro u hu; simp at hu; subst hu; rfl) (.inl (by omega)) (by simp only [maxLen]; omega) (by omega) (by simp; omega) ?_)); intro v1 w4 hown4 hB4 hg4 hat4; obtain ⟨A4, c4, rfl, hs4⟩ := own_shape' hown4; obtain ⟨hq1, hq2⟩ : w4.cell? ⟨w1.heap.size, 3, none⟩ = some (.slice A k c) ∧ w4.frozen? ⟨w1.heap.size, 3, none⟩ = false := (by have hx := HD4.out.own_grown HOW.out (by decide) hg4; exact ⟨hx.cell 3, hx.frozen 3⟩))
        go_roundw
        case rel =>
          refine ⟨k + 1, A4, c4, ps ++ [b], by omega, by go_num, Lib.hid ?_, Lib.hid ?_⟩
          · exact HNA.out.next hwr (by omega) hkeep.out.2.2.2.1 hkeep.out.2.2.2.2 hkeep.out.2.2.1 hown4 hg4
          · have r1 := (ownsRow_below HRr.out hkeep.out.2.2.2.1 (Nat.le_refl _)).alloc (.cells #[ptrV b] 96)
            have r2 := own_grown r1 HOW.out (by decide) hg4
            exact own_set r2 (HD4.out.own_grown HOW.out (by decide) hg4) (by decide) 3 _
        case measure =>
          simp only [intOf]
          omega
      · omega
      · omega
    · have e : k = n := by omega
      subst e
      have hx := HN.out
      subst hx
      go_wp2_with fail
      go_ret2
      exact HNA.out.done h1 h2 h3 h4 (by omega)
end Go.Proofs.Ytccpgalpahfpaaa

/-
  What a fill of a piece does to a grid in memory; pieces of a rectangle, and the rectangle.
-/
namespace Go.Proofs.Ytccpgalpahfpaaa
open Go.RowKit
set_option linter.unusedVariables false
set_option linter.unusedSimpArgs false

/-- is a cell in a rectangle? -/
def inR (r : Rc) (x y : Nat) : Bool := decide (r.x0 ≤ x ∧ (x : Int) ≤ r.x1 ∧ r.y0 ≤ y ∧ (y : Int) ≤ r.y1)
theorem inR_iff (r : Rc) (x y : Nat) : inR r x y = true ↔ (r.x0 ≤ x ∧ (x : Int) ≤ r.x1 ∧ r.y0 ≤ y ∧ (y : Int) ≤ r.y1) := by unfold inR; rw [decide_eq_true_eq]
/-- a grid's cells behind a fill -/
def fillG (r : Rc) (v : Int) (f : Nat → Nat → Int) (x y : Nat) : Int := if inR r x y = true then v else f x y
/-- and behind the fills of several rectangles -/
def fillS (l : List Rc) (v : Int) (f : Nat → Nat → Int) (x y : Nat) : Int := if l.any (fun r => inR r x y) = true then v else f x y
theorem fillS_nil (v : Int) (f : Nat → Nat → Int) : fillS [] v f = f := by funext x y; simp [fillS]
theorem fillS_snoc (l : List Rc) (r : Rc) (v : Int) (f : Nat → Nat → Int) : fillS (l ++ [r]) v f = fillG r v (fillS l v f) := by
  funext x y
  unfold fillS fillG
  rw [List.any_append]
  simp only [List.any_cons, List.any_nil, Bool.or_false]
  cases inR r x y <;> cases l.any (fun r => inR r x y) <;> simp

theorem pc_ok (r : Rc) (h1 : 0 ≤ r.x0) (h2 : r.x0 ≤ r.x1) (h3 : 0 ≤ r.y0) (h4 : r.y0 ≤ r.y1) (k : Nat) (hk : k < (pcs r).length) :
    ∃ a0 b0 a1 b1 : Nat, (pcs r)[k] = ⟨a0, b0, a1, b1⟩ ∧ a0 ≤ a1 ∧ b0 ≤ b1 ∧ a0 / 16 = a1 / 16 ∧ b0 / 16 = b1 / 16 ∧ (a1 : Int) ≤ r.x1 ∧ (b1 : Int) ≤ r.y1 := by
  rw [pcs_get _ _ hk]
  rw [pcs_len] at hk
  have hx : 0 < pcX r := by unfold pcX; omega
  have hi : k % pcX r < pcX r := Nat.mod_lt _ hx
  have hj : k / pcX r < pcY r := Nat.div_lt_of_lt_mul (by rw [Nat.mul_comm]; exact hk)
  generalize k % pcX r = i at *
  generalize k / pcX r = j at *
  obtain ⟨x0, y0, x1, y1⟩ := r
  unfold pcX at hi
  unfold pcY at hj
  unfold pc
  simp only at *
  refine ⟨(max (x0 - x0 % 16 + 16 * (i : Int)) x0).toNat, (max (y0 - y0 % 16 + 16 * (j : Int)) y0).toNat, (min (x0 - x0 % 16 + 16 * (i : Int) + 16 - 1) x1).toNat, (min (y0 - y0 % 16 + 16 * (j : Int) + 16 - 1) y1).toNat, ?_, ?_, ?_, ?_, ?_, ?_, ?_⟩
  · rw [Rc.mk.injEq]; omega
  all_goals omega

theorem pcs_cover (r : Rc) (h1 : 0 ≤ r.x0) (h2 : r.x0 ≤ r.x1) (h3 : 0 ≤ r.y0) (h4 : r.y0 ≤ r.y1) (x y : Nat) : (pcs r).any (fun p => inR p x y) = inR r x y := by
  rw [Bool.eq_iff_iff, List.any_eq_true]
  have hx : 0 < pcX r := by unfold pcX; omega
  constructor
  · rintro ⟨p, hp, hin⟩
    obtain ⟨k, hk, rfl⟩ := List.getElem_of_mem hp
    rw [pcs_get _ _ hk, inR_iff] at hin
    rw [inR_iff]
    unfold pc at hin
    simp only at hin
    omega
  · intro hin
    rw [inR_iff] at hin
    have hi : x / 16 - (r.x0 / 16).toNat < pcX r := by unfold pcX; omega
    have hj : y / 16 - (r.y0 / 16).toNat < pcY r := by unfold pcY; omega
    have hlt : (y / 16 - (r.y0 / 16).toNat) * pcX r + (x / 16 - (r.x0 / 16).toNat) < (pcs r).length := by
      rw [pcs_len, Nat.mul_comm (pcY r)]
      exact idx_lt hi hj
    refine ⟨(pcs r)[(y / 16 - (r.y0 / 16).toNat) * pcX r + (x / 16 - (r.x0 / 16).toNat)], List.getElem_mem _, ?_⟩
    rw [pcs_get _ _ hlt, inR_iff]
    rw [Nat.mul_comm, Nat.mul_add_mod, Nat.mod_eq_of_lt hi, Nat.mul_add_div hx, Nat.div_eq_of_lt hi, Nat.add_zero]
    unfold pc
    simp only
    omega
theorem fillS_all (r : Rc) (h1 : 0 ≤ r.x0) (h2 : r.x0 ≤ r.x1) (h3 : 0 ≤ r.y0) (h4 : r.y0 ≤ r.y1) (v : Int) (f : Nat → Nat → Int) : fillS (pcs r) v f = fillG r v f := by
  funext x y
  unfold fillS fillG
  rw [pcs_cover r h1 h2 h3 h4]

theorem SlabIs.blk {w : World} {b sw sh : Nat} {f : Nat → Int} {q : Option Nat} (h : SlabIs w b sw sh f q) : ∃ cs, Blk w b 133 cs := by
  obtain ⟨v, h1, _⟩ := h.body
  exact ⟨_, h1⟩
theorem SlabIs.qblk {w : World} {b sw sh g : Nat} {f : Nat → Int} {q : Option Nat} (h : SlabIs w b sw sh f q) (hq : q = some g) : ∃ cs, Blk w g 21 cs := by
  subst hq
  obtain ⟨v, _, _, h2⟩ := h.body
  exact ⟨_, h2⟩
theorem SlabIs.touch {w w' : World} {b sw sh : Nat} {f : Nat → Int} {q : Option Nat} {S : Nat → Prop} (h : SlabIs w b sw sh f q) (hT : Touch S w w') (hb : ¬ S b) (hq : ∀ g, q = some g → ¬ S g) : SlabIs w' b sw sh f q := by
  obtain ⟨v, h1, h2⟩ := h.body
  refine ⟨h.w1, h.w2, h.h1, h.h2, h.may, v, h1.touch hT hb, ?_⟩
  rcases q with _ | q
  · exact h2
  · exact ⟨h2.1, h2.2.touch hT (hq q rfl)⟩

theorem GridOpen.fill {w w' : World} {gb W H sb c : Nat} {f : Nat → Nat → Int} {p : Nat → Nat} {q : Nat → Option Nat} (h : GridOpen w gb W H f sb c p q) {a0 b0 a1 b1 : Nat} (ha : a0 ≤ a1) (hb : b0 ≤ b1) (ha1 : a1 < W) (hb1 : b1 < H)
    (ea : a0 / 16 = a1 / 16) (eb : b0 / 16 = b1 / 16) {v : Int} {q' : Option Nat}
    (hS : SlabIs w' (p (b0 / 16 * tiles W + a0 / 16)) (tw W (a0 / 16)) (tw H (b0 / 16)) (fillK (tw W (a0 / 16)) (a0 % 16) (b0 % 16) (a1 % 16) (b1 % 16) v (tileF f W (a0 / 16) (b0 / 16))) q')
    (hT : Touch (fun i => i = p (b0 / 16 * tiles W + a0 / 16) ∨ some i = q (b0 / 16 * tiles W + a0 / 16)) w w') (hq : ∀ g, q' = some g → q (b0 / 16 * tiles W + a0 / 16) = some g ∨ w.heap.size ≤ g) :
    GridOpen w' gb W H (fillG ⟨a0, b0, a1, b1⟩ v f) sb c p (fun k => if k = b0 / 16 * tiles W + a0 / 16 then q' else q k) := by
  have hI := (tile_of (show a0 < W by omega)).1
  have hJ := (tile_of (show b0 < H by omega)).1
  have hK := idx_lt hI hJ
  have h0 := h.slabs _ _ hI hJ
  obtain ⟨c0, hc0⟩ := h0.blk
  obtain ⟨cur, hcur, hptr⟩ := h.list
  generalize hKe : b0 / 16 * tiles W + a0 / 16 = K at *
  have far : ∀ g t cs, t ≠ 133 → t ≠ 21 → Blk w g t cs → Blk w' g t cs := fun g t cs n1 n2 hg => hg.touch hT (fun e => by
    rcases e with e | e
    · subst e; exact Blk.ne_ hg hc0 n1 rfl
    · obtain ⟨c1, hc1⟩ := h0.qblk e.symm
      exact Blk.ne_ hg hc1 n2 rfl)
  refine ⟨h.w1, h.w2, h.h1, h.h2, far _ _ _ (by decide) (by decide) h.head, ⟨cur, far _ _ _ (by decide) (by decide) hcur, hptr⟩, ?_, h.inj, ?_⟩
  · intro i j hi hj
    by_cases hk : j * tiles W + i = K
    · obtain ⟨e1, e2⟩ := idx_inj hi hI (hk.trans hKe.symm)
      subst e1 e2
      rw [hk, if_pos rfl]
      refine hS.congr fun k hk' => ?_
      unfold fillK tileF fillG inR
      generalize k % tw W (a0 / 16) = X
      generalize k / tw W (a0 / 16) = Y
      by_cases d : a0 % 16 ≤ X ∧ X ≤ a1 % 16 ∧ b0 % 16 ≤ Y ∧ Y ≤ b1 % 16
      · rw [if_pos d, if_pos (decide_eq_true (by simp only; omega))]
      · rw [if_neg d, if_neg (by rw [decide_eq_true_eq]; simp only; omega)]
    · rw [if_neg hk]
      have hs := h.slabs i j hi hj
      have hlt := idx_lt hi hj
      obtain ⟨c1, hc1⟩ := hs.blk
      have hs' := hs.touch hT (fun e => by
        rcases e with e | e
        · exact hk (h.inj _ _ hlt hK e)
        · obtain ⟨c2, hc2⟩ := h0.qblk e.symm
          exact Blk.ne_ hc1 hc2 (by decide) rfl) (fun g hg e => by
        obtain ⟨c2, hc2⟩ := hs.qblk hg
        rcases e with e | e
        · subst e; exact Blk.ne_ hc2 hc0 (by decide) rfl
        · exact hk (h.inq _ _ g hlt hK hg e.symm))
      refine hs'.congr fun k hk' => ?_
      unfold tileF fillG
      rw [if_neg]
      rw [inR_iff]
      simp only
      have t1 := tw_pos hi
      have t2 := tw_pos hj
      have m1 := Nat.mod_lt k (show 0 < tw W i by omega)
      have m2 : k / tw W i < tw H j := Nat.div_lt_of_lt_mul hk'
      generalize k % tw W i = X at *
      generalize k / tw W i = Y at *
      intro hin
      apply hk
      rw [← hKe]
      have e1 : i = a0 / 16 := by omega
      have e2 : j = b0 / 16 := by omega
      rw [e1, e2]
  · intro k l g hk hl e1 e2
    by_cases ck : k = K
    · by_cases cl : l = K
      · rw [ck, cl]
      · simp only [ck, if_true, cl, if_false] at e1 e2
        rcases hq g e1 with e | e
        · exact absurd (h.inq _ _ g hl hK e2 e) cl
        · exfalso
          obtain ⟨c2, hc2⟩ := (h.slabs (l % tiles W) (l / tiles W) (Nat.mod_lt _ (by omega)) (Nat.div_lt_of_lt_mul hl)).qblk (g := g) (by rw [Nat.mul_comm, Nat.div_add_mod]; exact e2)
          have := hc2.lt
          omega
    · by_cases cl : l = K
      · simp only [ck, if_false, cl, if_true] at e1 e2
        rcases hq g e2 with e | e
        · exact absurd (h.inq _ _ g hk hK e1 e) ck
        · exfalso
          obtain ⟨c2, hc2⟩ := (h.slabs (k % tiles W) (k / tiles W) (Nat.mod_lt _ (by omega)) (Nat.div_lt_of_lt_mul hk)).qblk (g := g) (by rw [Nat.mul_comm, Nat.div_add_mod]; exact e1)
          have := hc2.lt
          omega
      · simp only [ck, cl, if_false] at e1 e2
        exact h.inq k l g hk hl e1 e2

/-- what a fill may turn, and what there is then -/
theorem GridIs.fill {w w' : World} {gb W H sb c : Nat} {f : Nat → Nat → Int} {p : Nat → Nat} {q : Nat → Option Nat} {F : Nat → Prop} (h : GridOpen w gb W H f sb c p q) (hF : ∀ k, k < tiles W * tiles H → F (p k) ∧ ∀ g, q k = some g → F g) {a0 b0 a1 b1 : Nat} (ha : a0 ≤ a1) (hb : b0 ≤ b1) (ha1 : a1 < W) (hb1 : b1 < H)
    (ea : a0 / 16 = a1 / 16) (eb : b0 / 16 = b1 / 16) {v : Int} {q' : Option Nat}
    (hS : SlabIs w' (p (b0 / 16 * tiles W + a0 / 16)) (tw W (a0 / 16)) (tw H (b0 / 16)) (fillK (tw W (a0 / 16)) (a0 % 16) (b0 % 16) (a1 % 16) (b1 % 16) v (tileF f W (a0 / 16) (b0 / 16))) q')
    (hT : Touch (fun i => i = p (b0 / 16 * tiles W + a0 / 16) ∨ some i = q (b0 / 16 * tiles W + a0 / 16)) w w') (hq : ∀ g, q' = some g → q (b0 / 16 * tiles W + a0 / 16) = some g ∨ w.heap.size ≤ g) :
    GridIs w' gb W H (fillG ⟨a0, b0, a1, b1⟩ v f) (fun i => F i ∨ (w.heap.size ≤ i ∧ i < w'.heap.size)) ∧ Touch F w w' := by
  have hK := idx_lt (tile_of (show a0 < W by omega)).1 (tile_of (show b0 < H by omega)).1
  refine ⟨⟨sb, c, p, _, h.fill ha hb ha1 hb1 ea eb hS hT hq, fun k hk => ⟨.inl (hF k hk).1, fun g hg => ?_⟩⟩, hT.mono fun i _ e => ?_⟩
  · by_cases e : k = b0 / 16 * tiles W + a0 / 16
    · simp only [e, if_true] at hg
      rcases hq g hg with e' | e'
      · exact .inl ((hF _ hK).2 g e')
      · obtain ⟨c2, hc2⟩ := hS.qblk hg
        exact .inr ⟨e', hc2.lt⟩
    · simp only [e, if_false] at hg
      exact .inl ((hF k hk).2 g hg)
  · rcases e with e | e
    · subst e; exact (hF _ hK).1
    · exact (hF _ hK).2 i e.symm
end Go.Proofs.Ytccpgalpahfpaaa

/-
  (*Grid).Fill: a rectangle of a grid gets one value.
-/
namespace Go.Proofs.Ytccpgalpahfpaaa
open Go.RowKit
set_option linter.unusedVariables false
set_option linter.unusedSimpArgs false

section
variable {B b : Nat} {a W w2 : World} {v0 v1 v2 v3 : Value}
theorem keep_alloc (h : (W.cell? ⟨b, 0, none⟩ = some v0 ∧ W.cell? ⟨b, 1, none⟩ = some v1 ∧ W.cell? ⟨b, 2, none⟩ = some v2 ∧ W.cell? ⟨b, 3, none⟩ = some v3) ∧ Below B a W) (hB : B ≤ a.heap.size) (hb : b < B) (C : Box4 a b v0 v1 v2 v3) (o : Obj) :
    ((W.alloc o).cell? ⟨b, 0, none⟩ = some v0 ∧ (W.alloc o).cell? ⟨b, 1, none⟩ = some v1 ∧ (W.alloc o).cell? ⟨b, 2, none⟩ = some v2 ∧ (W.alloc o).cell? ⟨b, 3, none⟩ = some v3) ∧ Below B a (W.alloc o) := by
  have hn := h.2.alloc (Nat.le_trans hB h.2.size) o
  exact ⟨C.bel hn hb, hn⟩
theorem keep_call (h : (W.cell? ⟨b, 0, none⟩ = some v0 ∧ W.cell? ⟨b, 1, none⟩ = some v1 ∧ W.cell? ⟨b, 2, none⟩ = some v2 ∧ W.cell? ⟨b, 3, none⟩ = some v3) ∧ Below B a W) (h2 : Below W.heap.size W w2) (hB : B ≤ a.heap.size) (hb : b < B) (C : Box4 a b v0 v1 v2 v3) :
    (w2.cell? ⟨b, 0, none⟩ = some v0 ∧ w2.cell? ⟨b, 1, none⟩ = some v1 ∧ w2.cell? ⟨b, 2, none⟩ = some v2 ∧ w2.cell? ⟨b, 3, none⟩ = some v3) ∧ Below B a w2 := by
  have hn := bel_trans h.2 h2 hB
  exact ⟨C.bel hn hb, hn⟩
theorem keep_of (hn : Below B a W) (hb : b < B) (C : Box4 a b v0 v1 v2 v3) : (W.cell? ⟨b, 0, none⟩ = some v0 ∧ W.cell? ⟨b, 1, none⟩ = some v1 ∧ W.cell? ⟨b, 2, none⟩ = some v2 ∧ W.cell? ⟨b, 3, none⟩ = some v3) ∧ Below B a W := ⟨C.bel hn hb, hn⟩
theorem bel_alloc' (h : Below B a W) (hB : B ≤ a.heap.size) (o : Obj) : Below B a (W.alloc o) := h.alloc (Nat.le_trans hB h.size) o
theorem bel_set' (h : Below B a W) {p : Addr} (hp : B ≤ p.block) (u : Value) : Below B a (W.setCell p u) := h.setCell hp u
theorem keep_set2 (h : (W.cell? ⟨b, 0, none⟩ = some v0 ∧ W.cell? ⟨b, 1, none⟩ = some v1 ∧ W.cell? ⟨b, 2, none⟩ = some v2 ∧ W.cell? ⟨b, 3, none⟩ = some v3) ∧ Below B a W) (p p' : Addr) (u u' : Value) (hp : B ≤ p.block) (hp' : B ≤ p'.block) (hB : B ≤ a.heap.size) (hb : b < B) (C : Box4 a b v0 v1 v2 v3) :
    (((W.setCell p u).setCell p' u').cell? ⟨b, 0, none⟩ = some v0 ∧ ((W.setCell p u).setCell p' u').cell? ⟨b, 1, none⟩ = some v1 ∧ ((W.setCell p u).setCell p' u').cell? ⟨b, 2, none⟩ = some v2 ∧ ((W.setCell p u).setCell p' u').cell? ⟨b, 3, none⟩ = some v3) ∧ Below B a ((W.setCell p u).setCell p' u') := by
  have hn := (h.2.setCell hp u).setCell hp' u'
  exact ⟨C.bel hn hb, hn⟩
end

theorem inner_eq (x y : Nat) (w : World) : Calls Try.prog 47 #[.int .i64 x, .int .i64 y] w fun e w' => e = .returned (cellV ((x % 16 : Nat) : Int) ((y % 16 : Nat) : Int)) ∧ w.alloc (.cells #[.int .i64 ((x % 16 : Nat) : Int), .int .i64 ((y % 16 : Nat) : Int)] 24) = w' := by
  have h1 : (0 : Int) ≤ (x : Int) := by omega
  have h2 : (0 : Int) ≤ (y : Int) := by omega
  go_enter Try.func47, Try.ntmps47
  go_wp2_with fail
  refine bodyPost_ret (v := cellV ((x : Int) % 16) ((y : Int) % 16)) (by simp [results, Try.results47, go_sem]) rfl ⟨?_, ?_⟩
  · simp
  · simp

theorem slab_far {w w' : World} {b sw sh g : Nat} {f : Nat → Int} {q : Option Nat} {t : TypeId} {cs : Array Value} (h0 : SlabIs w b sw sh f q) (hT : Touch (fun i => i = b ∨ some i = q) w w') (n1 : t ≠ 133) (n2 : t ≠ 21) (hg : Blk w g t cs) : Blk w' g t cs :=
  hg.touch hT (fun e => by
    rcases e with e | e
    · obtain ⟨c0, hc0⟩ := h0.blk
      subst e; exact Blk.ne_ hg hc0 n1 rfl
    · obtain ⟨c1, hc1⟩ := h0.qblk e.symm
      exact Blk.ne_ hg hc1 n2 rfl)
theorem slab_own_far {w w' : World} {b sw sh : Nat} {f : Nat → Int} {q : Option Nat} {base : Nat} {e : TypeId} {size n : Nat} {v : Value} {xs : List Value} (h0 : SlabIs w b sw sh f q) (hT : Touch (fun i => i = b ∨ some i = q) w w') (n1 : e ≠ 133) (n2 : e ≠ 21) (h : w.ownsRow base e size v n xs) : w'.ownsRow base e size v n xs :=
  own_of_block h fun g hg => by
    obtain ⟨cur, hc⟩ := own_blk h hg
    exact (slab_far h0 hT n1 n2 hc).trans hc.symm
theorem GridOpen.kept {w w' : World} {gb W H sb c : Nat} {f : Nat → Nat → Int} {p : Nat → Nat} {q : Nat → Option Nat} (h : GridOpen w gb W H f sb c p q) (hb : Below w.heap.size w w') : GridOpen w' gb W H f sb c p q := by
  obtain ⟨cur, h1, h2⟩ := h.list
  exact ⟨h.w1, h.w2, h.h1, h.h2, h.head.kept hb, ⟨cur, h1.kept hb, h2⟩, fun i j hi hj => (h.slabs i j hi hj).kept hb, h.inj, h.inq⟩
theorem GridIs.kept {w w' : World} {gb W H : Nat} {f : Nat → Nat → Int} {F : Nat → Prop} (h : GridIs w gb W H f F) (hb : Below w.heap.size w w') : GridIs w' gb W H f F := by
  obtain ⟨sb, c, p, q, h1, h2⟩ := h
  exact ⟨sb, c, p, q, h1.kept hb, h2⟩
theorem GridIs.wide {w : World} {gb W H : Nat} {f : Nat → Nat → Int} {F F' : Nat → Prop} (h : GridIs w gb W H f F) (hF : ∀ i, F i → F' i) : GridIs w gb W H f F' := by
  obtain ⟨sb, c, p, q, h1, h2⟩ := h
  exact ⟨sb, c, p, q, h1, fun k hk => ⟨hF _ (h2 k hk).1, fun g hg => hF _ ((h2 k hk).2 g hg)⟩⟩

/-- a grid has been filled -/
def GivesFillG (w : World) (gb W H : Nat) (f : Nat → Nat → Int) (F : Nat → Prop) (e : Ending) (w' : World) : Prop :=
  e = .returned (.int .i64 0) ∧ GridIs w' gb W H f (fun i => F i ∨ (w.heap.size ≤ i ∧ i < w'.heap.size)) ∧ Touch F w w'

set_option maxHeartbeats 8000000 in
set_option maxRecDepth 100000 in
theorem gFill_ok {w : World} {gb W H : Nat} {f : Nat → Nat → Int} {F : Nat → Prop} (hG : GridIs w gb W H f F) (r : Rc) (v : Int) (r1 : 0 ≤ r.x0) (r2 : r.x0 ≤ r.x1) (r3 : r.x1 < W) (r4 : 0 ≤ r.y0) (r5 : r.y0 ≤ r.y1) (r6 : r.y1 < H) (hv : MayV v) :
    Calls Try.prog 18 #[.pointer (some ⟨gb, 0, none⟩), rectV r.x0 r.y0 r.x1 r.y1, .int .i64 v] w (GivesFillG w gb W H (fillG r v f) F) := by
  have hG' := hG
  obtain ⟨sb, sc, p, q, hO, hF⟩ := hG'
  have s2 := hO.w2
  have s4 := hO.h2
  have s1 := hO.w1
  have s3 := hO.h1
  have hhd := hO.head
  have hs := fun w' hb' => gcheck_any gb W H (.int .i64 (tiles W)) (.slice (some ⟨sb, 0, none⟩) (tiles W * tiles H) sc) r.x0 r.y0 r.x1 r.y1 w' hb' (by omega) (by omega) (by omega) (by omega)
  rw [show withinZ r.x0 r.y0 r.x1 r.y1 W H = 0 from within_of ⟨by omega, by omega, by omega, by omega⟩ r1 r2 r3 r4 r5 r6] at hs
  have HS := Lib.hid hs
  have HP := Lib.hid fun w' => Pieces_ok r w' ((right_iff _ _ _ _).2 ⟨by omega, by omega, by omega, by omega, by omega, by omega⟩)
  obtain ⟨L, hL⟩ : ∃ L, pcs r = L := ⟨_, rfl⟩
  have hpc := pc_ok r r1 r2 r4 r5
  have hfin := fillS_all r r1 r2 r4 r5 v f
  have hnl : (pcs r).length ≤ 4096 := by
    rw [pcs_len]
    have e1 : pcY r ≤ 64 := by unfold pcY; omega
    have e2 : pcX r ≤ 64 := by unfold pcX; omega
    exact Nat.mul_le_mul e1 e2
  rw [hL] at HP hpc hfin hnl
  obtain ⟨n, hn⟩ : ∃ n, L.length = n := ⟨_, rfl⟩
  rw [hn] at hnl
  have HN := Lib.hid hn
  have HPC := Lib.hid hpc
  have HFIN := Lib.hid hfin
  have HV := Lib.hid hv
  have HG := Lib.hid hG
  have HHD := Lib.hid hhd
  have hgl := hhd.lt
  obtain ⟨x0, y0, x1, y1⟩ := r
  simp only at *
  clear hs hpc hfin hL hn hG hO hF hhd hv
  go_enter Try.func18, Try.ntmps18
  go_wp2_with fail
  refine (HS.out _ (HHD.out.alloc _)).mono ?_
  rintro e w1 ⟨rfl, hb1⟩
  have hb1' : Below (w.heap.size + 1) (w.alloc (.cells #[.int .i64 x0, .int .i64 y0, .int .i64 x1, .int .i64 y1] 45)) w1 := by simpa using hb1
  obtain ⟨c0, c1, c2, c3⟩ := (box4_new w (.int .i64 x0) (.int .i64 y0) (.int .i64 x1) (.int .i64 y1) 45).bel hb1' (by omega)
  have HB : Below w.heap.size w w1 := (new_bel w _).trans (hb1'.mono (by omega))
  clear hb1 hb1' HS
  go_wp2_with fail
  refine (HP.out _).mono ?_
  rintro e w2 ⟨RA, rc, rfl, hrects, hb2⟩
  rw [HN.out] at hrects ⊢
  have HB2 : Below w.heap.size w w2 := bel_trans HB hb2 (Nat.le_refl _)
  have HR := Lib.hid (ownsRow_low hrects HB.size)
  clear hrects hb2 c0 c1 c2 c3 HP HB
  go_wp2_with fail
  go_loopw [22] (fun t wr => ∃ k : Nat, k ≤ n ∧ t = .int .i64 k ∧ Hid (GridIs wr gb W H (fillS (L.take k) v f) (fun i => F i ∨ (w.heap.size ≤ i ∧ i < wr.heap.size))) ∧ Hid (Touch F w wr) ∧ Hid (wr.ownsRow w.heap.size 45 4 (.slice RA n rc) n (flt encR L))) (fun t _ => n - (intOf t).toNat)
  case atStart =>
    refine ⟨0, by omega, rfl, Lib.hid ?_, Lib.hid (Touch.of_kept HB2), HR⟩
    rw [List.take_zero, fillS_nil]
    exact (HG.out.kept HB2).wide fun i hi => .inl hi
  case round =>
    obtain ⟨k, hk, rfl, HGr, HTr, HRr⟩ := hrel
    by_cases hlt : k < n
    · have hlt' : k < L.length := by rw [HN.out]; exact hlt
      obtain ⟨a0, b0, a1, b1, hpk, ha, hb, ea, eb, ha1, hb1⟩ := HPC.out k hlt'
      obtain ⟨g, hRA, hg1, hg2, hcell⟩ := own_thing (l := L) encR_len (by rw [HN.out]; exact HRr.out) hlt'
      subst hRA
      rw [hpk] at hcell
      have e0 : wr.cell? ⟨g, k * 4, none⟩ = some (.int .i64 a0) := hcell 0 _ rfl
      have e1 : wr.cell? ⟨g, k * 4 + 1, none⟩ = some (.int .i64 b0) := hcell 1 _ rfl
      have e2 : wr.cell? ⟨g, k * 4 + 2, none⟩ = some (.int .i64 a1) := hcell 2 _ rfl
      have e3 : wr.cell? ⟨g, k * 4 + 3, none⟩ = some (.int .i64 b1) := hcell 3 _ rfl
      have t1 : (k : Int) < (n : Int) := by omega
      have HPK := Lib.hid hpk
      have HEA := Lib.hid ea
      have HEB := Lib.hid eb
      clear hcell hpk ea eb
      go_upto_region 7 with fail
      obtain ⟨w5, hw5⟩ : ∃ w5, wr.alloc (.cells #[.int .i64 a0, .int .i64 b0, .int .i64 a1, .int .i64 b1] 45) = w5 := ⟨_, rfl⟩
      rw [hw5]
      have C : Box4 w5 wr.heap.size (.int .i64 a0) (.int .i64 b0) (.int .i64 a1) (.int .i64 b1) := by rw [← hw5]; exact box4_new wr _ _ _ _ _
      have hz5 : w5.heap.size = wr.heap.size + 1 := by rw [← hw5]; simp
      have HW5 := Lib.hid hw5
      have hB5 : wr.heap.size + 1 ≤ w5.heap.size := by omega
      have hb5 : wr.heap.size < wr.heap.size + 1 := by omega
      have HX0 := Below.refl (wr.heap.size + 1) w5
      have HZ5 := Lib.hid hz5
      clear hw5 hz5 e0 e1 e2 e3
      obtain ⟨A0, hA0⟩ : ∃ A0, a0 % 16 = A0 := ⟨_, rfl⟩
      obtain ⟨B0, hB0⟩ : ∃ B0, b0 % 16 = B0 := ⟨_, rfl⟩
      obtain ⟨A1, hA1⟩ : ∃ A1, a1 % 16 = A1 := ⟨_, rfl⟩
      obtain ⟨B1, hB1⟩ : ∃ B1, b1 % 16 = B1 := ⟨_, rfl⟩
      have HI0 := Lib.hid fun w' => inner_eq a0 b0 w'
      have HI1 := Lib.hid fun w' => inner_eq a1 b1 w'
      rw [hA0, hB0] at HI0
      rw [hA1, hB1] at HI1
      have HA0 := Lib.hid hA0
      have HB0 := Lib.hid hB0
      have HA1 := Lib.hid hA1
      have HB1 := Lib.hid hB1
      clear hA0 hB0 hA1 hB1
      go_cut [10, 11] (fun s10 s11 wx => ∃ ga gc : Nat, s10 = .pointer (some ⟨ga, 0, none⟩) ∧ s11 = .pointer (some ⟨gc, 0, none⟩) ∧ Blk wx ga 24 #[.int .i64 A0, .int .i64 B0] ∧ Blk wx gc 24 #[.int .i64 A1, .int .i64 B1] ∧ Below (wr.heap.size + 1) w5 wx)
      case first =>
        go_region_held3 (fun W' => (W'.cell? ⟨wr.heap.size, 0, none⟩ = some (.int .i64 a0) ∧ W'.cell? ⟨wr.heap.size, 1, none⟩ = some (.int .i64 b0) ∧ W'.cell? ⟨wr.heap.size, 2, none⟩ = some (.int .i64 a1) ∧ W'.cell? ⟨wr.heap.size, 3, none⟩ = some (.int .i64 b1)) ∧ Below (wr.heap.size + 1) w5 W')
          (first | exact ⟨C, HX0.drew⟩ | (refine keep_of ?_ hb5 C; repeat (first | exact HX0 | exact HX0.drew | refine Below.drew ?_ | refine bel_alloc' ?_ hB5 _ | refine bel_set' ?_ (by simp; omega) _)))
          ((go_at_call 47; (first | with_reducible refine (HI0.out _).mono ?_ | with_reducible refine (HI1.out _).mono ?_); rintro e w6 ⟨rfl, rfl⟩))
        all_goals
          go_wp2_with fail
          go_meet
          refine ⟨_, _, rfl, rfl, ?_, ?_, ?_⟩
          · repeat (first | (refine Blk.new' _ _ _ ?_; first | rfl | (simp; done)) | refine Blk.drew ?_ | refine Blk.alloc ?_ _)
          · repeat (first | (refine Blk.new' _ _ _ ?_; first | rfl | (simp; done)) | refine Blk.drew ?_ | refine Blk.alloc ?_ _)
          · repeat (first | exact HX0 | exact HX0.drew | refine Below.drew ?_ | refine bel_alloc' ?_ hB5 _ | refine bel_set' ?_ (by simp; omega) _)
      case rest =>
        obtain ⟨ga, gc, rfl, rfl, BA, BD, HBx⟩ := hcut
        have HBr : Below wr.heap.size wr wc := by
          have e := HW5.out
          have h5 : Below wr.heap.size wr w5 := by rw [← e]; exact new_bel wr _
          exact h5.trans (HBx.mono (by omega))
        have BR : Blk wc wr.heap.size 45 #[.int .i64 a0, .int .i64 b0, .int .i64 a1, .int .i64 b1] := by
          have e := HW5.out
          refine Blk.below ?_ HBx (by omega)
          rw [← e]; exact Blk.new wr _ _
        obtain ⟨sb2, sc2, p2, q2, hO2, hF2⟩ := HGr.out.kept HBr
        have hI := tile_of (show a0 < W by omega)
        have hJ := tile_of (show b0 < H by omega)
        have hK := idx_lt hI.1 hJ.1
        have hSL := hO2.slabs _ _ hI.1 hJ.1
        obtain ⟨cur, hcur, hptr⟩ := hO2.list
        have hat := (hcur.cell _).trans (hptr _ hK)
        have HSA := Lib.hid <| gslab_at gb sb2 _ sc2 (tiles W) a0 b0 _ _ _ _ #[] wc.drew hO2.head.drew hat rfl hK (tiles_le s2) (by omega) (by omega)
        have HFL := Lib.hid fun w' (hw' : Below wc.heap.size wc w') => sFill_ok (hSL.kept hw') (a0 % 16) (b0 % 16) (a1 % 16) (b1 % 16) v (by have := HEA.out; omega) (by have := HEA.out; have h2 := (tile_of (show a1 < W by omega)).2; rw [← this] at h2; exact h2) (by have := HEB.out; omega) (by have := HEB.out; have h2 := (tile_of (show b1 < H by omega)).2; rw [← this] at h2; exact h2) HV.out
        rw [HA0.out, HB0.out, HA1.out, HB1.out] at HFL
        have HO2 := Lib.hid hO2
        have HF2 := Lib.hid hF2
        have HSL := Lib.hid hSL
        obtain ⟨K, hKe⟩ : ∃ K, b0 / 16 * tiles W + a0 / 16 = K := ⟨_, rfl⟩
        rw [hKe] at HSA HFL HSL
        obtain ⟨sl, hsl⟩ : ∃ sl, p2 K = sl := ⟨_, rfl⟩
        rw [hsl] at HSA HFL HSL
        obtain ⟨q0, hq0⟩ : ∃ q0, q2 K = q0 := ⟨_, rfl⟩
        rw [hq0] at HFL HSL
        have HKE := Lib.hid hKe
        have HSE := Lib.hid hsl
        have HQE := Lib.hid hq0
        have SS : (wc.cell? ⟨wr.heap.size, 0, none⟩ = some (.int .i64 a0) ∧ wc.cell? ⟨wr.heap.size, 1, none⟩ = some (.int .i64 b0)) ∧ (wc.cell? ⟨ga, 0, none⟩ = some (.int .i64 A0) ∧ wc.cell? ⟨ga, 1, none⟩ = some (.int .i64 B0)) ∧ (wc.cell? ⟨gc, 0, none⟩ = some (.int .i64 A1) ∧ wc.cell? ⟨gc, 1, none⟩ = some (.int .i64 B1)) := ⟨⟨BR.cell 0, BR.cell 1⟩, ⟨BA.cell 0, BA.cell 1⟩, BD.cell 0, BD.cell 1⟩
        have HK8 : Hid (∀ m w7, Touch (fun i => i = sl ∨ some i = q0) (wc.drewN m) w7 → (w7.cell? ⟨wr.heap.size, 0, none⟩ = some (.int .i64 a0) ∧ w7.cell? ⟨wr.heap.size, 1, none⟩ = some (.int .i64 b0)) ∧ (w7.cell? ⟨ga, 0, none⟩ = some (.int .i64 A0) ∧ w7.cell? ⟨ga, 1, none⟩ = some (.int .i64 B0)) ∧ (w7.cell? ⟨gc, 0, none⟩ = some (.int .i64 A1) ∧ w7.cell? ⟨gc, 1, none⟩ = some (.int .i64 B1))) := Lib.hid fun m w7 hT => by
          have h0 := HSL.out.kept (bel_drewN (Below.refl wc.heap.size wc) m)
          have r1 := slab_far h0 hT (by decide) (by decide) (BR.drewN m)
          have r2 := slab_far h0 hT (by decide) (by decide) (BA.drewN m)
          have r3 := slab_far h0 hT (by decide) (by decide) (BD.drewN m)
          exact ⟨⟨r1.cell 0, r1.cell 1⟩, ⟨r2.cell 0, r2.cell 1⟩, r3.cell 0, r3.cell 1⟩
        clear hO2 hF2 hSL hcur hptr hat hKe hsl hq0 BR BA BD hI hJ hK HI0 HI1
        go_wp2_with fail
        go_region_held3 (fun W' => (W'.cell? ⟨wr.heap.size, 0, none⟩ = some (.int .i64 a0) ∧ W'.cell? ⟨wr.heap.size, 1, none⟩ = some (.int .i64 b0)) ∧ (W'.cell? ⟨ga, 0, none⟩ = some (.int .i64 A0) ∧ W'.cell? ⟨ga, 1, none⟩ = some (.int .i64 B0)) ∧ (W'.cell? ⟨gc, 0, none⟩ = some (.int .i64 A1) ∧ W'.cell? ⟨gc, 1, none⟩ = some (.int .i64 B1)))
          (first | exact SS | exact HK8.out _ _ hT7)
          (first | (go_at_call 48; refine HSA.out.mono ?_; rintro e w6 ⟨rfl, m, rfl⟩) | (go_at_call 49; refine (HFL.out _ (bel_drewN (Below.refl _ _) _)).mono ?_; rintro e w7 ⟨q', rfl, hS7, hT7, hq7⟩))
        go_wp2_with fail
        go_roundw
        case rel =>
          have h8 := bel_drewN (Below.refl wc.heap.size wc) (1 + m)
          have hO8 := HO2.out.kept h8
          have heq := HKE.out
          have hse := HSE.out
          have hqe := HQE.out
          subst heq hse hqe
          have hA := HA0.out
          have hB := HB0.out
          have hA' := HA1.out
          have hB' := HB1.out
          subst hA hB hA' hB'
          obtain ⟨g1, g2⟩ := GridIs.fill (F := fun i => F i ∨ (w.heap.size ≤ i ∧ i < wr.heap.size)) hO8 HF2.out ha hb (by omega) (by omega) HEA.out HEB.out hS7 hT7 hq7
          have hsz : w.heap.size ≤ wr.heap.size := HTr.out.size
          have hszc := HBr.size
          have hsz7 := hT7.size
          have hszd : (wc.drewN (1 + m)).heap.size = wc.heap.size := rfl
          refine ⟨k + 1, by omega, by go_num, Lib.hid ?_, Lib.hid ?_, Lib.hid ?_⟩
          · rw [List.take_succ_eq_append_getElem hlt', fillS_snoc, HPK.out]
            refine g1.wide fun i hi => ?_
            rcases hi with (hi | hi) | hi
            · exact .inl hi
            · exact .inr (by omega)
            · exact .inr (by have := hi.1; have := hi.2; simp at *; omega)
          · exact ((HTr.out.trans (Touch.of_kept HBr)).drewN (1 + m)).trans' g2 (fun i hi e => by
              rcases e with e | e
              · exact e
              · omega)
          · have h1 := ownsRow_below HRr.out HBr (Nat.le_refl _)
            exact slab_own_far (HSL.out.kept h8) hT7 (by decide) (by decide) (own_of_block (w' := wc.drewN (1 + m)) h1 (fun _ _ => rfl))
        case measure =>
          simp only [intOf]
          omega
    · have e : k = n := by omega
      subst e
      go_wp2_with fail
      go_ret
      have hg := HGr.out
      rw [List.take_of_length_le (by rw [HN.out]; exact Nat.le_refl _), HFIN.out] at hg
      exact ⟨rfl, hg, HTr.out⟩
end Go.Proofs.Ytccpgalpahfpaaa

/-
  (*Grid).Size, All, Set, Values.
-/
namespace Go.Proofs.Ytccpgalpahfpaaa
open Go.RowKit
set_option linter.unusedVariables false
set_option linter.unusedSimpArgs false

theorem gSize_any (b : Nat) (W H : Int) (v2 v3 : Value) (w : World) (hb : Blk w b 100 #[.int .i64 W, .int .i64 H, v2, v3]) :
    Calls Try.prog 39 #[.pointer (some ⟨b, 0, none⟩)] w (Ret (.tuple #[.int .i64 W, .int .i64 H]) w) := by
  have c0 : w.cell? ⟨b, 0, none⟩ = some (.int .i64 W) := hb.cell 0
  have c1 : w.cell? ⟨b, 1, none⟩ = some (.int .i64 H) := hb.cell 1
  clear hb
  go_enter Try.func39, Try.ntmps39
  go_wp2_with fail
  go_region_held3 (fun W' => W'.cell? ⟨b, 0, none⟩ = some (.int .i64 W) ∧ W'.cell? ⟨b, 1, none⟩ = some (.int .i64 H)) (first | exact ⟨c0, c1⟩) (fail)
  go_wp2_with fail
  go_ret2
  exact ⟨rfl, (Below.refl _ _).drew⟩

set_option maxHeartbeats 1000000 in
theorem gAll_any (b : Nat) (W H : Int) (v2 v3 : Value) (w : World) (hb : Blk w b 100 #[.int .i64 W, .int .i64 H, v2, v3]) (h1 : 1 ≤ W) (h2 : W ≤ 1024) (h3 : 1 ≤ H) (h4 : H ≤ 1024) :
    Calls Try.prog 19 #[.pointer (some ⟨b, 0, none⟩)] w (Ret (rectV 0 0 (W - 1) (H - 1)) w) := by
  have hlt := hb.lt
  have c0 : w.cell? ⟨b, 0, none⟩ = some (.int .i64 W) := hb.cell 0
  have c1 : w.cell? ⟨b, 1, none⟩ = some (.int .i64 H) := hb.cell 1
  have D : Box2 w b (.int .i64 W) (.int .i64 H) := ⟨c0, c1⟩
  have D2 := D.bel (new_bel w (.cells #[.int .i64 0, .int .i64 0, .int .i64 0, .int .i64 0] 45)) hlt
  have D3 := D.bel (new_bel w (.cells #[.int .i64 0, .int .i64 0, .int .i64 (W - 1), .int .i64 (H - 1)] 45)) hlt
  have W1 : IntKind.i64.wrap (W - 1) = W - 1 := IntWalk.i64_in _ (by omega)
  have W2 : IntKind.i64.wrap (H - 1) = H - 1 := IntWalk.i64_in _ (by omega)
  clear hb
  go_enter Try.func19, Try.ntmps19
  go_wp2_with fail
  go_region_held3 (fun W' => W'.cell? ⟨b, 0, none⟩ = some (.int .i64 W) ∧ W'.cell? ⟨b, 1, none⟩ = some (.int .i64 H)) (first | exact D2 | exact D3 | exact D) (fail)
  go_wp2_with fail
  exact bodyPost_ret (v := rectV 0 0 (W - 1) (H - 1)) (by simp [results, Try.results19, go_sem]) rfl ⟨rfl, ((Below.refl _ _).alloc (Nat.le_refl _) _).drew⟩

theorem gSet_ok {w : World} {gb W H : Nat} {f : Nat → Nat → Int} {F : Nat → Prop} (hG : GridIs w gb W H f F) (x y : Nat) (v : Int) (hx : x < W) (hy : y < H) (hv : MayV v) :
    Calls Try.prog 38 #[.pointer (some ⟨gb, 0, none⟩), cellV x y, .int .i64 v] w (GivesFillG w gb W H (fillG ⟨x, y, x, y⟩ v f) F) := by
  have HF := Lib.hid fun W' (hW : Below w.heap.size w W') => gFill_ok (hG.kept hW) ⟨x, y, x, y⟩ v (by simp only; omega) (by simp only; omega) (by simp only; omega) (by simp only; omega) (by simp only; omega) (by simp only; omega) hv
  clear hG
  go_enter Try.func38, Try.ntmps38
  go_wp2_with fail
  refine (gspot_any x y _).mono ?_
  rintro e w1 ⟨rfl, hb1⟩
  have HB : Below w.heap.size w w1 := (new_bel w _).trans (hb1.mono (by simp))
  clear hb1
  go_wp2_with fail
  refine (HF.out _ HB).mono ?_
  rintro e w2 ⟨rfl, hg, hT⟩
  go_wp2_with fail
  go_ret
  have := HB.size
  refine ⟨rfl, hg.wide fun i hi => ?_, (Touch.of_kept HB).trans hT⟩
  rcases hi with hi | hi
  · exact .inl hi
  · exact .inr (by omega)

/-- the values of a part of a row, of rows -/
def vRow (f : Nat → Nat → Int) (x0 y i : Nat) : List Int := (List.range i).map fun a => f (x0 + a) y
def vRows (f : Nat → Nat → Int) (x0 nx y0 j : Nat) : List Int := (List.range j).flatMap fun b => vRow f x0 (y0 + b) nx
theorem vRow_succ (f : Nat → Nat → Int) (x0 y i : Nat) : vRow f x0 y (i + 1) = vRow f x0 y i ++ [f (x0 + i) y] := by simp [vRow, List.range_succ]
theorem vRows_succ (f : Nat → Nat → Int) (x0 nx y0 j : Nat) : vRows f x0 nx y0 (j + 1) = vRows f x0 nx y0 j ++ vRow f x0 (y0 + j) nx := by simp [vRows, List.range_succ]
theorem vRow_len (f : Nat → Nat → Int) (x0 y i : Nat) : (vRow f x0 y i).length = i := by simp [vRow]
theorem vRows_len (f : Nat → Nat → Int) (x0 nx y0 j : Nat) : (vRows f x0 nx y0 j).length = j * nx := by
  induction j with
  | zero => simp [vRows]
  | succ j ih => rw [vRows_succ, List.length_append, ih, vRow_len, Nat.succ_mul]
def ints (l : List Int) : List Value := l.map (Value.int .i64)
theorem ints_append (l m : List Int) : ints (l ++ m) = ints l ++ ints m := by simp [ints]
theorem info_i64 : (Try.prog.info? 2).map (fun i => (i.zero, i.size, i.bytes)) = some (some (.int .i64 0), 1, 8) := by kernel_rfl

theorem tileF_at {W H x y : Nat} (f : Nat → Nat → Int) (hx : x < W) : tileF f W (x / 16) (y / 16) (y % 16 * tw W (x / 16) + x % 16) = f x y := by
  have h := (tile_of hx).2
  unfold tileF
  rw [Nat.mul_comm (y % 16), Nat.mul_add_mod, Nat.mod_eq_of_lt h, Nat.mul_add_div (by omega), Nat.div_eq_of_lt h, Nat.add_zero]
  congr 1 <;> omega

/-- it gives values in memory of its own -/
def GivesV (w : World) (l : List Int) (e : Ending) (w' : World) : Prop :=
  ∃ A c, e = .returned (.tuple #[.slice A l.length c, .int .i64 0]) ∧ w'.ownsRow w.heap.size 2 1 (.slice A l.length c) l.length (ints l) ∧ Below w.heap.size w w'
def ValsAt (w wr : World) (v : Value) (l : List Int) : Prop :=
  ∃ A c, v = .slice A l.length c ∧ wr.ownsRow w.heap.size 2 1 (.slice A l.length c) l.length (ints l)

set_option maxHeartbeats 4000000 in
set_option maxRecDepth 100000 in
theorem gValues_ok {w : World} {gb W H : Nat} {f : Nat → Nat → Int} {F : Nat → Prop} (hG : GridIs w gb W H f F) (x0 y0 x1 y1 : Nat) (r2 : x0 ≤ x1) (r3 : x1 < W) (r5 : y0 ≤ y1) (r6 : y1 < H) :
    Calls Try.prog 29 #[.pointer (some ⟨gb, 0, none⟩), rectV x0 y0 x1 y1] w (GivesV w (vRows f x0 (x1 - x0 + 1) y0 (y1 - y0 + 1))) := by
  obtain ⟨i0, hi0, hz0, hz1, hz2⟩ := info_parts info_i64
  obtain ⟨sb, sc, p, q, hO, hF⟩ := hG
  have s2 := hO.w2
  have s4 := hO.h2
  have s1 := hO.w1
  have s3 := hO.h1
  have hs := fun w' hb' => gcheck_any gb W H (.int .i64 (tiles W)) (.slice (some ⟨sb, 0, none⟩) (tiles W * tiles H) sc) x0 y0 x1 y1 w' hb' (by omega) (by omega) (by omega) (by omega)
  rw [show withinZ x0 y0 x1 y1 W H = 0 from within_of ⟨by omega, by omega, by omega, by omega⟩ (by omega) (by omega) (by omega) (by omega) (by omega) (by omega)] at hs
  have HS := Lib.hid hs
  have hA := fun W => Area_any x0 y0 x1 y1 W
  obtain ⟨n, hn⟩ : ∃ n, (x1 - x0 + 1) * (y1 - y0 + 1) = n := ⟨_, rfl⟩
  rw [show areaZ x0 y0 x1 y1 = (n : Int) by
    unfold areaZ; rw [if_pos ((right_iff _ _ _ _).2 ⟨by omega, by omega, by omega, by omega, by omega, by omega⟩), area_cast r2 r5, hn]] at hA
  have HA := Lib.hid hA
  have hnl : n ≤ 1048576 := by rw [← hn]; exact Nat.mul_le_mul (show x1 - x0 + 1 ≤ 1024 by omega) (show y1 - y0 + 1 ≤ 1024 by omega)
  have HN := Lib.hid hn
  have HO := Lib.hid hO
  have hgl := hO.head.lt
  obtain ⟨nx, hnx⟩ : ∃ nx, x1 - x0 + 1 = nx := ⟨_, rfl⟩
  obtain ⟨ny, hny⟩ : ∃ ny, y1 - y0 + 1 = ny := ⟨_, rfl⟩
  rw [hnx, hny]
  have lx : nx ≤ 1024 ∧ x0 + nx = x1 + 1 := by omega
  have ly : ny ≤ 1024 ∧ y0 + ny = y1 + 1 := by omega
  have HLX := Lib.hid lx.2
  have HLY := Lib.hid ly.2
  have lx1 := lx.1
  have ly1 := ly.1
  clear hs hA hn hO hnx hny lx ly
  go_enter Try.func29, Try.ntmps29
  go_wp2_with fail
  refine (HS.out _ (HO.out.head.alloc _)).mono ?_
  rintro e w1 ⟨rfl, hb1⟩
  have hb1' : Below (w.heap.size + 1) (w.alloc (.cells #[.int .i64 x0, .int .i64 y0, .int .i64 x1, .int .i64 y1] 45)) w1 := by simpa using hb1
  obtain ⟨c0, c1, c2, c3⟩ := (box4_new w (.int .i64 x0) (.int .i64 y0) (.int .i64 x1) (.int .i64 y1) 45).bel hb1' (by omega)
  have C1 : Box4 w1 w.heap.size (.int .i64 x0) (.int .i64 y0) (.int .i64 x1) (.int .i64 y1) := ⟨c0, c1, c2, c3⟩
  have hz1' : w.heap.size < w1.heap.size := by have := hb1'.size; simp at this; omega
  have HB : Below w.heap.size w w1 := (new_bel w _).trans (hb1'.mono (by omega))
  clear hb1 hb1' HS
  go_wp2_with fail
  refine (HA.out _).mono ?_
  rintro e w2 ⟨rfl, hb2⟩
  have C2 := C1.bel hb2 hz1'
  have HB2 := bel_trans HB hb2 (Nat.le_refl _)
  have hz2' : w.heap.size < w2.heap.size := by have := hb2.size; omega
  obtain ⟨w3, hrun, hown3, hg3⟩ := run_make_own (P := Try.prog) w2 w2.heap.size 22 2 i0 (.int .i64 0) 1 Try.underlying22 hi0 hz0 hz1 .i64 .i64 n (by rw [hz2]; omega) (by simp only [maxLen]; omega) (Nat.le_refl _)
  have hb3 : Below w2.heap.size w2 w3 := below_of_grown hg3
  obtain ⟨e0, e1, e2, e3⟩ := C2.bel hb3 hz2'
  have HOW3 := Lib.hid hown3
  clear c0 c1 c2 c3 C1 hb2 HB hg3 hown3
  go_wp2_with fail
  clear hrun
  have C3 : Box4 w2 w.heap.size (.int .i64 x0) (.int .i64 y0) (.int .i64 x1) (.int .i64 y1) := C2
  clear e0 e1 e2 e3 C2
  go_loopw [7, 8] (fun o t wr => ∃ j : Nat, j ≤ ny ∧ t = .int .i64 ((y0 : Int) + (j : Int)) ∧ ValsAt w2 wr o (vRows f x0 nx y0 j) ∧ Below w2.heap.size w2 wr) (fun _ t _ => 4096 - (intOf t).toNat)
  case atStart => exact ⟨0, by omega, by simp, ⟨some ⟨w2.heap.size, 0, none⟩, n, by simp [vRows], by simpa [vRows, ints] using HOW3.out⟩, hb3⟩
  case round =>
    obtain ⟨j, hj, rfl, ⟨A, c, rfl, hown⟩, hbr⟩ := hrel
    obtain ⟨e0, e1, e2, e3⟩ := C3.bel hbr hz2'
    have hly := HLY.out
    by_cases hlt : j < ny
    · have t1 : (y0 : Int) + (j : Int) ≤ (y1 : Int) := by omega
      have HOWN := Lib.hid hown
      clear hly hown
      go_wp2_with fail
      go_loopw [7, 9] (fun o t wr2 => ∃ i : Nat, i ≤ nx ∧ t = .int .i64 ((x0 : Int) + (i : Int)) ∧ ValsAt w2 wr2 o (vRows f x0 nx y0 j ++ vRow f x0 (y0 + j) i) ∧ Below w2.heap.size w2 wr2) (fun _ t _ => 4096 - (intOf t).toNat)
      case atStart => exact ⟨0, by omega, by simp, ⟨A, c, by simp [vRow], by simpa [vRow] using HOWN.out⟩, hbr⟩
      case round =>
        obtain ⟨i, hi, rfl, ⟨A2, c2', rfl, hown2⟩, hbr2⟩ := hrel
        obtain ⟨d0, d1, d2, d3⟩ := C3.bel hbr2 hz2'
        have hzr := hbr2.size
        clear e0 e1 e2 e3 HOWN hbr
        have len4 : (vRows f x0 nx y0 j ++ vRow f x0 (y0 + j) i).length ≤ 2097152 := by
          rw [List.length_append, vRows_len, vRow_len]
          have := Nat.mul_le_mul (show j ≤ 1024 by omega) lx1
          omega
        obtain ⟨L, hL⟩ : ∃ L, vRows f x0 nx y0 j ++ vRow f x0 (y0 + j) i = L := ⟨_, rfl⟩
        rw [hL] at len4 hown2 ⊢
        have HL := Lib.hid hL
        have HOWN2 := Lib.hid hown2
        clear hL hown2
        have hlx := HLX.out
        have hly := HLY.out
        by_cases hlt2 : i < nx
        · have t2 : (x0 : Int) + (i : Int) ≤ (x1 : Int) := by omega
          obtain ⟨x, hx⟩ : ∃ x, x0 + i = x := ⟨_, rfl⟩
          obtain ⟨y, hy⟩ : ∃ y, y0 + j = y := ⟨_, rfl⟩
          have ex : (x0 : Int) + (i : Int) = (x : Int) := by omega
          have ey : (y0 : Int) + (j : Int) = (y : Int) := by omega
          have hxW : x < W := by omega
          have hyH : y < H := by omega
          have hOr := HO.out.kept (HB2.trans (hbr2.mono (by omega)))
          have hI := tile_of hxW
          have hJ := tile_of hyH
          have hK := idx_lt hI.1 hJ.1
          obtain ⟨cur, hcur, hptr⟩ := hOr.list
          have HSA := Lib.hid <| gslab_at gb sb _ sc (tiles W) x y _ _ _ _ #[] wr hOr.head ((hcur.cell _).trans (hptr _ hK)) rfl hK (tiles_le s2) (by omega) (by omega)
          have hSL := hOr.slabs _ _ hI.1 hJ.1
          have HAT := Lib.hid fun w' (hw' : Below wr.heap.size wr w') => sAt_ok (hSL.kept hw') (x % 16) (y % 16) hI.2 hJ.2
          rw [tileF_at (H := H) f hxW] at HAT
          have HIN := Lib.hid fun w' => inner_any x y w'
          obtain ⟨X, hX⟩ : ∃ X, x % 16 = X := ⟨_, rfl⟩
          obtain ⟨Y, hY⟩ : ∃ Y, y % 16 = Y := ⟨_, rfl⟩
          rw [hX, hY] at HAT HIN
          have HEX := Lib.hid hx
          have HEY := Lib.hid hy
          rw [ex, ey]
          rw [ex] at t2
          have EXx := Lib.hid ex
          clear hOr hI hJ hK hcur hptr hSL hX hY hx hy ex ey hlx hly
          go_wp2_with fail
          refine HSA.out.mono ?_
          rintro e w4 ⟨rfl, m, rfl⟩
          have c0' : (wr.drewN m).cell? ⟨w.heap.size, 0, none⟩ = some (.int .i64 x0) := d0
          go_wp2_with fail
          refine (HIN.out _).mono ?_
          rintro e w5 ⟨rfl, hb5⟩
          have HB5 : Below wr.heap.size wr w5 := (bel_drewN (Below.refl _ _) m).trans (hb5.mono (Nat.le_refl _))
          clear hb5 c0'
          go_wp2_with fail
          refine (HAT.out _ HB5).mono ?_
          rintro e w6 ⟨rfl, hb6⟩
          have HB6 := bel_trans HB5 hb6 (Nat.le_refl _)
          have HOWN6 := Lib.hid ((ownsRow_below HOWN2.out HB6 (Nat.le_refl _)).alloc (.cells #[.int .i64 (f x y)] 2))
          have HNR := Lib.hid (reads_new1 w6 (.int .i64 (f x y)) 2)
          have hz6 := HB6.size
          clear HB5 hb6 HSA HAT HIN
          go_wp2_with (at_builtin; (go_must (refine wpList_append_appl _ rfl (.tmp 48) (.tmp 50) _ rfl w2.heap.size 2 i0 _ 1 8 Try.underlying22 hi0 hz0 hz1 hz2 rfl (by omega) (.slice A2 L.length c2') _ _ rfl (.inl HOWN6.out) (w6.heap.size + 1) (some ⟨w6.heap.size, 0, none⟩) 1 1 [.int .i64 (f x y)] rfl HNR.out (by intro u hu; simp at hu; subst hu; rfl) (.inl (by omega)) (by simp only [maxLen]; omega) (by omega) (by simp; omega) ?_)); intro v1 w7 hown7 hB7 hg7 hat7)
          go_roundw
          case rel =>
            obtain ⟨A7, c7, rfl, _⟩ := own_shape' hown7
            have hxx := HEX.out
            have hyy := HEY.out
            have e2 : vRows f x0 nx y0 j ++ vRow f x0 (y0 + j) (i + 1) = L ++ [f x y] := by rw [vRow_succ, ← List.append_assoc, HL.out, hxx, hyy]
            refine ⟨i + 1, by omega, ?_, ⟨A7, c7, ?_, ?_⟩, ((hbr2.trans (HB6.mono hzr)).alloc (by omega) _).trans hB7⟩
            · rw [← EXx.out]; go_num
            · rw [e2]; simp
            · rw [e2, ints_append]; simpa [ints] using hown7
          case measure =>
            simp only [intOf]
            omega
        · have t2 : decide ((x0 : Int) + (i : Int) ≤ (x1 : Int)) = false := decide_eq_false (by omega)
          have e : i = nx := by omega
          subst e
          clear hlx hly
          go_wp2_with fail
          go_roundw
          case rel =>
            have e2 : vRows f x0 i y0 (j + 1) = L := by rw [vRows_succ, HL.out]
            refine ⟨j + 1, by omega, by go_num, ⟨A2, c2', ?_, ?_⟩, hbr2⟩
            · rw [e2]
            · rw [e2]; exact HOWN2.out
          case measure =>
            simp only [intOf]
            omega
    · have t1 : decide ((y0 : Int) + (j : Int) ≤ (y1 : Int)) = false := decide_eq_false (by omega)
      have e : j = ny := by omega
      subst e
      clear hly
      go_wp2_with fail
      go_ret2
      exact ⟨A, c, rfl, ownsRow_low hown HB2.size, HB2.trans (hbr.mono HB2.size)⟩
end Go.Proofs.Ytccpgalpahfpaaa

/-
  Whether a value may be: the document's word, and paint's.
-/
namespace Go.Proofs.Ytccpgalpahfpaaa
open Go.RowKit
set_option linter.unusedVariables false
set_option linter.unusedSimpArgs false

theorem rMay_any (v : Int) (w : World) : Calls Try.prog 36 #[.int .i64 v] w fun e w' => e = .returned (.bool (decide (MayV v))) ∧ w = w' := by
  rcases (show v < -2147483648 ∨ (-2147483648 ≤ v ∧ v ≤ 2147483647) ∨ (-2147483648 ≤ v ∧ 2147483647 < v) from by omega) with h | ⟨h1, h2⟩ | ⟨h1, h2⟩
  · have e : decide (MayV v) = false := decide_eq_false (by unfold MayV; omega)
    have t : decide (-2147483648 ≤ v) = false := decide_eq_false (by omega)
    rw [e]
    clear e
    go_enter Try.func36, Try.ntmps36
    go_wp2_with fail
    go_ret
    exact ⟨rfl, rfl⟩
  · have e : decide (MayV v) = true := decide_eq_true (by unfold MayV; omega)
    rw [e]
    clear e
    go_enter Try.func36, Try.ntmps36
    go_wp2_with fail
    go_ret
    exact ⟨rfl, rfl⟩
  · have e : decide (MayV v) = false := decide_eq_false (by unfold MayV; omega)
    have t : decide (v ≤ 2147483647) = false := decide_eq_false (by omega)
    rw [e]
    clear e
    go_enter Try.func36, Try.ntmps36
    go_wp2_with fail
    go_ret
    exact ⟨rfl, rfl⟩

theorem pmay_any (v : Int) (w : World) : Calls Try.prog 61 #[.int .i64 v] w fun e w' => e = .returned (.bool (decide (MayV v))) ∧ w = w' := by
  rcases (show v < -2147483648 ∨ (-2147483648 ≤ v ∧ v ≤ 2147483647) ∨ (-2147483648 ≤ v ∧ 2147483647 < v) from by omega) with h | ⟨h1, h2⟩ | ⟨h1, h2⟩
  · have e : decide (MayV v) = false := decide_eq_false (by unfold MayV; omega)
    have t : decide (-2147483648 ≤ v) = false := decide_eq_false (by omega)
    rw [e]
    clear e
    go_enter Try.func61, Try.ntmps61
    go_wp2_with fail
    go_ret
    exact ⟨rfl, rfl⟩
  · have e : decide (MayV v) = true := decide_eq_true (by unfold MayV; omega)
    rw [e]
    clear e
    go_enter Try.func61, Try.ntmps61
    go_wp2_with fail
    go_ret
    exact ⟨rfl, rfl⟩
  · have e : decide (MayV v) = false := decide_eq_false (by unfold MayV; omega)
    have t : decide (v ≤ 2147483647) = false := decide_eq_false (by omega)
    rw [e]
    clear e
    go_enter Try.func61, Try.ntmps61
    go_wp2_with fail
    go_ret
    exact ⟨rfl, rfl⟩


theorem Paste1_any (v : Int) (w : World) : Calls Try.prog 60 #[.int .i64 v] w fun e w' => e = .returned (.bool (!decide (MayV v))) ∧ w = w' := by
  have H := Lib.hid fun W => pmay_any v W
  generalize decide (MayV v) = z at *
  go_enter Try.func60, Try.ntmps60
  go_wp2_with fail
  refine (H.out _).mono ?_
  rintro e w2 ⟨rfl, rfl⟩
  go_wp2_with fail
  go_ret
  exact ⟨rfl, rfl⟩
end Go.Proofs.Ytccpgalpahfpaaa

