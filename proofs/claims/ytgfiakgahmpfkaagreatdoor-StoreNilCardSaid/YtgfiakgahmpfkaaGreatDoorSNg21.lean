/-
  Texts of the proofs, one behind the other: MayV, SyGrid, Made, Refs, Range, RVals, Paint.
-/
import Derived.Test.YtgfiakgahmpfkaaGreatDoorSNg20
import Derived.Test.YtgfiakgahmpfkaaGreatDoorSNg05
import Derived.Test.YtgfiakgahmpfkaaGreatDoorSNg09
namespace Go.Proofs.YtgfiakgahmpfkaaGreatDoor
open Go.RowKit
set_option linter.unusedVariables false
set_option linter.unusedSimpArgs false

theorem rMay_any (v : Int) (w : World) : Calls Tryz.prog 61 #[.int .i64 v] w fun e w' => e = .returned (.bool (decide (MayV v))) ∧ w = w' := by
  rcases (show v < -2147483648 ∨ (-2147483648 ≤ v ∧ v ≤ 2147483647) ∨ (-2147483648 ≤ v ∧ 2147483647 < v) from by omega) with h | ⟨h1, h2⟩ | ⟨h1, h2⟩
  · have e : decide (MayV v) = false := decide_eq_false (by unfold MayV; omega)
    have t : decide (-2147483648 ≤ v) = false := decide_eq_false (by omega)
    rw [e]
    clear e
    go_enter Tryz.func61, Tryz.ntmps61
    go_wp2_with fail
    go_ret
    exact ⟨rfl, rfl⟩
  · have e : decide (MayV v) = true := decide_eq_true (by unfold MayV; omega)
    rw [e]
    clear e
    go_enter Tryz.func61, Tryz.ntmps61
    go_wp2_with fail
    go_ret
    exact ⟨rfl, rfl⟩
  · have e : decide (MayV v) = false := decide_eq_false (by unfold MayV; omega)
    have t : decide (v ≤ 2147483647) = false := decide_eq_false (by omega)
    rw [e]
    clear e
    go_enter Tryz.func61, Tryz.ntmps61
    go_wp2_with fail
    go_ret
    exact ⟨rfl, rfl⟩

open Sy


section
variable {R : HP} {gb W H : Nat} {f : Nat → Nat → Int}
end
set_option maxRecDepth 100000
set_option maxHeartbeats 2000000

theorem sMay (v : Int) (R : HP) : PureR Tryz.prog R 61 [.int .i64 v] (.bool (decide (MayV v))) := PureR.of_below fun w _ => (rMay_any v w).mono fun e w' ⟨h1, h2⟩ => ⟨h1, by subst h2; exact Below.refl _ _⟩
/-- the cells that a list of values has, row by row -/
def gv (W : Nat) (l : List Int) (x y : Nat) : Int := l.getD (y * W + x) 0

/-- whatever is apart from us shows these values -/
def Vs (R : HP) (A : Option Addr) (n : Nat) (l : List Int) : Prop := ∀ w, Sat R w → Reads w w.heap.size 1 A n (ints l)
/-- where they are -/
def Spot (R : HP) (A : Option Addr) (n : Nat) (l : List Int) : Prop := n = 0 ∨ ∃ b off, A = some ⟨b, off, none⟩ ∧ ∀ w, Sat R w → ∀ (k : Nat) (hk : k < l.length), w.cell? ⟨b, off + k, none⟩ = some (.int .i64 l[k])
theorem ints_at (l : List Int) (k : Nat) (h : k < l.length) : (ints l)[k]? = some (.int .i64 l[k]) := by simp [ints, List.getElem?_eq_getElem h]
theorem Vs.spot {R : HP} {A : Option Addr} {n : Nat} {l : List Int} (h : Vs R A n l) {w : World} (s : Sat R w) : l.length = n ∧ Spot R A n l := by
  have hr := h w s
  have hl : l.length = n := by have := hr.1; simpa [ints] using this
  refine ⟨hl, ?_⟩
  rcases Nat.eq_zero_or_pos n with h0 | h0
  · exact .inl h0
  · right
    obtain ⟨ad, e, hb, hc⟩ := hr.2 h0
    obtain ⟨b, off, spot⟩ := ad
    have h1 := hc 0 _ (ints_at l 0 (by omega))
    have hs : spot = none := by simpa [Addr.add] using World.cell?_spot h1
    subst hs
    refine ⟨b, off, e, fun w' s' k hk => ?_⟩
    obtain ⟨ad', e', _, hc'⟩ := (h w' s').2 h0
    rw [e] at e'
    injection e' with e'
    subst e'
    have := hc' k _ (ints_at l k hk)
    rwa [add_plain] at this
theorem Vs.mono {R R' : HP} {A : Option Addr} {n : Nat} {l : List Int} (h : Vs R A n l) (hr : ∀ w, Sat R' w → Sat R w) : Vs R' A n l := fun w s => h w (hr w s)
theorem Vs.row {R : HP} {A : Option Addr} {n c : Nat} {l : List Int} (h : ∀ w, Sat R w → Sat (rowH (.slice A n c) n 2 1 (ints l)) w) : Vs R A n l := fun w s => rowH_reads rfl (h w s)

theorem sRWithin (x0 y0 x1 y1 a b : Int) (R : HP) : PureR Tryz.prog R 59 [rectV x0 y0 x1 y1, .int .i64 a, .int .i64 b] (.int .i64 (withinZ x0 y0 x1 y1 a b)) := by
  have no3 : ¬ SizeOk a b → Value.int .i64 3 = .int .i64 (withinZ x0 y0 x1 y1 a b) := fun h => by unfold withinZ; rw [if_pos h]
  have no4 : SizeOk a b → ¬ InP x0 y0 x1 y1 a b → Value.int .i64 4 = .int .i64 (withinZ x0 y0 x1 y1 a b) := fun h h' => by unfold withinZ; rw [if_neg (fun c => c h), if_pos h']
  refine fn_of_run0 false Tryz.func59 rfl hmix rfl fun w0 => ?_
  conv => whnf
  refine ⟨fun h1 => ?_, fun h1 => ?_⟩
  rotate_left
  · conv => whnf
    exact ⟨trivial, fin_pure rfl (no3 (by unfold SizeOk; simp at h1; omega))⟩
  conv => whnf
  refine ⟨fun h2 => ?_, fun h2 => ?_⟩
  rotate_left
  · conv => whnf
    exact ⟨trivial, fin_pure rfl (no3 (by unfold SizeOk; simp at h2; omega))⟩
  conv => whnf
  refine ⟨fun h3 => ?_, fun h3 => ?_⟩
  rotate_left
  · conv => whnf
    exact ⟨trivial, fin_pure rfl (no3 (by unfold SizeOk; simp at h3; omega))⟩
  conv => whnf
  refine ⟨fun h4 => ?_, fun h4 => ?_⟩
  · conv => whnf
    exact ⟨trivial, fin_pure rfl (no3 (by unfold SizeOk; simp at h4; omega))⟩
  have hS : SizeOk a b := by unfold SizeOk; simp at h1 h2 h3 h4; omega
  conv => whnf
  refine ⟨fun h5 => ?_, fun h5 => ?_⟩
  rotate_left
  · conv => whnf
    exact ⟨trivial, fin_pure rfl (no4 hS (by unfold InP; simp at h5; omega))⟩
  conv => whnf
  refine ⟨fun h6 => ?_, fun h6 => ?_⟩
  rotate_left
  · conv => whnf
    exact ⟨trivial, fin_pure rfl (no4 hS (by unfold InP; simp at h6; omega))⟩
  conv => whnf
  refine ⟨fun h7 => ?_, fun h7 => ?_⟩
  rotate_left
  · conv => whnf
    exact ⟨trivial, fin_pure rfl (no4 hS (by unfold InP; simp at h7; omega))⟩
  conv => whnf
  refine ⟨fun h8 => ?_, fun h8 => ?_⟩
  rotate_left
  · conv => whnf
    exact ⟨trivial, fin_pure rfl (no4 hS (by unfold InP; simp at h8; omega))⟩
  conv => whnf
  refine ⟨fun h9 => ?_, fun h9 => ?_⟩
  rotate_left
  · conv => whnf
    exact ⟨trivial, fin_pure rfl (no4 hS (by unfold InP; simp at h9; omega))⟩
  conv => whnf
  refine ⟨fun h10 => ?_, fun h10 => ?_⟩
  rotate_left
  · conv => whnf
    exact ⟨trivial, fin_pure rfl (no4 hS (by unfold InP; simp at h10; omega))⟩
  conv => whnf
  refine ⟨fun h11 => ?_, fun h11 => ?_⟩
  rotate_left
  · conv => whnf
    exact ⟨trivial, fin_pure rfl (no4 hS (by unfold InP; simp at h11; omega))⟩
  conv => whnf
  refine ⟨fun h12 => ?_, fun h12 => ?_⟩
  · conv => whnf
    exact ⟨trivial, fin_pure rfl (no4 hS (by unfold InP; simp at h12; omega))⟩
  have hI : InP x0 y0 x1 y1 a b := by unfold InP; simp at h5 h6 h7 h8 h9 h10 h11 h12; omega
  conv => whnf
  refine ⟨fun h13 => ?_, fun h13 => ?_⟩
  rotate_left
  · conv => whnf
    exact ⟨trivial, fin_pure rfl (by unfold withinZ; rw [if_neg (fun c => c hS), if_neg (fun c => c hI), if_pos (by simp at h13; omega)]; rfl)⟩
  conv => whnf
  refine ⟨fun h14 => ?_, fun h14 => ?_⟩
  · conv => whnf
    exact ⟨trivial, fin_pure rfl (by unfold withinZ; rw [if_neg (fun c => c hS), if_neg (fun c => c hI), if_pos (by simp at h14; omega)]; rfl)⟩
  · conv => whnf
    exact ⟨trivial, fin_pure rfl (by unfold withinZ; rw [if_neg (fun c => c hS), if_neg (fun c => c hI), if_neg (by simp at h13 h14; omega)]; rfl)⟩

abbrev rngV (a b : Int) : Value := .agg #[.int .i64 a, .int .i64 b]

set_option maxHeartbeats 4000000

abbrev modV (W H : Int) (A : Option Addr) (n c : Nat) : Value := .agg #[.int .i64 W, .int .i64 H, .slice A n c]

def pasteK (x0 y0 nx k : Nat) (l : List Int) (f : Nat → Nat → Int) (x y : Nat) : Int := if x0 ≤ x ∧ x < x0 + nx ∧ y0 ≤ y ∧ (y - y0) * nx + (x - x0) < k then l.getD ((y - y0) * nx + (x - x0)) 0 else f x y
theorem pasteK_zero (x0 y0 nx : Nat) (l : List Int) (f : Nat → Nat → Int) : pasteK x0 y0 nx 0 l f = f := by funext x y; simp [pasteK]
theorem pasteK_fill {x0 y0 nx i m : Nat} {l : List Int} {f : Nat → Nat → Int} {v : Int} (hnx : 0 < nx) (hm : 1 ≤ m) (hrow : i % nx + m ≤ nx) (hv : ∀ t, t < m → l.getD (i + t) 0 = v) (x y : Nat) :
    fillG ⟨((x0 + i % nx : Nat) : Int), ((y0 + i / nx : Nat) : Int), ((x0 + i % nx : Nat) : Int) + (m : Int) - 1, ((y0 + i / nx : Nat) : Int)⟩ v (pasteK x0 y0 nx i l f) x y = pasteK x0 y0 nx (i + m) l f x y := by
  have hdm := Nat.div_add_mod i nx
  rw [Nat.mul_comm] at hdm
  generalize i / nx = a at *
  generalize i % nx = b at *
  unfold fillG
  by_cases c : x0 + b ≤ x ∧ x < x0 + b + m ∧ y = y0 + a
  · obtain ⟨c1, c2, c3⟩ := c
    rw [if_pos ((inR_iff _ _ _).2 ⟨by simp only; omega, by simp only; omega, by simp only; omega, by simp only; omega⟩)]
    subst c3
    have e : (y0 + a - y0) * nx + (x - x0) = i + (x - x0 - b) := by
      rw [Nat.add_sub_cancel_left]; omega
    unfold pasteK
    rw [e, if_pos ⟨by omega, by omega, by omega, by omega⟩]
    exact (hv _ (by omega)).symm
  · rw [if_neg]
    · unfold pasteK
      by_cases c2 : x0 ≤ x ∧ x < x0 + nx ∧ y0 ≤ y ∧ (y - y0) * nx + (x - x0) < i
      · rw [if_pos c2, if_pos ⟨c2.1, c2.2.1, c2.2.2.1, by omega⟩]
      · rw [if_neg c2, if_neg]
        rintro ⟨d1, d2, d3, d4⟩
        have d5 : i ≤ (y - y0) * nx + (x - x0) := Nat.le_of_not_lt fun h => c2 ⟨d1, d2, d3, h⟩
        have hy : y - y0 = a := by
          rcases Nat.lt_trichotomy (y - y0) a with h | h | h
          · have := Nat.mul_le_mul_right nx (show y - y0 + 1 ≤ a by omega)
            rw [Nat.add_mul] at this
            omega
          · exact h
          · have := Nat.mul_le_mul_right nx (show a + 1 ≤ y - y0 by omega)
            rw [Nat.add_mul] at this
            omega
        rw [hy] at d4 d5
        exact c ⟨by omega, by omega, by omega⟩
    · intro h
      have := (inR_iff _ _ _).1 h
      simp only at this
      exact c ⟨by omega, by omega, by omega⟩

end Go.Proofs.YtgfiakgahmpfkaaGreatDoor
