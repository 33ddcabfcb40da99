/-
  Slabs: what they are in memory; slab.may, tile.Right, slab.New, check, spot, At.
-/
import Derived.Test.YtccpgalpahfpaaaRectMore
namespace Go.Proofs.Ytccpgalpahfpaaa
open Go.RowKit
set_option linter.unusedVariables false
set_option linter.unusedSimpArgs false

/-- a row of int32 -/
def rowA (n : Nat) (g : Nat → Int) : Array Value := ((List.range n).map fun k => Value.int .i32 (g k)).toArray
theorem rowA_get (n : Nat) (g : Nat → Int) (i : Nat) (h : i < n) : (rowA n g)[i]? = some (.int .i32 (g i)) := by simp [rowA, h]
theorem rowA_size (n : Nat) (g : Nat → Int) : (rowA n g).size = n := by simp [rowA]
theorem rowA_congr {n : Nat} {g h : Nat → Int} (e : ∀ k, k < n → g k = h k) : rowA n g = rowA n h := by
  unfold rowA
  congr 1
  exact List.map_congr_left fun k hk => by rw [e k (by simpa using hk)]
theorem rowA_set (n : Nat) (g : Nat → Int) (i : Nat) (v : Int) : (rowA n g).setIfInBounds i (.int .i32 v) = rowA n (fun k => if k = i then v else g k) := by
  apply Array.ext_getElem?
  intro k
  rw [Array.getElem?_setIfInBounds]
  by_cases hk : k < n
  · rw [rowA_get _ _ _ hk, rowA_get _ _ _ hk, rowA_size]
    by_cases c : i = k
    · subst c; simp [hk]
    · rw [if_neg c, if_neg (fun e => c e.symm)]
  · rw [Array.getElem?_eq_none (by rw [rowA_size]; omega), Array.getElem?_eq_none (by rw [rowA_size]; omega), rowA_size]
    split
    · rw [if_neg (by omega)]
    · rfl

/-- a value that a cell may have -/
def MayV (v : Int) : Prop := -2147483648 ≤ v ∧ v ≤ 2147483647
instance (v : Int) : Decidable (MayV v) := by unfold MayV; infer_instance

/-- what a slab's cells are: one value, or a row of the block q -/
def Land (w : World) (n : Nat) (f : Nat → Int) : Option Nat → Value → Prop
  | none, v => ∃ z, v = .iface 128 (.int .i32 z) ∧ ∀ k, k < n → f k = z
  | some q, v => v = .iface 135 (.slice (some ⟨q, 0, none⟩) n n) ∧ Blk w q 21 (rowA n f)
/-- block b is a slab of sw columns and sh rows, whose cells are f, row by row -/
structure SlabIs (w : World) (b sw sh : Nat) (f : Nat → Int) (q : Option Nat) : Prop where
  w1 : 1 ≤ sw
  w2 : sw ≤ 16
  h1 : 1 ≤ sh
  h2 : sh ≤ 16
  may : ∀ k, k < sw * sh → MayV (f k)
  body : ∃ v, Blk w b 133 #[.int .i64 sw, .int .i64 sh, v] ∧ Land w (sw * sh) f q v

theorem may_any (v : Int) (w : World) : Calls Try.prog 79 #[.int .i64 v] w fun e w' => e = .returned (.bool (decide (MayV v))) ∧ w = w' := by
  rcases (show v < -2147483648 ∨ (-2147483648 ≤ v ∧ v ≤ 2147483647) ∨ (-2147483648 ≤ v ∧ 2147483647 < v) from by omega) with h | ⟨h1, h2⟩ | ⟨h1, h2⟩
  · have e : decide (MayV v) = false := decide_eq_false (by unfold MayV; omega)
    have t : decide (-2147483648 ≤ v) = false := decide_eq_false (by omega)
    rw [e]
    clear e
    go_enter Try.func79, Try.ntmps79
    go_wp2_with fail
    go_ret
    exact ⟨rfl, rfl⟩
  · have e : decide (MayV v) = true := decide_eq_true (by unfold MayV; omega)
    rw [e]
    clear e
    go_enter Try.func79, Try.ntmps79
    go_wp2_with fail
    go_ret
    exact ⟨rfl, rfl⟩
  · have e : decide (MayV v) = false := decide_eq_false (by unfold MayV; omega)
    have t : decide (v ≤ 2147483647) = false := decide_eq_false (by omega)
    rw [e]
    clear e
    go_enter Try.func79, Try.ntmps79
    go_wp2_with fail
    go_ret
    exact ⟨rfl, rfl⟩

theorem tRight_yes (a b : Int) (w : World) (h1 : 1 ≤ a) (h2 : a ≤ 16) (h3 : 1 ≤ b) (h4 : b ≤ 16) : Calls Try.prog 92 #[.int .i64 a, .int .i64 b] w fun e w' => e = .returned (.bool true) ∧ w = w' := by
  go_enter Try.func92, Try.ntmps92
  go_wp2_with fail
  go_ret
  exact ⟨rfl, rfl⟩

/-- it gives a new slab -/
def GivesSlab (w : World) (sw sh : Nat) (f : Nat → Int) (e : Ending) (w' : World) : Prop :=
  ∃ b, e = .returned (.tuple #[.pointer (some ⟨b, 0, none⟩), .int .i64 0]) ∧ w.heap.size ≤ b ∧ SlabIs w' b sw sh f none ∧ Below w.heap.size w w'

theorem i32_wrap (v : Int) (h : MayV v) : IntKind.i32.wrap v = v := by unfold MayV at h; rw [IntKind.wrap_i32]; omega

set_option maxHeartbeats 1000000 in
theorem sNew_ok (sw sh : Nat) (v : Int) (w : World) (h1 : 1 ≤ sw) (h2 : sw ≤ 16) (h3 : 1 ≤ sh) (h4 : sh ≤ 16) (hv : MayV v) :
    Calls Try.prog 72 #[.int .i64 sw, .int .i64 sh, .int .i64 v] w (GivesSlab w sw sh (fun _ => v)) := by
  have g1 : (1 : Int) ≤ sw := by omega
  have g2 : (sw : Int) ≤ 16 := by omega
  have g3 : (1 : Int) ≤ sh := by omega
  have g4 : (sh : Int) ≤ 16 := by omega
  have hm := fun W => may_any v W
  rw [show decide (MayV v) = true by simpa using hv] at hm
  have HM := Lib.hid hm
  have W1 := i32_wrap v hv
  clear hm
  go_enter Try.func72, Try.ntmps72
  go_wp2_with fail
  refine (tRight_yes _ _ _ g1 g2 g3 g4).mono ?_
  rintro e w1 ⟨rfl, rfl⟩
  go_wp2_with fail
  refine (HM.out _).mono ?_
  rintro e w1 ⟨rfl, rfl⟩
  go_wp2_with fail
  go_ret2
  exact ⟨w.heap.size, rfl, Nat.le_refl _, ⟨h1, h2, h3, h4, fun _ _ => hv, _, Blk.new w _ _, v, rfl, fun _ _ => rfl⟩, new_bel w _⟩

theorem sspot_any (x y : Int) (w : World) : Calls Try.prog 91 #[cellV x y] w (Ret (rectV x y x y) w) := by
  go_enter Try.func91, Try.ntmps91
  go_wp2_with fail
  exact bodyPost_ret (v := rectV x y x y) (by simp [results, Try.results91, go_sem]) rfl ⟨rfl, ((Below.refl _ _).alloc (Nat.le_refl _) _).alloc (by simp) _⟩

set_option maxHeartbeats 1000000 in
theorem scheck_any (b sw sh : Nat) (v : Value) (x0 y0 x1 y1 : Int) (w : World) (hb : Blk w b 133 #[.int .i64 sw, .int .i64 sh, v]) (h2 : sw ≤ 16) (h4 : sh ≤ 16) :
    Calls Try.prog 78 #[.pointer (some ⟨b, 0, none⟩), rectV x0 y0 x1 y1] w (Ret (.int .i64 (withinZ x0 y0 x1 y1 sw sh)) w) := by
  have hlt := hb.lt
  have C := (box4_new w (.int .i64 x0) (.int .i64 y0) (.int .i64 x1) (.int .i64 y1) 45)
  have D : Box3 (w.alloc (.cells #[.int .i64 x0, .int .i64 y0, .int .i64 x1, .int .i64 y1] 45)) b (.int .i64 sw) (.int .i64 sh) v := by
    have := hb.alloc (.cells #[.int .i64 x0, .int .i64 y0, .int .i64 x1, .int .i64 y1] 45)
    exact ⟨this.cell 0, this.cell 1, this.cell 2⟩
  have hw := fun W => Within_any x0 y0 x1 y1 sw sh W (by omega) (by omega) (by omega) (by omega)
  have HW := Lib.hid hw
  clear hw hb
  go_enter Try.func78, Try.ntmps78
  go_wp2_with fail
  have HX := Below.refl (w.alloc (.cells #[.int .i64 x0, .int .i64 y0, .int .i64 x1, .int .i64 y1] 45)).heap.size (w.alloc (.cells #[.int .i64 x0, .int .i64 y0, .int .i64 x1, .int .i64 y1] 45))
  go_region_held3 (fun W => (W.cell? ⟨w.heap.size, 0, none⟩ = some (.int .i64 x0) ∧ W.cell? ⟨w.heap.size, 1, none⟩ = some (.int .i64 y0) ∧ W.cell? ⟨w.heap.size, 2, none⟩ = some (.int .i64 x1) ∧ W.cell? ⟨w.heap.size, 3, none⟩ = some (.int .i64 y1)) ∧ W.cell? ⟨b, 0, none⟩ = some (.int .i64 sw) ∧ W.cell? ⟨b, 1, none⟩ = some (.int .i64 sh) ∧ W.cell? ⟨b, 2, none⟩ = some v)
    (first | exact ⟨C, D⟩ | exact ⟨C.bel HX (by simp), D.bel HX (by simp; omega)⟩)
    ((go_at_call 71; refine (HW.out _).mono ?_; rintro e w2 ⟨rfl, hb2⟩; replace HX := bel_trans_drew HX hb2 (Nat.le_refl _)))
  go_wp2_with fail
  go_ret
  exact ⟨rfl, (new_bel w _).trans (HX.mono (by simp))⟩
end Go.Proofs.Ytccpgalpahfpaaa
