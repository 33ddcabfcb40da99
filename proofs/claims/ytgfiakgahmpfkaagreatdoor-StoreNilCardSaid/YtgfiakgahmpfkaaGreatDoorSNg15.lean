/-
  Texts of the proofs, one behind the other: ShelfLen, Rect, RectAll, RectsR, FiD.
-/
import Derived.Shelf.Strconv.Itoa0
import Derived.Test.YtgfiakgahmpfkaaGreatDoorProg
import Derived.Test.YtgfiakgahmpfkaaGreatDoorRows
import Derived.Test.YtgfiakgahmpfkaaGreatDoorSNg01
import Derived.WalkKit
import Derived.Deep.Light
import Derived.Deep.QuietTactic
import Derived.BigQuiet
import Derived.Deep.RegionHeld3
import Derived.Laws.BitsAllLaws
import Derived.Test.YtgfiakgahmpfkaaGreatDoorSNg09
import Derived.Test.YtgfiakgahmpfkaaGreatDoorSNg05
import Derived.Test.YtgfiakgahmpfkaaGreatDoorSNg14
namespace Go.Proofs.YtgfiakgahmpfkaaGreatDoor
open Go.Shelf
open Go.RowKit
set_option linter.unusedVariables false
set_option linter.unusedSimpArgs false

/-- the size of a grid that can be -/
def SizeOk (a b : Int) : Prop := 1 ≤ a ∧ a ≤ 1024 ∧ 1 ≤ b ∧ b ≤ 1024

/-- a side, so many times halved and rounded up -/
def halfZ (n : Int) (k : Nat) : Int := (n - 1) / 2 ^ k + 1


instance (a b : Int) : Decidable (SizeOk a b) := by unfold SizeOk; infer_instance
/-- a rectangle as a value, a cell as a value -/
abbrev rectV (x0 y0 x1 y1 : Int) : Value := .agg #[.int .i64 x0, .int .i64 y0, .int .i64 x1, .int .i64 y1]
/-- all corners in a grid of a size -/
def InP (x0 y0 x1 y1 a b : Int) : Prop := 0 ≤ x0 ∧ x0 < a ∧ 0 ≤ x1 ∧ x1 < a ∧ 0 ≤ y0 ∧ y0 < b ∧ 0 ≤ y1 ∧ y1 < b
instance (x0 y0 x1 y1 a b : Int) : Decidable (InP x0 y0 x1 y1 a b) := by unfold InP; infer_instance
/-- the code of a rectangle -/
def withinZ (x0 y0 x1 y1 a b : Int) : Int := if ¬ SizeOk a b then 3 else if ¬ InP x0 y0 x1 y1 a b then 4 else if x1 < x0 ∨ y1 < y0 then 5 else 0

theorem within_of {x0 y0 x1 y1 a b : Int} (hs : SizeOk a b) (h1 : 0 ≤ x0) (h2 : x0 ≤ x1) (h3 : x1 < a) (h4 : 0 ≤ y0) (h5 : y0 ≤ y1) (h6 : y1 < b) : withinZ x0 y0 x1 y1 a b = 0 := by
  unfold withinZ
  rw [if_neg (fun f => f hs), if_neg (fun f => f ⟨h1, by omega, by omega, h3, h4, by omega, by omega, h6⟩), if_neg (by omega)]

open Sy
set_option maxRecDepth 100000
set_option maxHeartbeats 4000000

/-- corners -/
structure Q4 where
  x0 : Int
  y0 : Int
  x1 : Int
  y1 : Int
  deriving DecidableEq
abbrev Q4.v (r : Q4) : Value := rectV r.x0 r.y0 r.x1 r.y1
def Q4.ok (r : Q4) : Prop := 0 ≤ r.x0 ∧ r.x0 ≤ r.x1 ∧ r.x1 < 1024 ∧ 0 ≤ r.y0 ∧ r.y0 ≤ r.y1 ∧ r.y1 < 1024
instance (r : Q4) : Decidable r.ok := by unfold Q4.ok; infer_instance
def Q4.none : Q4 := ⟨0, 0, 0, 0⟩
theorem rRight (r : Q4) (R : HP) : PureR Tryz.prog R 108 [r.v] (.bool (decide r.ok)) := by
  refine fn_of_run0 false Tryz.func108 rfl hmix rfl fun w0 => ?_
  conv => whnf
  refine ⟨fun h1 => ?_, fun h1 => ?_⟩
  · have g1 : 0 ≤ r.x0 := of_decide_eq_true h1
    conv => whnf
    refine ⟨fun h2 => ?_, fun h2 => ?_⟩
    · have g2 : r.x0 ≤ r.x1 := of_decide_eq_true h2
      conv => whnf
      refine ⟨fun h3 => ?_, fun h3 => ?_⟩
      · have g3 : r.x1 < 1024 := of_decide_eq_true h3
        conv => whnf
        refine ⟨fun h4 => ?_, fun h4 => ?_⟩
        · have g4 : 0 ≤ r.y0 := of_decide_eq_true h4
          conv => whnf
          refine ⟨fun h5 => ?_, fun h5 => ?_⟩
          · have g5 : r.y0 ≤ r.y1 := of_decide_eq_true h5
            conv => whnf
            refine ⟨trivial, fin_drop ?_⟩
            show Value.bool (decide (r.y1 < 1024)) = _
            congr 2
            exact propext ⟨fun h => ⟨g1, g2, g3, g4, g5, h⟩, fun h => h.2.2.2.2.2⟩
          · have g5 : ¬ r.y0 ≤ r.y1 := of_decide_eq_false h5
            rw [decide_eq_false (fun c : r.ok => g5 c.2.2.2.2.1)]
            conv => whnf
            exact ⟨trivial, fin_drop rfl⟩
        · have g4 : ¬ 0 ≤ r.y0 := of_decide_eq_false h4
          rw [decide_eq_false (fun c : r.ok => g4 c.2.2.2.1)]
          conv => whnf
          exact ⟨trivial, fin_drop rfl⟩
      · have g3 : ¬ r.x1 < 1024 := of_decide_eq_false h3
        rw [decide_eq_false (fun c : r.ok => g3 c.2.2.1)]
        conv => whnf
        exact ⟨trivial, fin_drop rfl⟩
    · have g2 : ¬ r.x0 ≤ r.x1 := of_decide_eq_false h2
      rw [decide_eq_false (fun c : r.ok => g2 c.2.1)]
      conv => whnf
      exact ⟨trivial, fin_drop rfl⟩
  · have g1 : ¬ 0 ≤ r.x0 := of_decide_eq_false h1
    rw [decide_eq_false (fun c : r.ok => g1 c.1)]
    conv => whnf
    exact ⟨trivial, fin_drop rfl⟩

/-- what two rectangles have in common -/
def meetQ (a b : Q4) : Q4 × Bool :=
  if a.ok ∧ b.ok ∧ max a.x0 b.x0 ≤ min a.x1 b.x1 ∧ max a.y0 b.y0 ≤ min a.y1 b.y1 then (⟨max a.x0 b.x0, max a.y0 b.y0, min a.x1 b.x1, min a.y1 b.y1⟩, true) else (⟨0, 0, 0, 0⟩, false)
theorem meet_yes {a b : Q4} {x y u v : Int} (ha : a.ok) (hb : b.ok) (h0 : x = max a.x0 b.x0) (h1 : y = max a.y0 b.y0) (h2 : u = min a.x1 b.x1) (h3 : v = min a.y1 b.y1) (h4 : x ≤ u) (h5 : y ≤ v) :
    Value.tuple #[rectV x y u v, .bool true] = .tuple #[(meetQ a b).1.v, .bool (meetQ a b).2] := by
  subst h0 h1 h2 h3
  unfold meetQ
  rw [if_pos ⟨ha, hb, h4, h5⟩]
theorem meet_no {a b : Q4} (h : ¬ (a.ok ∧ b.ok ∧ max a.x0 b.x0 ≤ min a.x1 b.x1 ∧ max a.y0 b.y0 ≤ min a.y1 b.y1)) :
    Value.tuple #[rectV 0 0 0 0, .bool false] = .tuple #[(meetQ a b).1.v, .bool (meetQ a b).2] := by
  unfold meetQ
  rw [if_neg h]
theorem rMeetQ (a b : Q4) (R : HP) : PureR Tryz.prog R 103 [a.v, b.v] (.tuple #[(meetQ a b).1.v, .bool (meetQ a b).2]) := by
  refine fn_of_run0 false Tryz.func103 rfl hmix rfl fun w0 => ?_
  have pa := fun R' => rRight a R'
  have pb := fun R' => rRight b R'
  by_cases ha : a.ok
  · rw [decide_eq_true ha] at pa
    by_cases hb : b.ok
    · rw [decide_eq_true hb] at pb
      conv => whnf
      refine ⟨trivial, CallAt.pure (fun R' hR' => pa R') ?_⟩
      conv => whnf
      repeat (first | (refine And.intro ?_ ?_; rotate_left; (focus (intro g; exfalso; first | (simp at g; done) | (simp at g; omega) | (revert g; decide))); intro _; conv => whnf) | (refine And.intro ?_ ?_; (focus (intro g; exfalso; first | (simp at g; done) | (simp at g; omega) | (revert g; decide))); intro _; conv => whnf))
      refine ⟨trivial, CallAt.pure (fun R' hR' => pb R') ?_⟩
      conv => whnf
      repeat (first | (refine And.intro ?_ ?_; rotate_left; (focus (intro g; exfalso; first | (simp at g; done) | (simp at g; omega) | (revert g; decide))); intro _; conv => whnf) | (refine And.intro ?_ ?_; (focus (intro g; exfalso; first | (simp at g; done) | (simp at g; omega) | (revert g; decide))); intro _; conv => whnf))
      refine ⟨fun h1 => ?_, fun h1 => ?_⟩
      all_goals (conv => whnf)
      all_goals refine ⟨fun h2 => ?_, fun h2 => ?_⟩
      all_goals (conv => whnf)
      all_goals refine ⟨fun h3 => ?_, fun h3 => ?_⟩
      all_goals (conv => whnf)
      all_goals refine ⟨fun h4 => ?_, fun h4 => ?_⟩
      all_goals (conv => whnf)
      all_goals refine ⟨fun h5 => ?_, fun h5 => ?_⟩
      all_goals (conv => whnf)
      all_goals simp only [Bool.not_false, Bool.not_true, decide_eq_true_eq, decide_eq_false_iff_not] at h1 h2 h3 h4 h5
      all_goals first
        | exact ⟨trivial, fin_drop (meet_no (fun c => by have c1 := c.2.2.1; have c2 := c.2.2.2; omega))⟩
        | refine ⟨fun h6 => ?_, fun h6 => ?_⟩
      all_goals (conv => whnf)
      all_goals simp only [Bool.not_false, Bool.not_true, decide_eq_true_eq, decide_eq_false_iff_not] at h6
      all_goals first
        | exact ⟨trivial, fin_drop (meet_no (fun c => by have c1 := c.2.2.1; have c2 := c.2.2.2; omega))⟩
        | exact ⟨trivial, fin_drop (meet_yes ha hb (by omega) (by omega) (by omega) (by omega) (by omega) (by omega))⟩
    · rw [decide_eq_false hb] at pb
      conv => whnf
      refine ⟨trivial, CallAt.pure (fun R' hR' => pa R') ?_⟩
      conv => whnf
      repeat (first | (refine And.intro ?_ ?_; rotate_left; (focus (intro g; exfalso; first | (simp at g; done) | (simp at g; omega) | (revert g; decide))); intro _; conv => whnf) | (refine And.intro ?_ ?_; (focus (intro g; exfalso; first | (simp at g; done) | (simp at g; omega) | (revert g; decide))); intro _; conv => whnf))
      refine ⟨trivial, CallAt.pure (fun R' hR' => pb R') ?_⟩
      conv => whnf
      repeat (first | (refine And.intro ?_ ?_; rotate_left; (focus (intro g; exfalso; first | (simp at g; done) | (simp at g; omega) | (revert g; decide))); intro _; conv => whnf) | (refine And.intro ?_ ?_; (focus (intro g; exfalso; first | (simp at g; done) | (simp at g; omega) | (revert g; decide))); intro _; conv => whnf))
      exact ⟨trivial, fin_drop (meet_no (fun c => hb c.2.1))⟩
  · rw [decide_eq_false ha] at pa
    conv => whnf
    refine ⟨trivial, CallAt.pure (fun R' hR' => pa R') ?_⟩
    conv => whnf
    repeat (first | (refine And.intro ?_ ?_; rotate_left; (focus (intro g; exfalso; first | (simp at g; done) | (simp at g; omega) | (revert g; decide))); intro _; conv => whnf) | (refine And.intro ?_ ?_; (focus (intro g; exfalso; first | (simp at g; done) | (simp at g; omega) | (revert g; decide))); intro _; conv => whnf))
    exact ⟨trivial, fin_drop (meet_no (fun c => ha c.1))⟩
theorem sGet13 {R : HP} {A : Option Addr} {n c : Nat} {b : List UInt8} (ha : Sl R A n 1 (byts b)) (hl : b.length = n) (hn : n ≤ 140737488351232) (a k : Nat) (hk1 : 1 ≤ k) (hk : k ≤ 4) (hak : a + k ≤ n) :
    PureR Tryz.prog R 51 [.slice A n c, .int .i64 (a : Int), .int .i64 (k : Int)] (.int .i64 (wireN b a k : Nat)) := by
  have hw := fun R' (h : ∀ w, Sat R' w → Sat R w) => sWireGet (R := R') (c := c) (ha.mono h) hl hn a k hk1 (by omega) hak
  have hlt := wireN_lt b a k
  have hp : 256 ^ k ≤ 256 ^ 4 := Nat.pow_le_pow_right (by omega) hk
  generalize wireN b a k = u at *
  refine fn_of_run0 false Tryz.func51 rfl hmix rfl fun w0 => ?_
  conv => whnf
  refine ⟨trivial, CallAt.pure (fun R' hR' => hw R' fun w s => Sat.rest (hR' w s)) ?_⟩
  conv => whnf
  refine ⟨(by (repeat' apply And.intro) <;> first | exact True.intro | (unfold rng; omega) | omega), fin_drop ?_⟩
  have e : IntKind.i64.wrap (u : Int) = (u : Int) := IntWalk.i64_in _ (by simp at hp; omega)
  exact congrArg (Value.int .i64) e
/-- all tiles of a size -/
def Q4.of (t : Nat × Nat × Nat × Nat) : Q4 := ⟨t.1, t.2.1, t.2.2.1, t.2.2.2⟩
def encT (l : List (Nat × Nat × Nat × Nat)) : List Value := l.flatMap fun t => [.int .i64 (t.1 : Int), .int .i64 (t.2.1 : Int), .int .i64 (t.2.2.1 : Int), .int .i64 (t.2.2.2 : Int)]
theorem meet_tile {W H i j : Nat} (hW : W ≤ 1024) (hH : H ≤ 1024) (hi : i < 64) (hj : j < 64) (h1 : 1 ≤ W) (h2 : 1 ≤ H) :
    meetQ ⟨0, 0, ((W - 1 : Nat) : Int), ((H - 1 : Nat) : Int)⟩ ⟨((16 * i : Nat) : Int), ((16 * j : Nat) : Int), ((16 * i + 15 : Nat) : Int), ((16 * j + 15 : Nat) : Int)⟩ =
      if 16 * i < W ∧ 16 * j < H then (⟨((16 * i : Nat) : Int), ((16 * j : Nat) : Int), ((min (16 * i + 15) (W - 1) : Nat) : Int), ((min (16 * j + 15) (H - 1) : Nat) : Int)⟩, true) else (⟨0, 0, 0, 0⟩, false) := by
  unfold meetQ Q4.ok
  simp only
  by_cases h : 16 * i < W ∧ 16 * j < H
  · rw [if_pos h, if_pos (by omega)]
    congr 2 <;> omega
  · rw [if_neg h, if_neg (by omega)]
end Go.Proofs.YtgfiakgahmpfkaaGreatDoor
