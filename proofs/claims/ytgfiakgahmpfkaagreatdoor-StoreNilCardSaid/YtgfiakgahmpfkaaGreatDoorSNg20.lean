/-
  Texts of the proofs, one behind the other: GridFill, GridRead.
-/
import Derived.Test.YtgfiakgahmpfkaaGreatDoorSNg19
import Derived.Deep.DeepCutAuto
namespace Go.Proofs.YtgfiakgahmpfkaaGreatDoor
open Go.RowKit
set_option linter.unusedVariables false
set_option linter.unusedSimpArgs false

section
variable {B b : Nat} {a W w2 : World} {v0 v1 v2 v3 : Value}
end


/-- the values of a part of a row, of rows -/
def vRow (f : Nat → Nat → Int) (x0 y i : Nat) : List Int := (List.range i).map fun a => f (x0 + a) y
def vRows (f : Nat → Nat → Int) (x0 nx y0 j : Nat) : List Int := (List.range j).flatMap fun b => vRow f x0 (y0 + b) nx
theorem vRows_succ (f : Nat → Nat → Int) (x0 nx y0 j : Nat) : vRows f x0 nx y0 (j + 1) = vRows f x0 nx y0 j ++ vRow f x0 (y0 + j) nx := by simp [vRows, List.range_succ]
theorem vRow_len (f : Nat → Nat → Int) (x0 y i : Nat) : (vRow f x0 y i).length = i := by simp [vRow]
theorem vRows_len (f : Nat → Nat → Int) (x0 nx y0 j : Nat) : (vRows f x0 nx y0 j).length = j * nx := by
  induction j with
  | zero => simp [vRows]
  | succ j ih => rw [vRows_succ, List.length_append, ih, vRow_len, Nat.succ_mul]
def ints (l : List Int) : List Value := l.map (Value.int .i64)
theorem ints_append (l m : List Int) : ints (l ++ m) = ints l ++ ints m := by simp [ints]
end Go.Proofs.YtgfiakgahmpfkaaGreatDoor
