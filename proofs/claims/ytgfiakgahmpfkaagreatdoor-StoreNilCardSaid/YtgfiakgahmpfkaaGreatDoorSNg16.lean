/-
  Texts of the proofs, one behind the other: RectMore, Slab, ShelfMul, Repeat, Rough, FlatAgain, SlabAt.
-/
import Derived.Test.YtgfiakgahmpfkaaGreatDoorSNg15
import Derived.Test.YtgfiakgahmpfkaaGreatDoorSNg05
import Derived.Shelf.Bits.Mul64
import Derived.Test.YtgfiakgahmpfkaaGreatDoorProg
import Derived.Laws.CopyOwn
namespace Go.Proofs.YtgfiakgahmpfkaaGreatDoor
open Go.RowKit
set_option linter.unusedVariables false
set_option linter.unusedSimpArgs false


/-- a row of int32 -/
def rowA (n : Nat) (g : Nat → Int) : Array Value := ((List.range n).map fun k => Value.int .i32 (g k)).toArray
/-- a value that a cell may have -/
def MayV (v : Int) : Prop := -2147483648 ≤ v ∧ v ≤ 2147483647
instance (v : Int) : Decidable (MayV v) := by unfold MayV; infer_instance

/-- what a slab's cells are: one value, or a row of the block q -/
def Land (w : World) (n : Nat) (f : Nat → Int) : Option Nat → Value → Prop
  | none, v => ∃ z, v = .iface 111 (.int .i32 z) ∧ ∀ k, k < n → f k = z
  | some q, v => v = .iface 119 (.slice (some ⟨q, 0, none⟩) n n) ∧ Blk w q 21 (rowA n f)
/-- block b is a slab of sw columns and sh rows, whose cells are f, row by row -/
structure SlabIs (w : World) (b sw sh : Nat) (f : Nat → Int) (q : Option Nat) : Prop where
  w1 : 1 ≤ sw
  w2 : sw ≤ 16
  h1 : 1 ≤ sh
  h2 : sh ≤ 16
  may : ∀ k, k < sw * sh → MayV (f k)
  body : ∃ v, Blk w b 116 #[.int .i64 sw, .int .i64 sh, v] ∧ Land w (sw * sh) f q v

open Go.Shelf

/-- the first m are v -/
def rep (n m : Nat) (v : Int) : List Value := (List.range n).map fun k => Value.int .i32 (if k < m then v else 0)



theorem cell_lt {sw sh x y : Nat} (hx : x < sw) (hy : y < sh) : y * sw + x < sw * sh := by
  have : (y + 1) * sw ≤ sh * sw := Nat.mul_le_mul_right _ hy
  rw [Nat.succ_mul] at this
  rw [Nat.mul_comm sw sh]
  omega
end Go.Proofs.YtgfiakgahmpfkaaGreatDoor
