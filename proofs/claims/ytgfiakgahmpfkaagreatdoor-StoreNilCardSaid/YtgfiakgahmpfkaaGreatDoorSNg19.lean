/-
  Texts of the proofs, one behind the other: Pieces, Grid, GridNew, GridPlain.
-/
import Derived.Test.YtgfiakgahmpfkaaGreatDoorSNg16
import Derived.Test.YtgfiakgahmpfkaaGreatDoorSNg18
namespace Go.Proofs.YtgfiakgahmpfkaaGreatDoor
open Go.RowKit
set_option linter.unusedVariables false
set_option linter.unusedSimpArgs false

/-- a rectangle -/
structure Rc where
  x0 : Int
  y0 : Int
  x1 : Int
  y1 : Int
def encR (r : Rc) : List Value := [.int .i64 r.x0, .int .i64 r.y0, .int .i64 r.x1, .int .i64 r.y1]
theorem encR_len (r : Rc) : (encR r).length = 4 := rfl

/-- how many tiles one behind the other cover n cells -/
def tiles (n : Nat) : Nat := (n + 15) / 16
/-- how many of n cells are in the tile i -/
def tw (n i : Nat) : Nat := min 16 (n - 16 * i)
/-- the cells of the tile in column i and row j -/
def tileF (f : Nat → Nat → Int) (W i j k : Nat) : Int := f (16 * i + k % tw W i) (16 * j + k / tw W i)

/-- block gb is a grid of W columns and H rows, its slabs' list is in the block sb, the slabs are in the blocks p k, their rows, where they have some, in the blocks q k -/
structure GridOpen (w : World) (gb W H : Nat) (f : Nat → Nat → Int) (sb c : Nat) (p : Nat → Nat) (q : Nat → Option Nat) : Prop where
  w1 : 1 ≤ W
  w2 : W ≤ 1024
  h1 : 1 ≤ H
  h2 : H ≤ 1024
  head : Blk w gb 84 #[.int .i64 W, .int .i64 H, .int .i64 (tiles W), .slice (some ⟨sb, 0, none⟩) (tiles W * tiles H) c]
  list : ∃ cur, Blk w sb 80 cur ∧ ∀ k, k < tiles W * tiles H → cur[k]? = some (.pointer (some ⟨p k, 0, none⟩))
  slabs : ∀ i j, i < tiles W → j < tiles H → SlabIs w (p (j * tiles W + i)) (tw W i) (tw H j) (tileF f W i j) (q (j * tiles W + i))
  inj : ∀ k l, k < tiles W * tiles H → l < tiles W * tiles H → p k = p l → k = l
  inq : ∀ k l g, k < tiles W * tiles H → l < tiles W * tiles H → q k = some g → q l = some g → k = l
theorem idx_lt {a b i j : Nat} (hi : i < a) (hj : j < b) : j * a + i < a * b := cell_lt hi hj

/-- all of a grid -/
def allR (W H : Nat) : Rc := ⟨0, 0, (W : Int) - 1, (H : Int) - 1⟩
def ptrV (b : Nat) : Value := .pointer (some ⟨b, 0, none⟩)
/-- on the way to a new grid: k slabs are there -/
structure NewAt (w wr : World) (B gb W H : Nat) (v : Int) (k : Nat) (A : Option Addr) (c : Nat) (ps : List Nat) : Prop where
  len : ps.length = k
  own : wr.ownsRow B 80 1 (.slice A k c) k (ps.map ptrV)
  head : Blk wr gb 84 #[.int .i64 W, .int .i64 H, .int .i64 (tiles W), .slice A k c]
  slabs : ∀ i (h : i < ps.length), SlabIs wr ps[i] (tw W (i % tiles W)) (tw H (i / tiles W)) (fun _ => v) none
  nodup : ps.Nodup
  low : ∀ b ∈ ps, B ≤ b ∧ b < wr.heap.size
  below : Below B w wr


/-- is a cell in a rectangle? -/
def inR (r : Rc) (x y : Nat) : Bool := decide (r.x0 ≤ x ∧ (x : Int) ≤ r.x1 ∧ r.y0 ≤ y ∧ (y : Int) ≤ r.y1)
theorem inR_iff (r : Rc) (x y : Nat) : inR r x y = true ↔ (r.x0 ≤ x ∧ (x : Int) ≤ r.x1 ∧ r.y0 ≤ y ∧ (y : Int) ≤ r.y1) := by unfold inR; rw [decide_eq_true_eq]
/-- a grid's cells behind a fill -/
def fillG (r : Rc) (v : Int) (f : Nat → Nat → Int) (x y : Nat) : Int := if inR r x y = true then v else f x y
end Go.Proofs.YtgfiakgahmpfkaaGreatDoor
