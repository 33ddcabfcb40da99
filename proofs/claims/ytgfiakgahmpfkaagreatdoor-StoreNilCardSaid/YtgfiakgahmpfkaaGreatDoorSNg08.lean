/-
  Texts of the proofs, one behind the other: TintP, TintQ.
-/
import Derived.Test.YtgfiakgahmpfkaaGreatDoorSNg07
import Derived.Lib.SplitLaws
namespace Go.Proofs.YtgfiakgahmpfkaaGreatDoor
open Go.RowKit
open Sy
set_option linter.unusedVariables false
set_option linter.unusedSimpArgs false
set_option maxRecDepth 100000
set_option maxHeartbeats 4000000

/-- a sign, by its number -/
def SignN (c : Nat) : Prop := c ≠ 44 ∧ c ≠ 58 ∧ c ≠ 173 ∧ ((33 ≤ c ∧ c ≤ 126) ∨ (161 ≤ c ∧ c ≤ 55295) ∨ (57344 ≤ c ∧ c ≤ 65532))
instance (c : Nat) : Decidable (SignN c) := by unfold SignN; exact inferInstance
def u8 (n : Nat) : UInt8 := UInt8.ofNat n
/-- what stands at the head of a text -/
def dec (x : List UInt8) : Nat × Nat :=
  let b (k : Nat) : Nat := ((x[k]?).getD 0).toNat
  let cont (k : Nat) : Bool := k < x.length && b k / 64 == 2
  if b 0 < 0x80 then (b 0, 1)
  else if b 0 / 32 == 6 && cont 1 then
    let c := (b 0 % 32) * 64 + b 1 % 64
    if c ≥ 0x80 then (c, 2) else (Utf8.runeError, 1)
  else if b 0 / 16 == 14 && cont 1 && cont 2 then
    let c := (b 0 % 16) * 4096 + (b 1 % 64) * 64 + b 2 % 64
    if c ≥ 0x800 && Utf8.valid c then (c, 3) else (Utf8.runeError, 1)
  else if b 0 / 8 == 30 && cont 1 && cont 2 && cont 3 then
    let c := (b 0 % 8) * 262144 + (b 1 % 64) * 4096 + (b 2 % 64) * 64 + b 3 % 64
    if c ≥ 0x10000 && Utf8.valid c then (c, 4) else (Utf8.runeError, 1)
  else (Utf8.runeError, 1)
/-! numbers at the head of a text -/
/-! texts between commas -/

structure Bd where
  f : Int
  s : Int
def SignI (r : Int) : Prop := 0 ≤ r ∧ SignN r.toNat
instance (r : Int) : Decidable (SignI r) := by unfold SignI; exact inferInstance
def MayI (v : Int) : Prop := -2147483648 ≤ v ∧ v ≤ 2147483647
instance (v : Int) : Decidable (MayI v) := by unfold MayI; exact inferInstance
def bF (l : List Bd) (i : Nat) : Int := (l.getD i ⟨0, 0⟩).f
def bS (l : List Bd) (i : Nat) : Int := (l.getD i ⟨0, 0⟩).s
def BandOk (l : List Bd) (i : Nat) : Prop := MayI (bF l i) ∧ SignI (bS l i) ∧ ∀ k, k < i → bF l k < bF l i ∧ bS l k ≠ bS l i
instance (l : List Bd) (i : Nat) : Decidable (BandOk l i) := by unfold BandOk; exact inferInstance
/-- is it a legend? -/
def RightL (l : List Bd) : Prop := 1 ≤ l.length ∧ l.length ≤ 12 ∧ ∀ i, i < l.length → BandOk l i
instance (l : List Bd) : Decidable (RightL l) := by unfold RightL; exact inferInstance

/-- a band's text, if it is one's -/
def bandV (s : List UInt8) : Option Bd :=
  if (scan s 0).2.2 = 0 ∧ (scan s 0).2.1.toNat < s.length ∧ s[(scan s 0).2.1.toNat]? = some 58 ∧ SignN (dec (s.drop ((scan s 0).2.1.toNat + 1))).1 ∧ (dec (s.drop ((scan s 0).2.1.toNat + 1))).2 = (s.drop ((scan s 0).2.1.toNat + 1)).length then
    some ⟨(scan s 0).1, ((dec (s.drop ((scan s 0).2.1.toNat + 1))).1 : Int)⟩ else none
def partsV : List (List UInt8) → Option (List Bd)
  | [] => some []
  | p :: ps => match bandV p with
    | none => none
    | some b => (partsV ps).map (b :: ·)
/-- what the program reads -/
def readV (s : List UInt8) : Option (List Bd) := if 192 < s.length then none else match partsV (Lib.splitK [44] 0 (s.count 44) s) with
  | none => none
  | some l => if RightL l then some l else none
/-! the document's way -/
/-- the sign at the head of a text, and how many bytes: none: 0 -/
def runeV (x : List UInt8) : Int × Nat := if SignN (dec x).1 ∧ x ≠ [] then (((dec x).1 : Int), (dec x).2) else (0, 0)
def bandH (x : List UInt8) : Option (Bd × Nat) :=
  if (scan x 0).2.2 = 0 ∧ (scan x 0).2.1.toNat < x.length ∧ x[(scan x 0).2.1.toNat]? = some 58 ∧ (runeV (x.drop ((scan x 0).2.1.toNat + 1))).2 ≠ 0 then
    some (⟨(scan x 0).1, (runeV (x.drop ((scan x 0).2.1.toNat + 1))).1⟩, (scan x 0).2.1.toNat + 1 + (runeV (x.drop ((scan x 0).2.1.toNat + 1))).2) else none
def rd : Nat → List UInt8 → Option (List Bd)
  | 0, _ => none
  | m + 1, x => match bandH x with
    | none => none
    | some (b, k) => if k = x.length then some [b] else if x[k]? = some 44 then (rd m (x.drop (k + 1))).map (b :: ·) else none
end Go.Proofs.YtgfiakgahmpfkaaGreatDoor
