/-
  Texts of the proofs, one behind the other: NumD, NumShelf, NumLib, Num, NumPlain, NumRef, NumRefP, NumScans, NumLaws, NumReads.
-/
import Derived.Test.YtgfiakgahmpfkaaGreatDoorSNg05
import Derived.Test.YtgfiakgahmpfkaaGreatDoorProg
import Derived.KernelRfl
import Derived.Shelf.LaysM
import Derived.Shelf.Strconv.Itoa4
import Derived.Shelf.LaysC
import Derived.Shelf.Strconv.ParseIntPublic10
import Derived.Shelf.Strconv.ErrVarParseInt
import Derived.Shelf.Strings.Prefix
import Derived.Lib.AppendIntMem
import Derived.Lib.ItoaLen
namespace Go.Proofs.YtgfiakgahmpfkaaGreatDoor
open Go.RowKit
open Sy
set_option linter.unusedVariables false
set_option linter.unusedSimpArgs false
set_option maxRecDepth 100000
set_option maxHeartbeats 4000000

def isD (b : UInt8) : Bool := decide (48 ≤ b.toNat) && decide (b.toNat ≤ 57)
def nd : List UInt8 → Nat
  | [] => 0
  | b :: l => if isD b then nd l + 1 else 0
open Go.Shelf


/-- one byte if it begins with a '-' -/
def sgn (r : List UInt8) : Nat := if r.head? = some 45 then 1 else 0
def numOf (p : Lib.NumEnd Int) (e : Int) : Int × Int × Int := match p with
  | .ok v => (v, e, 0)
  | _ => (0, 0, 7)
def scan (l : List UInt8) (at' : Int) : Int × Int × Int :=
  if at' < 0 ∨ (l.length : Int) < at' then (0, 0, 11) else
  let r := l.drop at'.toNat
  let n := nd (r.drop (sgn r))
  if n = 0 ∨ ((r.drop (sgn r))[0]? = some 48 ∧ (1 < n ∨ 0 < sgn r)) then (0, 0, 12) else
  numOf (Lib.parseIntB 64 (r.take (sgn r + n))) (at' + sgn r + n)
def read (l : List UInt8) : Int × Int :=
  let x := scan l 0
  if x.2.2 ≠ 0 then (0, x.2.2) else if x.2.1 < l.length then (0, 12) else (x.1, 0)

def dv (a : Nat) (l : List UInt8) : Nat := l.foldl (fun a c => a * 10 + (c.toNat - 48)) a





end Go.Proofs.YtgfiakgahmpfkaaGreatDoor
