/-
  The document's Scan.
-/
import Derived.Test.YteplckkoiffnnaaGreatDoorNumPlain
namespace Go.Proofs.YteplckkoiffnnaaGreatDoor
open Go.RowKit
open Sy
set_option linter.unusedVariables false
set_option linter.unusedSimpArgs false
set_option maxRecDepth 100000
set_option maxHeartbeats 4000000

theorem byte_q {l q : List UInt8} {frm i : Nat} (h : l.drop frm = q) (hi : i < q.length) : byteAt (bs l) (((frm + i : Nat) : Int)).toNat = (q[i].toNat : Int) := by
  rw [byteAt_bs, Int.toNat_natCast, ← List.getElem?_drop, h, List.getElem?_eq_getElem hi]
  rfl
theorem u8_is {a : UInt8} (k : UInt8) : ((a.toNat : Int) = (k.toNat : Int)) ↔ a = k := by
  constructor
  · intro e; exact UInt8.toNat_inj.1 (by omega)
  · rintro rfl; rfl
/-- the answer, once the digits are counted -/
theorem scan_of {l r q : List UInt8} {n i sg : Nat} (hn : n ≤ l.length) (hr : l.drop n = r) (hsg : sgn r = sg) (hqq : r.drop sg = q) (hNi : nd q = i) :
    scan l (n : Int) = if i = 0 ∨ (q[0]? = some 48 ∧ (1 < i ∨ 0 < sg)) then (0, 0, 12) else if dv 0 (q.take i) ≤ 9223372036854775807 + sg then ((if sg = 1 then -(dv 0 (q.take i) : Int) else (dv 0 (q.take i) : Int)), ((n + sg + i : Nat) : Int), 0) else (0, 0, 7) := by
  subst hsg hNi
  unfold scan
  rw [if_neg (by omega)]
  simp only [Int.toNat_natCast, hr, hqq]
  by_cases c : nd q = 0 ∨ (q[0]? = some 48 ∧ (1 < nd q ∨ 0 < sgn r))
  · rw [if_pos c, if_pos c]
  · rw [if_neg c, if_neg c]
    have h0 : 0 < nd (r.drop (sgn r)) := by rw [hqq]; omega
    have := pI r h0 ((n + sgn r + nd q : Nat) : Int)
    rw [hqq] at this
    rw [← this]
    congr 1
end Go.Proofs.YteplckkoiffnnaaGreatDoor
