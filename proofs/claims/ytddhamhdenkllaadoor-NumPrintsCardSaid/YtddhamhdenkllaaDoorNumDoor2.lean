/-
  NumPrints, NumReads: in a world of the row's.
-/
import Derived.Test.YtddhamhdenkllaaDoorNumDoor
import Derived.Test.YtddhamhdenkllaaDoorNumReads
namespace Go.Proofs.YtddhamhdenkllaaDoor
open Go.ChangeShapes Go.WideShapes Go.ChangeAt Go.RowKit Go.Joins Sy
set_option linter.unusedVariables false
set_option linter.unusedSimpArgs false
set_option maxRecDepth 100000
set_option maxHeartbeats 4000000

theorem NumReads_walk (l : List UInt8) (W : World) (h : NumW W) (hl : l.length ≤ maxLen) :
    Calls Tryd.prog 5 #[.string (bs l)] W fun e W' => e = .returned (.bool true) ∧ Below W.heap.size W W' :=
  (sNumReads (R := was W) (fun w hw => numW_was h hw) l (by simp only [maxLen] at hl; omega)).below
theorem NumPrints_walk (n : Int) (l : List UInt8) (W : World) (h : NumW W) (h0 : -9223372036854775808 ≤ n) (h1 : n ≤ 9223372036854775807) (hl : l.length ≤ maxLen) :
    Calls Tryd.prog 4 #[.int .i64 n, .string (bs l)] W fun e W' => e = .returned (.bool true) ∧ Below W.heap.size W W' :=
  (sNumPrints (R := was W) (fun w hw => numW_was h hw) n h0 h1 l (by simp only [maxLen] at hl; omega)).below
end Go.Proofs.YtddhamhdenkllaaDoor
