/-
  Texts of the proofs, one behind the other: ScA.
-/
import Derived.Test.YtihkhomnhggifaaGreatDoorSPg05
/-
  Closed runs in the scripts' program: the law's awake says true.
-/
namespace Go.Proofs.YtihkhomnhggifaaGreatDoor
open Go.RowKit
namespace Cx
set_option linter.unusedVariables false
set_option linter.unusedSimpArgs false
set_option maxRecDepth 100000
set_option maxHeartbeats 4000000

noncomputable def orcS : Callee := orAt 130 (orVal valDig) (orAt 131 (orVal valInt) (orAt 44 orSplit (orAt 16 orJoin orNone)))
theorem orcS_ok : CallOK Tryz.prog orcS := orAt_ok dig_ok (orAt_ok int_ok (orAt_ok split_ok (orAt_ok join_ok orNone_ok)))
def verbsV : List Value := [.string ⟨⟨[]⟩⟩, .string ⟨⟨[99, 114, 101, 97, 116, 101]⟩⟩, .string ⟨⟨[115, 101, 116]⟩⟩, .string ⟨⟨[102, 105, 108, 108]⟩⟩, .string ⟨⟨[112, 97, 115, 116, 101]⟩⟩, .string ⟨⟨[97, 100, 100]⟩⟩, .string ⟨⟨[103, 101, 116]⟩⟩, .string ⟨⟨[115, 117, 109]⟩⟩, .string ⟨⟨[109, 105, 110]⟩⟩, .string ⟨⟨[109, 97, 120]⟩⟩, .string ⟨⟨[111, 118, 101, 114]⟩⟩, .string ⟨⟨[114, 97, 110, 107]⟩⟩, .string ⟨⟨[115, 105, 103, 104, 116]⟩⟩, .string ⟨⟨[118, 105, 101, 119]⟩⟩, .string ⟨⟨[114, 101, 103, 105, 111, 110, 115]⟩⟩, .string ⟨⟨[115, 105, 110, 107]⟩⟩, .string ⟨⟨[114, 111, 117, 116, 101]⟩⟩, .string ⟨⟨[108, 101, 118, 101, 108]⟩⟩, .string ⟨⟨[102, 114, 101, 101, 122, 101]⟩⟩, .string ⟨⟨[116, 104, 97, 119]⟩⟩, .string ⟨⟨[111, 108, 100, 115, 117, 109]⟩⟩, .string ⟨⟨[111, 108, 100, 109, 105, 110]⟩⟩, .string ⟨⟨[111, 108, 100, 109, 97, 120]⟩⟩, .string ⟨⟨[115, 97, 118, 101]⟩⟩, .string ⟨⟨[108, 111, 97, 100]⟩⟩, .string ⟨⟨[117, 110, 100, 111]⟩⟩, .string ⟨⟨[114, 101, 100, 111]⟩⟩, .string ⟨⟨[100, 114, 97, 119]⟩⟩]
def tabS : List (Nat × Ob) := [(0, ⟨49, 0, verbsV⟩)]
def maxS (m : Int) : Nat × Ob := (1, ⟨3, 0, [.int .i64 m]⟩)
theorem awake_runs (m : Int) : saysM Tryz.prog 100000 orcS (maxS m) tabS 80 4 [] (.bool true) = (true, some (maxS m).2) := by kernel_rfl
theorem tabS_small (m : Int) : smallT (maxS m :: tabS) = true := by kernel_rfl
end Cx
end Go.Proofs.YtihkhomnhggifaaGreatDoor

