/-
  What the walks ask of the program's ways with open orders.
-/
import Derived.Test.YtonbjlkmcikbgaaGreatDoorProg
import Derived.KernelRfl
namespace Go.Proofs.YtonbjlkmcikbgaaGreatDoor

theorem hmix : Tryz.prog.follows .mixedOrders = true := by kernel_rfl
end Go.Proofs.YtonbjlkmcikbgaaGreatDoor
