/-
  What the walks ask of the program's ways with open orders.
-/
import Derived.Test.YteplckkoiffnnaaGreatDoorProg
import Derived.KernelRfl
namespace Go.Proofs.YteplckkoiffnnaaGreatDoor

theorem hmix : Tryz.prog.follows .mixedOrders = true := by kernel_rfl
end Go.Proofs.YteplckkoiffnnaaGreatDoor
