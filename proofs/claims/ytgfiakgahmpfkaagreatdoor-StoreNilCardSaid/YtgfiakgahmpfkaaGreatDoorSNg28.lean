/-
  Texts of the proofs, one behind the other: StoreNilFacts.
-/
import Derived.Test.YtgfiakgahmpfkaaGreatDoorRows
import Derived.JoinedOf
import Derived.KernelRfl
import Derived.SevenTiedAt
namespace Go.Proofs.YtgfiakgahmpfkaaGreatDoor.storeNilFacts
open Go.Proofs.YtgfiakgahmpfkaaGreatDoor
set_option maxRecDepth 100000

theorem unf : Tryz.pinned.checked.prog.unfollowed 3 = true := by kernel_rfl
theorem c1 : (Rows.storeNilRow.inPlace == Tryz.pinned.checked.prog.inPlace 3) = true := by kernel_rfl
theorem c2 : (Rows.storeNilRow.unfollowed == Tryz.pinned.checked.prog.unfollowed 3) = true := by rw [unf]; kernel_rfl
theorem rec : Tryz.pinned.checked.prog.recurses 3 = true := by
  unfold Program.recurses
  rw [unf, Bool.true_or]
theorem c3 : (Rows.storeNilRow.recurses == Tryz.pinned.checked.prog.recurses 3) = true := by rw [rec]; kernel_rfl
theorem c4 : (Rows.storeNilRow.named == Tryz.pinned.checked.prog.varsNamed 3) = true := by kernel_rfl
theorem closed : joinedFacts Tryz.pinned.checked.prog 3 Tryz.f3 Rows.storeNilSpec Rows.storeNilRow = true := by
  unfold joinedFacts
  rw [c1, c2, c3, c4]
  kernel_rfl
theorem g1 : ((Tryz.pinned.checked.prog.closure 3).any fun g => (Tryz.pinned.checked.prog.funcs[g]?).any Func.goes) = false := by kernel_rfl
theorem g2 : Tryz.pinned.checked.prog.funcs.any Func.goes = false := by kernel_rfl
theorem gf : Tryz.pinned.checked.prog.goes 3 = false := by
  unfold Program.goes
  rw [g1, g2, Bool.and_false, Bool.or_false]
theorem named : Tryz.pinned.checked.prog.funcNamed Rows.storeNilRow.func = some 3 := by kernel_rfl
theorem goes : false = Rows.storeNilRow.goesBy Tryz.pinned.checked.prog := by
  unfold OpenClaim.goesBy Program.goesAt Program.goesFrom
  rw [named, Option.any_some, gf]
  rfl
theorem looks : true = Tryz.pinned.checked.prog.looks [] := by kernel_rfl
end Go.Proofs.YtgfiakgahmpfkaaGreatDoor.storeNilFacts
