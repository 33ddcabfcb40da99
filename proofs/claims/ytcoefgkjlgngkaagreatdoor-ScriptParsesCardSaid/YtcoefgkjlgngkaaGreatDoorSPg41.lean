/-
  Texts of the proofs, one behind the other: ScriptParsesFacts.
-/
import Derived.Test.YtcoefgkjlgngkaaGreatDoorRows
import Derived.JoinedOf
import Derived.KernelRfl
import Derived.SevenTiedAt
namespace Go.Proofs.YtcoefgkjlgngkaaGreatDoor.scriptParsesFacts
open Go.Proofs.YtcoefgkjlgngkaaGreatDoor
set_option maxRecDepth 100000
theorem unf:Tryz.pinned.checked.prog.unfollowed 3=true:=by kernel_rfl
theorem c1:(Rows.scriptParsesRow.inPlace == Tryz.pinned.checked.prog.inPlace 3)=true:=by kernel_rfl
theorem c2:(Rows.scriptParsesRow.unfollowed == Tryz.pinned.checked.prog.unfollowed 3)=true:=by rw [unf];kernel_rfl
theorem rec:Tryz.pinned.checked.prog.recurses 3=true:=by
 unfold Program.recurses
 rw [unf,Bool.true_or]
theorem c3:(Rows.scriptParsesRow.recurses == Tryz.pinned.checked.prog.recurses 3)=true:=by rw [rec];kernel_rfl
theorem c4:(Rows.scriptParsesRow.named == Tryz.pinned.checked.prog.varsNamed 3)=true:=by kernel_rfl
theorem closed:joinedFacts Tryz.pinned.checked.prog 3 Tryz.f3 Rows.scriptParsesSpec Rows.scriptParsesRow=true:=by
 unfold joinedFacts
 rw [c1,c2,c3,c4]
 kernel_rfl
theorem g1:((Tryz.pinned.checked.prog.closure 3).any λg=>(Tryz.pinned.checked.prog.funcs[g]?).any Func.goes)=false:=by kernel_rfl
theorem g2:Tryz.pinned.checked.prog.funcs.any Func.goes=false:=by kernel_rfl
theorem gf:Tryz.pinned.checked.prog.goes 3=false:=by
 unfold Program.goes
 rw [g1,g2,Bool.and_false,Bool.or_false]
theorem named:Tryz.pinned.checked.prog.funcNamed Rows.scriptParsesRow.func=some 3:=by kernel_rfl
theorem goes:false=Rows.scriptParsesRow.goesBy Tryz.pinned.checked.prog:=by
 unfold OpenClaim.goesBy Program.goesAt Program.goesFrom
 rw [named,Option.any_some,gf]
 rfl
theorem looks:true=Tryz.pinned.checked.prog.looks []:=by kernel_rfl
end Go.Proofs.YtcoefgkjlgngkaaGreatDoor.scriptParsesFacts
