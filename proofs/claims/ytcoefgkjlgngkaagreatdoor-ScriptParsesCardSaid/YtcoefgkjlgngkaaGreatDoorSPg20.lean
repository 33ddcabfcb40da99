/-
  Texts of the proofs, one behind the other: OpenOp.
-/
import Derived.Test.YtcoefgkjlgngkaaGreatDoorSPg13
import Derived.Test.YtcoefgkjlgngkaaGreatDoorSPg16
namespace Go.Proofs.YtcoefgkjlgngkaaGreatDoor
open Go.ChangeShapes Go.WideShapes Go.ChangeAt Go.RowKit Go.Joins Sy
set_option linter.unusedVariables false
set_option linter.unusedSimpArgs false
set_option maxRecDepth 100000
set_option maxHeartbeats 4000000
structure OpF where
 o:OpN
 vals:List Int
 byts:List UInt8
 bands:List Bd
structure OpA where
 A1:Option Addr
 c1:Nat
 A2:Option Addr
 c2:Nat
 A3:Option Addr
 c3:Nat
abbrev opCs (q:OpA) (x:OpF):Array Value:=opC x.o (.slice q.A1 x.vals.length q.c1) (.slice q.A2 x.byts.length q.c2) (.slice q.A3 x.bands.length q.c3)
def opV (q:OpA) (x:OpF):Value:=.agg (opCs q x)
def I32 (z:Int):Prop:=-2147483648≤z∧z≤2147483647
structure OpF.ok (x:OpF):Prop where
 o:x.o.ok
 kind:I64 x.o.kind
 vals:∀ c∈x.vals,I64 c
 bands:∀ b∈x.bands,I64 b.f∧I32 b.s
structure OpS (R:HP) (q:OpA) (x:OpF):Prop where
 vals:Sl R q.A1 x.vals.length 1 (x.vals.flatMap numL)
 byts:Sl R q.A2 x.byts.length 1 (byV x.byts)
 bands:Sl R q.A3 x.bands.length 2 (bcel x.bands)
 k1:x.vals.length≤q.c1∧q.c1≤maxLen
 k2:x.byts.length≤q.c2∧q.c2≤maxLen
 k3:x.bands.length≤q.c3∧q.c3≤maxLen
theorem OpS.mono {R R':HP} {q:OpA} {x:OpF} (h:OpS R q x) (hr:∀ w,Sat R' w→Sat R w):OpS R' q x:=⟨h.vals.mono hr,h.byts.mono hr,h.bands.mono hr,h.k1,h.k2,h.k3⟩
end Go.Proofs.YtcoefgkjlgngkaaGreatDoor
