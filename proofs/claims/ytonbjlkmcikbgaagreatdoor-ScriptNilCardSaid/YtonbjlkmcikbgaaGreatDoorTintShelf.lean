/-
  The library's contracts that legends need: laid by the kit's lay-shelf.mjs and lay-plain.mjs, made a template by wip/plain2tpl.py.
-/
import Derived.Shelf.Small.Utf8
import Derived.Shelf.Strings.Split
import Derived.Shelf.Utf8.AppendRunePlain
import Derived.Test.YtonbjlkmcikbgaaGreatDoorProg
namespace Go.Proofs.YtonbjlkmcikbgaaGreatDoor
open Go.Shelf
def lays118_ren : Go.Shelf.Ren := ⟨fun | 118 => 256 | n => n, fun | 21 => 21 | 3 => 3 | 4 => 4 | n => n, fun | n => n⟩
theorem lays118 : Go.Proofs.Lays.n118 Tryz.prog lays118_ren := {
  mixed := by kernel_rfl
  f118 := Tryz.func256.trans (congrArg some (by kernel_rfl))
  t3 := Tryz.underlying3
  a3 := Tryz.isAgg3
  z3 := Tryz.sizeOf3
  v3 := Tryz.zeroValue3
  t4 := Tryz.underlying4
  a4 := Tryz.isAgg4
  z4 := Tryz.sizeOf4
  v4 := Tryz.zeroValue4
  t21 := Tryz.underlying21
  a21 := Tryz.isAgg21
  z21 := Tryz.sizeOf21
  v21 := Tryz.zeroValue21 }
def lays146_ren : Go.Shelf.Ren := ⟨fun | 146 => 33 | 221 => 44 | 268 => 89 | 138 => 90 | 143 => 91 | 195 => 166 | 197 => 167 | 218 => 168 | 219 => 169 | 260 => 253 | 217 => 254 | 225 => 173 | 224 => 172 | 267 => 255 | 266 => 294 | 314 => 295 | n => n, fun | 9 => 9 | 31 => 24 | 3 => 3 | 4 => 4 | 0 => 0 | 105 => 308 | 21 => 21 | 5 => 5 | 46 => 108 | 119 => 454 | 139 => 457 | 138 => 456 | 146 => 434 | 51 => 300 | n => n, fun | 1 => 2 | 3 => 5 | 4 => 6 | n => n⟩
theorem lays146 : Go.Proofs.Lays.n146 Tryz.prog lays146_ren := {
  mixed := by kernel_rfl
  f138 := Tryz.func90.trans (congrArg some (by kernel_rfl))
  f143 := Tryz.func91.trans (congrArg some (by kernel_rfl))
  f146 := Tryz.func33.trans (congrArg some (by kernel_rfl))
  f195 := Tryz.func166.trans (congrArg some (by kernel_rfl))
  f197 := Tryz.func167.trans (congrArg some (by kernel_rfl))
  f217 := Tryz.func254.trans (congrArg some (by kernel_rfl))
  f218 := Tryz.func168.trans (congrArg some (by kernel_rfl))
  f219 := Tryz.func169.trans (congrArg some (by kernel_rfl))
  f221 := Tryz.func44.trans (congrArg some (by kernel_rfl))
  f224 := Tryz.func172.trans (congrArg some (by kernel_rfl))
  f225 := Tryz.func173.trans (congrArg some (by kernel_rfl))
  f260 := Tryz.func253.trans (congrArg some (by kernel_rfl))
  f266 := Tryz.func294.trans (congrArg some (by kernel_rfl))
  f267 := Tryz.func255.trans (congrArg some (by kernel_rfl))
  f268 := Tryz.func89.trans (congrArg some (by kernel_rfl))
  f314 := Tryz.func295.trans (congrArg some (by kernel_rfl))
  t0 := Tryz.underlying0
  a0 := Tryz.isAgg0
  z0 := Tryz.sizeOf0
  v0 := Tryz.zeroValue0
  t3 := Tryz.underlying3
  a3 := Tryz.isAgg3
  z3 := Tryz.sizeOf3
  v3 := Tryz.zeroValue3
  t4 := Tryz.underlying4
  a4 := Tryz.isAgg4
  z4 := Tryz.sizeOf4
  v4 := Tryz.zeroValue4
  t5 := Tryz.underlying5
  a5 := Tryz.isAgg5
  z5 := Tryz.sizeOf5
  v5 := Tryz.zeroValue5
  t9 := Tryz.underlying9
  a9 := Tryz.isAgg9
  z9 := Tryz.sizeOf9
  v9 := Tryz.zeroValue9
  t21 := Tryz.underlying21
  a21 := Tryz.isAgg21
  z21 := Tryz.sizeOf21
  v21 := Tryz.zeroValue21
  t31 := Tryz.underlying24
  a31 := Tryz.isAgg24
  z31 := Tryz.sizeOf24
  v31 := Tryz.zeroValue24
  t46 := Tryz.underlying108
  a46 := Tryz.isAgg108
  z46 := Tryz.sizeOf108
  v46 := Tryz.zeroValue108
  t51 := Tryz.underlying300
  a51 := Tryz.isAgg300
  z51 := Tryz.sizeOf300
  v51 := Tryz.zeroValue300
  t105 := Tryz.underlying308
  a105 := Tryz.isAgg308
  z105 := Tryz.sizeOf308
  v105 := Tryz.zeroValue308
  t119 := Tryz.underlying454
  a119 := Tryz.isAgg454
  z119 := Tryz.sizeOf454
  t138 := Tryz.underlying456
  a138 := Tryz.isAgg456
  z138 := Tryz.sizeOf456
  v138 := Tryz.zeroValue456
  t139 := Tryz.underlying457
  a139 := Tryz.isAgg457
  z139 := Tryz.sizeOf457
  v139 := Tryz.zeroValue457
  t146 := Tryz.underlying434
  a146 := Tryz.isAgg434
  z146 := Tryz.sizeOf434
  v146 := Tryz.zeroValue434
  g1 := by kernel_rfl
  g3 := by kernel_rfl
  g4 := by kernel_rfl }
def lays242_ren : Go.Shelf.Ren := ⟨fun | 242 => 245 | 278 => 287 | n => n, fun | 37 => 37 | 21 => 21 | 51 => 300 | 4 => 4 | 5 => 5 | 46 => 108 | n => n, fun | n => n⟩
theorem lays242 : Go.Proofs.Lays.n242 Tryz.prog lays242_ren := {
  mixed := by kernel_rfl
  f242 := Tryz.func245.trans (congrArg some (by kernel_rfl))
  f278 := Tryz.func287.trans (congrArg some (by kernel_rfl))
  t4 := Tryz.underlying4
  a4 := Tryz.isAgg4
  z4 := Tryz.sizeOf4
  v4 := Tryz.zeroValue4
  t5 := Tryz.underlying5
  a5 := Tryz.isAgg5
  z5 := Tryz.sizeOf5
  v5 := Tryz.zeroValue5
  t21 := Tryz.underlying21
  a21 := Tryz.isAgg21
  z21 := Tryz.sizeOf21
  v21 := Tryz.zeroValue21
  t37 := Tryz.underlying37
  a37 := Tryz.isAgg37
  z37 := Tryz.sizeOf37
  v37 := Tryz.zeroValue37
  t46 := Tryz.underlying108
  a46 := Tryz.isAgg108
  z46 := Tryz.sizeOf108
  v46 := Tryz.zeroValue108
  t51 := Tryz.underlying300
  a51 := Tryz.isAgg300
  z51 := Tryz.sizeOf300
  v51 := Tryz.zeroValue300 }
end Go.Proofs.YtonbjlkmcikbgaaGreatDoor
