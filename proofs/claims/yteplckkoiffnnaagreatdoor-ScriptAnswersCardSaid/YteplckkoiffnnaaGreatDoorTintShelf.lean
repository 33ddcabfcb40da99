/-
  The library's contracts that legends need: laid by the kit's lay-shelf.mjs and lay-plain.mjs, made a template by wip/plain2tpl.py.
-/
import Derived.Shelf.Small.Utf8
import Derived.Shelf.Strings.Split
import Derived.Shelf.Utf8.AppendRunePlain
import Derived.Test.YteplckkoiffnnaaGreatDoorProg
namespace Go.Proofs.YteplckkoiffnnaaGreatDoor
open Go.Shelf
def lays118_ren : Go.Shelf.Ren := ⟨fun | 118 => 277 | n => n, fun | 21 => 21 | 3 => 3 | 4 => 4 | n => n, fun | n => n⟩
theorem lays118 : Go.Proofs.Lays.n118 Tryz.prog lays118_ren := {
  mixed := by kernel_rfl
  f118 := Tryz.func277.trans (congrArg some (by kernel_rfl))
  t3 := Tryz.underlying3
  a3 := Tryz.isAgg3
  z3 := Tryz.sizeOf3
  v3 := Tryz.zeroValue3
  t4 := Tryz.underlying4
  a4 := Tryz.isAgg4
  z4 := Tryz.sizeOf4
  v4 := Tryz.zeroValue4
  t21 := Tryz.underlying21
  a21 := Tryz.isAgg21
  z21 := Tryz.sizeOf21
  v21 := Tryz.zeroValue21 }
def lays146_ren : Go.Shelf.Ren := ⟨fun | 146 => 34 | 221 => 43 | 268 => 55 | 138 => 56 | 143 => 57 | 195 => 71 | 197 => 72 | 218 => 73 | 219 => 74 | 260 => 117 | 217 => 118 | 225 => 119 | 224 => 120 | 267 => 121 | 266 => 194 | 314 => 195 | n => n, fun | 9 => 9 | 31 => 29 | 3 => 3 | 4 => 4 | 0 => 0 | 105 => 147 | 21 => 21 | 5 => 5 | 46 => 84 | 119 => 325 | 139 => 328 | 138 => 327 | 146 => 329 | 51 => 139 | n => n, fun | 1 => 2 | 3 => 5 | 4 => 6 | n => n⟩
theorem lays146 : Go.Proofs.Lays.n146 Tryz.prog lays146_ren := {
  mixed := by kernel_rfl
  f138 := Tryz.func56.trans (congrArg some (by kernel_rfl))
  f143 := Tryz.func57.trans (congrArg some (by kernel_rfl))
  f146 := Tryz.func34.trans (congrArg some (by kernel_rfl))
  f195 := Tryz.func71.trans (congrArg some (by kernel_rfl))
  f197 := Tryz.func72.trans (congrArg some (by kernel_rfl))
  f217 := Tryz.func118.trans (congrArg some (by kernel_rfl))
  f218 := Tryz.func73.trans (congrArg some (by kernel_rfl))
  f219 := Tryz.func74.trans (congrArg some (by kernel_rfl))
  f221 := Tryz.func43.trans (congrArg some (by kernel_rfl))
  f224 := Tryz.func120.trans (congrArg some (by kernel_rfl))
  f225 := Tryz.func119.trans (congrArg some (by kernel_rfl))
  f260 := Tryz.func117.trans (congrArg some (by kernel_rfl))
  f266 := Tryz.func194.trans (congrArg some (by kernel_rfl))
  f267 := Tryz.func121.trans (congrArg some (by kernel_rfl))
  f268 := Tryz.func55.trans (congrArg some (by kernel_rfl))
  f314 := Tryz.func195.trans (congrArg some (by kernel_rfl))
  t0 := Tryz.underlying0
  a0 := Tryz.isAgg0
  z0 := Tryz.sizeOf0
  v0 := Tryz.zeroValue0
  t3 := Tryz.underlying3
  a3 := Tryz.isAgg3
  z3 := Tryz.sizeOf3
  v3 := Tryz.zeroValue3
  t4 := Tryz.underlying4
  a4 := Tryz.isAgg4
  z4 := Tryz.sizeOf4
  v4 := Tryz.zeroValue4
  t5 := Tryz.underlying5
  a5 := Tryz.isAgg5
  z5 := Tryz.sizeOf5
  v5 := Tryz.zeroValue5
  t9 := Tryz.underlying9
  a9 := Tryz.isAgg9
  z9 := Tryz.sizeOf9
  v9 := Tryz.zeroValue9
  t21 := Tryz.underlying21
  a21 := Tryz.isAgg21
  z21 := Tryz.sizeOf21
  v21 := Tryz.zeroValue21
  t31 := Tryz.underlying29
  a31 := Tryz.isAgg29
  z31 := Tryz.sizeOf29
  v31 := Tryz.zeroValue29
  t46 := Tryz.underlying84
  a46 := Tryz.isAgg84
  z46 := Tryz.sizeOf84
  v46 := Tryz.zeroValue84
  t51 := Tryz.underlying139
  a51 := Tryz.isAgg139
  z51 := Tryz.sizeOf139
  v51 := Tryz.zeroValue139
  t105 := Tryz.underlying147
  a105 := Tryz.isAgg147
  z105 := Tryz.sizeOf147
  v105 := Tryz.zeroValue147
  t119 := Tryz.underlying325
  a119 := Tryz.isAgg325
  z119 := Tryz.sizeOf325
  t138 := Tryz.underlying327
  a138 := Tryz.isAgg327
  z138 := Tryz.sizeOf327
  v138 := Tryz.zeroValue327
  t139 := Tryz.underlying328
  a139 := Tryz.isAgg328
  z139 := Tryz.sizeOf328
  v139 := Tryz.zeroValue328
  t146 := Tryz.underlying329
  a146 := Tryz.isAgg329
  z146 := Tryz.sizeOf329
  v146 := Tryz.zeroValue329
  g1 := by kernel_rfl
  g3 := by kernel_rfl
  g4 := by kernel_rfl }
def lays242_ren : Go.Shelf.Ren := ⟨fun | 242 => 269 | 278 => 308 | n => n, fun | 37 => 28 | 21 => 21 | 51 => 139 | 4 => 4 | 5 => 5 | 46 => 84 | n => n, fun | n => n⟩
theorem lays242 : Go.Proofs.Lays.n242 Tryz.prog lays242_ren := {
  mixed := by kernel_rfl
  f242 := Tryz.func269.trans (congrArg some (by kernel_rfl))
  f278 := Tryz.func308.trans (congrArg some (by kernel_rfl))
  t4 := Tryz.underlying4
  a4 := Tryz.isAgg4
  z4 := Tryz.sizeOf4
  v4 := Tryz.zeroValue4
  t5 := Tryz.underlying5
  a5 := Tryz.isAgg5
  z5 := Tryz.sizeOf5
  v5 := Tryz.zeroValue5
  t21 := Tryz.underlying21
  a21 := Tryz.isAgg21
  z21 := Tryz.sizeOf21
  v21 := Tryz.zeroValue21
  t37 := Tryz.underlying28
  a37 := Tryz.isAgg28
  z37 := Tryz.sizeOf28
  v37 := Tryz.zeroValue28
  t46 := Tryz.underlying84
  a46 := Tryz.isAgg84
  z46 := Tryz.sizeOf84
  v46 := Tryz.zeroValue84
  t51 := Tryz.underlying139
  a51 := Tryz.isAgg139
  z51 := Tryz.sizeOf139
  v51 := Tryz.zeroValue139 }
end Go.Proofs.YteplckkoiffnnaaGreatDoor
