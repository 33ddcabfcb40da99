/-
  Texts of the proofs, one behind the other: NumD, NumShelf, NumLib, Num, NumPlain, NumRef, NumRefP, NumScans, NumLaws, NumReads.
-/
import Derived.Test.YtkichbggmgppmaaDoorPartB
import Derived.Test.YtkichbggmgppmaaDoorProg
import Derived.KernelRfl
import Derived.Test.YtkichbggmgppmaaDoorPartA
import Derived.Shelf.LaysM
import Derived.Shelf.Strconv.Itoa4
import Derived.Shelf.LaysC
import Derived.Shelf.Strconv.ParseIntPublic10
import Derived.Shelf.Strconv.ErrVarParseInt
import Derived.Shelf.Strings.Prefix
import Derived.Lib.AppendIntMem
import Derived.Lib.ItoaLen
/-
  How many digits a string begins with.
-/
namespace Go.Proofs.YtkichbggmgppmaaDoor
open Go.RowKit
open Sy
set_option linter.unusedVariables false
set_option linter.unusedSimpArgs false
set_option maxRecDepth 100000
set_option maxHeartbeats 4000000

def isD (b : UInt8) : Bool := decide (48 ≤ b.toNat) && decide (b.toNat ≤ 57)
def nd : List UInt8 → Nat
  | [] => 0
  | b :: l => if isD b then nd l + 1 else 0
theorem nd_le : ∀ l : List UInt8, nd l ≤ l.length
  | [] => Nat.le_refl _
  | b :: l => by
    unfold nd
    have := nd_le l
    split <;> simp <;> omega
theorem drop_at {l : List UInt8} {a : Nat} (h : a < l.length) : l.drop a = l[a] :: l.drop (a + 1) := List.drop_eq_getElem_cons h
theorem nd_step {l : List UInt8} {a : Nat} (h : a < l.length) (hD : isD l[a] = true) : nd (l.drop a) = nd (l.drop (a + 1)) + 1 := by
  rw [drop_at h]
  show (if isD l[a] = true then _ else _) = _
  rw [if_pos hD]
theorem nd_stop {l : List UInt8} {a : Nat} (h : a < l.length) (hD : isD l[a] = false) : nd (l.drop a) = 0 := by
  rw [drop_at h]
  show (if isD l[a] = true then _ else _) = _
  rw [hD]
  rfl
theorem bs_get {l : List UInt8} {a : Nat} (h : a < (bs l).size) : (bs l)[a]'h = l[a]'(by simpa using h) := by
  show (bs l).data[a] = _
  simp [bs]
theorem sDigits {R : HP} (l : List UInt8) (hl : l.length ≤ 4611686018427387904) : PureR Tryd.prog R 101 [.string (bs l)] (.int .i64 (nd l : Int)) := by
  refine fn_of_run0 false Tryd.func101 rfl hmix rfl fun w0 => ?_
  conv => whnf
  refine ⟨trivial, OpAt.range (bs l) rfl rfl rfl rfl fun b => ?_⟩
  conv => whnf
  refine ⟨trivial, LoopAt.heap (α := Nat) [0, 6] (fun a => []) (fun a => [itH b (bs l) a]) (fun a => a ≤ l.length ∧ nd l = a + nd (l.drop a)) (fun a => l.length - a) 0 ⟨Nat.zero_le _, by simp⟩ rfl trivial ⟨⟨rfl, rfl⟩, ⟨rfl, rfl⟩, trivial⟩ trivial (fun h s => sub_same s) ?_⟩
  rintro a ⟨ha, hn⟩
  conv => whnf
  by_cases c : a < l.length
  · have c' : a < (bs l).size := by simpa using c
    have hd := drop_at c
    by_cases c2 : l[a].toNat < 128
    · refine ⟨trivial, OpAt.next b (bs l) a [] rfl (fun h s => s) rfl rfl c' ?_⟩
      rw [decode_ascii (bs l) a c' (by rw [bs_get]; exact c2), bs_get]
      conv => whnf
      refine iff_t rfl ?_
      conv => whnf
      refine ⟨fun h => ?_, fun h => ?_⟩
      · have h : ¬ (l[a].toNat : Int) < 48 := of_decide_eq_false h
        conv => whnf
        refine ⟨fun h2 => ?_, fun h2 => ?_⟩
        · have h2 : (57 : Int) < l[a].toNat := of_decide_eq_true h2
          conv => whnf
          refine ⟨trivial, fin_drop ?_⟩
          have : nd l = a := by rw [hn, hd]; simp [nd, isD]; omega
          rw [this]; rfl
        · have h2 : ¬ (57 : Int) < l[a].toNat := of_decide_eq_false h2
          conv => whnf
          refine ⟨trivial, Next.heap (a + 1) ⟨c, ?_⟩ (by omega) trivial ⟨⟨rfl, rfl⟩, ⟨rfl, rfl⟩, trivial⟩ trivial rfl rfl fun h s => sub_same s⟩
          have := nd_step c (by simp [isD]; omega)
          show nd l = _
          omega
      · have h : (l[a].toNat : Int) < 48 := of_decide_eq_true h
        conv => whnf
        refine ⟨trivial, fin_drop ?_⟩
        have : nd l = a := by rw [hn, hd]; simp [nd, isD]; omega
        rw [this]; rfl
    · refine ⟨trivial, OpAt.next b (bs l) a [] rfl (fun h s => s) rfl rfl c' ?_⟩
      have h3 := (decode_high (bs l) a c' (by rw [bs_get]; omega)).1
      have : nd l = a := by rw [hn, hd]; simp [nd, isD]; omega
      rw [this]
      generalize Utf8.decode (bs l) a = z at h3 ⊢
      conv => whnf
      refine iff_t rfl ?_
      conv => whnf
      refine ⟨fun h => ?_, fun h => ?_⟩
      · conv => whnf
        refine ⟨fun h2 => ?_, fun h2 => ?_⟩
        · conv => whnf
          exact ⟨trivial, fin_drop rfl⟩
        · have h2 := of_decide_eq_false h2
          exfalso; omega
      · have h := of_decide_eq_true h
        exfalso; omega
  · refine ⟨trivial, OpAt.nextEnd b (bs l) a [] rfl (fun h s => s) rfl rfl (by simpa using c) ?_⟩
    have : nd l = (bs l).size := by
      have e : l.drop a = [] := List.drop_eq_nil_of_le (by omega)
      rw [hn, e, bs_size]; simp [nd]; omega
    rw [this]
    conv => whnf
    refine iff_f rfl ?_
    conv => whnf
    exact ⟨trivial, fin_drop rfl⟩
end Go.Proofs.YtkichbggmgppmaaDoor

/-
  The library's contracts that the numbers need: laid by the kit's lay-shelf.mjs and lay-plain.mjs, made a template by wip/plain2tpl.py.
-/
namespace Go.Proofs.YtkichbggmgppmaaDoor
open Go.Shelf
def laysM173_ren : Go.Shelf.Ren := ⟨fun | 173 => 70 | 246 => 94 | 283 => 108 | 284 => 109 | 285 => 110 | 286 => 111 | 129 => 122 | 317 => 121 | 318 => 123 | 319 => 124 | 320 => 125 | 337 => 138 | 338 => 139 | n => n, fun | 2 => 2 | 3 => 3 | 9 => 9 | 4 => 4 | 171 => 175 | 0 => 0 | 53 => 142 | 37 => 74 | 5 => 5 | 173 => 178 | 212 => 188 | 51 => 159 | 20 => 20 | 213 => 189 | 46 => 180 | 232 => 216 | 233 => 217 | n => n, fun | 17 => 0 | 18 => 6 | 19 => 7 | n => n⟩
theorem laysM173 : Go.Proofs.LaysM.n173 Tryd.prog laysM173_ren := {
  mixed := by kernel_rfl
  f129 := Tryd.func122.trans (congrArg some (by kernel_rfl))
  f173 := Tryd.func70.trans (congrArg some (by kernel_rfl))
  f246 := Tryd.func94.trans (congrArg some (by kernel_rfl))
  f283 := Tryd.func108.trans (congrArg some (by kernel_rfl))
  f284 := Tryd.func109.trans (congrArg some (by kernel_rfl))
  f285 := Tryd.func110.trans (congrArg some (by kernel_rfl))
  f286 := Tryd.func111.trans (congrArg some (by kernel_rfl))
  f317 := Tryd.func121.trans (congrArg some (by kernel_rfl))
  f318 := Tryd.func123.trans (congrArg some (by kernel_rfl))
  f319 := Tryd.func124.trans (congrArg some (by kernel_rfl))
  f320 := Tryd.func125.trans (congrArg some (by kernel_rfl))
  f337 := Tryd.func138.trans (congrArg some (by kernel_rfl))
  f338 := Tryd.func139.trans (congrArg some (by kernel_rfl))
  t0 := Tryd.underlying0
  a0 := Tryd.isAgg0
  z0 := Tryd.sizeOf0
  v0 := Tryd.zeroValue0
  t2 := Tryd.underlying2
  a2 := Tryd.isAgg2
  z2 := Tryd.sizeOf2
  v2 := Tryd.zeroValue2
  t3 := Tryd.underlying3
  a3 := Tryd.isAgg3
  z3 := Tryd.sizeOf3
  v3 := Tryd.zeroValue3
  t4 := Tryd.underlying4
  a4 := Tryd.isAgg4
  z4 := Tryd.sizeOf4
  v4 := Tryd.zeroValue4
  t5 := Tryd.underlying5
  a5 := Tryd.isAgg5
  z5 := Tryd.sizeOf5
  v5 := Tryd.zeroValue5
  t9 := Tryd.underlying9
  a9 := Tryd.isAgg9
  z9 := Tryd.sizeOf9
  v9 := Tryd.zeroValue9
  t20 := Tryd.underlying20
  a20 := Tryd.isAgg20
  z20 := Tryd.sizeOf20
  v20 := Tryd.zeroValue20
  t37 := Tryd.underlying74
  a37 := Tryd.isAgg74
  z37 := Tryd.sizeOf74
  v37 := Tryd.zeroValue74
  t46 := Tryd.underlying180
  a46 := Tryd.isAgg180
  z46 := Tryd.sizeOf180
  v46 := Tryd.zeroValue180
  t51 := Tryd.underlying159
  a51 := Tryd.isAgg159
  z51 := Tryd.sizeOf159
  v51 := Tryd.zeroValue159
  t53 := Tryd.underlying142
  a53 := Tryd.isAgg142
  z53 := Tryd.sizeOf142
  v53 := Tryd.zeroValue142
  t171 := Tryd.underlying175
  a171 := Tryd.isAgg175
  z171 := Tryd.sizeOf175
  v171 := Tryd.zeroValue175
  t173 := Tryd.underlying178
  a173 := Tryd.isAgg178
  z173 := Tryd.sizeOf178
  v173 := Tryd.zeroValue178
  t212 := Tryd.underlying188
  a212 := Tryd.isAgg188
  z212 := Tryd.sizeOf188
  v212 := Tryd.zeroValue188
  t213 := Tryd.underlying189
  a213 := Tryd.isAgg189
  z213 := Tryd.sizeOf189
  t232 := Tryd.underlying216
  a232 := Tryd.isAgg216
  z232 := Tryd.sizeOf216
  v232 := Tryd.zeroValue216
  t233 := Tryd.underlying217
  a233 := Tryd.isAgg217
  z233 := Tryd.sizeOf217
  v233 := Tryd.zeroValue217
  g17 := by kernel_rfl
  g18 := by kernel_rfl
  g19 := by kernel_rfl
  i0 := by kernel_rfl
  i2 := by kernel_rfl
  i3 := by kernel_rfl
  i4 := by kernel_rfl
  i5 := by kernel_rfl
  i9 := by kernel_rfl
  i20 := by kernel_rfl
  i37 := by kernel_rfl
  i46 := by kernel_rfl
  i51 := by kernel_rfl
  i53 := by kernel_rfl
  i171 := by kernel_rfl
  i173 := by kernel_rfl
  i212 := by kernel_rfl
  i232 := by kernel_rfl
  i233 := by kernel_rfl
  m17 := by kernel_rfl
  m18 := by kernel_rfl
  m19 := by kernel_rfl }
open Go.RowKit Go.Sort Go.Lib in
theorem strconv_FormatInt_10 (n : Int) (h0 : -9223372036854775808 ≤ n) (h1 : n ≤ 9223372036854775807) (w : World) (htab : Lib.TabIs Tryd.prog w "internal/strconv.uint64pow10" .u64 Lib.pow10Tab) :
    Calls Tryd.prog 70 #[.int .i64 n, .int .i64 10] w fun e w' => e = .returned (.string ⟨(Lib.itoa n).toArray⟩) ∧ ∃ k os, w' = grow (w.drewN k) os := Any.strconv_FormatInt_10 laysM173 n h0 h1 w htab
def laysC174_ren : Go.Shelf.Ren := ⟨fun | 174 => 102 | 247 => 117 | 245 => 118 | 287 => 132 | 279 => 133 | 280 => 134 | 281 => 135 | 282 => 136 | 321 => 142 | 322 => 143 | 316 => 144 | 171 => 146 | 205 => 145 | 243 => 149 | 246 => 94 | 283 => 108 | 284 => 109 | 285 => 110 | 286 => 111 | 129 => 122 | 317 => 121 | 318 => 123 | 319 => 124 | 320 => 125 | 337 => 138 | 338 => 139 | n => n, fun | 9 => 9 | 3 => 3 | 2 => 2 | 75 => 78 | 85 => 164 | 4 => 4 | 167 => 193 | 5 => 5 | 53 => 142 | 175 => 194 | 46 => 180 | 168 => 196 | 37 => 74 | 0 => 0 | 210 => 211 | 21 => 21 | 127 => 131 | 145 => 220 | 143 => 218 | 171 => 175 | 173 => 178 | 212 => 188 | 51 => 159 | 20 => 20 | 213 => 189 | 232 => 216 | 233 => 217 | 80 => 83 | n => n, fun | 15 => 4 | 16 => 5 | 17 => 0 | 18 => 6 | 19 => 7 | n => n⟩
theorem laysC174 : Go.Proofs.LaysC.n174 Tryd.prog laysC174_ren := {
  mixed := by kernel_rfl
  f129 := Tryd.func122.trans (congrArg some (by kernel_rfl))
  f171 := Tryd.func146.trans (congrArg some (by kernel_rfl))
  f174 := Tryd.func102.trans (congrArg some (by kernel_rfl))
  f205 := Tryd.func145.trans (congrArg some (by kernel_rfl))
  f243 := Tryd.func149.trans (congrArg some (by kernel_rfl))
  f245 := Tryd.func118.trans (congrArg some (by kernel_rfl))
  f246 := Tryd.func94.trans (congrArg some (by kernel_rfl))
  f247 := Tryd.func117.trans (congrArg some (by kernel_rfl))
  f279 := Tryd.func133.trans (congrArg some (by kernel_rfl))
  f280 := Tryd.func134.trans (congrArg some (by kernel_rfl))
  f281 := Tryd.func135.trans (congrArg some (by kernel_rfl))
  f282 := Tryd.func136.trans (congrArg some (by kernel_rfl))
  f283 := Tryd.func108.trans (congrArg some (by kernel_rfl))
  f284 := Tryd.func109.trans (congrArg some (by kernel_rfl))
  f285 := Tryd.func110.trans (congrArg some (by kernel_rfl))
  f286 := Tryd.func111.trans (congrArg some (by kernel_rfl))
  f287 := Tryd.func132.trans (congrArg some (by kernel_rfl))
  f316 := Tryd.func144.trans (congrArg some (by kernel_rfl))
  f317 := Tryd.func121.trans (congrArg some (by kernel_rfl))
  f318 := Tryd.func123.trans (congrArg some (by kernel_rfl))
  f319 := Tryd.func124.trans (congrArg some (by kernel_rfl))
  f320 := Tryd.func125.trans (congrArg some (by kernel_rfl))
  f321 := Tryd.func142.trans (congrArg some (by kernel_rfl))
  f322 := Tryd.func143.trans (congrArg some (by kernel_rfl))
  f337 := Tryd.func138.trans (congrArg some (by kernel_rfl))
  f338 := Tryd.func139.trans (congrArg some (by kernel_rfl))
  t0 := Tryd.underlying0
  a0 := Tryd.isAgg0
  z0 := Tryd.sizeOf0
  v0 := Tryd.zeroValue0
  t2 := Tryd.underlying2
  a2 := Tryd.isAgg2
  z2 := Tryd.sizeOf2
  v2 := Tryd.zeroValue2
  t3 := Tryd.underlying3
  a3 := Tryd.isAgg3
  z3 := Tryd.sizeOf3
  v3 := Tryd.zeroValue3
  t4 := Tryd.underlying4
  a4 := Tryd.isAgg4
  z4 := Tryd.sizeOf4
  v4 := Tryd.zeroValue4
  t5 := Tryd.underlying5
  a5 := Tryd.isAgg5
  z5 := Tryd.sizeOf5
  v5 := Tryd.zeroValue5
  t9 := Tryd.underlying9
  a9 := Tryd.isAgg9
  z9 := Tryd.sizeOf9
  v9 := Tryd.zeroValue9
  t20 := Tryd.underlying20
  a20 := Tryd.isAgg20
  z20 := Tryd.sizeOf20
  v20 := Tryd.zeroValue20
  t21 := Tryd.underlying21
  a21 := Tryd.isAgg21
  z21 := Tryd.sizeOf21
  v21 := Tryd.zeroValue21
  t37 := Tryd.underlying74
  a37 := Tryd.isAgg74
  z37 := Tryd.sizeOf74
  v37 := Tryd.zeroValue74
  t46 := Tryd.underlying180
  a46 := Tryd.isAgg180
  z46 := Tryd.sizeOf180
  v46 := Tryd.zeroValue180
  t51 := Tryd.underlying159
  a51 := Tryd.isAgg159
  z51 := Tryd.sizeOf159
  v51 := Tryd.zeroValue159
  t53 := Tryd.underlying142
  a53 := Tryd.isAgg142
  z53 := Tryd.sizeOf142
  v53 := Tryd.zeroValue142
  t75 := Tryd.underlying78
  a75 := Tryd.isAgg78
  z75 := Tryd.sizeOf78
  v75 := Tryd.zeroValue78
  t85 := Tryd.underlying164
  a85 := Tryd.isAgg164
  z85 := Tryd.sizeOf164
  v85 := Tryd.zeroValue164
  t127 := Tryd.underlying131
  a127 := Tryd.isAgg131
  z127 := Tryd.sizeOf131
  v127 := Tryd.zeroValue131
  t143 := Tryd.underlying218
  a143 := Tryd.isAgg218
  z143 := Tryd.sizeOf218
  v143 := Tryd.zeroValue218
  t145 := Tryd.underlying220
  a145 := Tryd.isAgg220
  z145 := Tryd.sizeOf220
  v145 := Tryd.zeroValue220
  t167 := Tryd.underlying193
  a167 := Tryd.isAgg193
  z167 := Tryd.sizeOf193
  v167 := Tryd.zeroValue193
  t168 := Tryd.underlying196
  a168 := Tryd.isAgg196
  z168 := Tryd.sizeOf196
  v168 := Tryd.zeroValue196
  t171 := Tryd.underlying175
  a171 := Tryd.isAgg175
  z171 := Tryd.sizeOf175
  v171 := Tryd.zeroValue175
  t173 := Tryd.underlying178
  a173 := Tryd.isAgg178
  z173 := Tryd.sizeOf178
  v173 := Tryd.zeroValue178
  t175 := Tryd.underlying194
  a175 := Tryd.isAgg194
  z175 := Tryd.sizeOf194
  v175 := Tryd.zeroValue194
  t210 := Tryd.underlying211
  a210 := Tryd.isAgg211
  z210 := Tryd.sizeOf211
  v210 := Tryd.zeroValue211
  t212 := Tryd.underlying188
  a212 := Tryd.isAgg188
  z212 := Tryd.sizeOf188
  v212 := Tryd.zeroValue188
  t213 := Tryd.underlying189
  a213 := Tryd.isAgg189
  z213 := Tryd.sizeOf189
  t232 := Tryd.underlying216
  a232 := Tryd.isAgg216
  z232 := Tryd.sizeOf216
  v232 := Tryd.zeroValue216
  t233 := Tryd.underlying217
  a233 := Tryd.isAgg217
  z233 := Tryd.sizeOf217
  v233 := Tryd.zeroValue217
  g15 := by kernel_rfl
  g16 := by kernel_rfl
  g17 := by kernel_rfl
  g18 := by kernel_rfl
  g19 := by kernel_rfl
  t80 := Tryd.underlying83
  a80 := Tryd.isAgg83
  z80 := Tryd.sizeOf83
  v80 := Tryd.zeroValue83
  i0 := by kernel_rfl
  i2 := by kernel_rfl
  i3 := by kernel_rfl
  i4 := by kernel_rfl
  i5 := by kernel_rfl
  i9 := by kernel_rfl
  i20 := by kernel_rfl
  i21 := by kernel_rfl
  i37 := by kernel_rfl
  i46 := by kernel_rfl
  i51 := by kernel_rfl
  i53 := by kernel_rfl
  i75 := by kernel_rfl
  i80 := by kernel_rfl
  i85 := by kernel_rfl
  i127 := by kernel_rfl
  i143 := by kernel_rfl
  i145 := by kernel_rfl
  i167 := by kernel_rfl
  i168 := by kernel_rfl
  i171 := by kernel_rfl
  i173 := by kernel_rfl
  i175 := by kernel_rfl
  i210 := by kernel_rfl
  i212 := by kernel_rfl
  i232 := by kernel_rfl
  i233 := by kernel_rfl
  m15 := by kernel_rfl
  m16 := by kernel_rfl
  m17 := by kernel_rfl
  m18 := by kernel_rfl
  m19 := by kernel_rfl
  c0 := by kernel_rfl
  c2 := by kernel_rfl
  c3 := by kernel_rfl
  c4 := by kernel_rfl
  c5 := by kernel_rfl
  c9 := by kernel_rfl
  c20 := by kernel_rfl
  c21 := by kernel_rfl
  c37 := by kernel_rfl
  c46 := by kernel_rfl
  c51 := by kernel_rfl
  c53 := by kernel_rfl
  c75 := by kernel_rfl
  c80 := by kernel_rfl
  c85 := by kernel_rfl
  c127 := by kernel_rfl
  c143 := by kernel_rfl
  c145 := by kernel_rfl
  c167 := by kernel_rfl
  c168 := by kernel_rfl
  c171 := by kernel_rfl
  c173 := by kernel_rfl
  c175 := by kernel_rfl
  c210 := by kernel_rfl
  c212 := by kernel_rfl
  c213 := by kernel_rfl
  c232 := by kernel_rfl
  c233 := by kernel_rfl }
open Go.RowKit in
theorem strconv_ParseInt_10_at64_ok (s : ByteArray) (hmax : s.size ≤ 9223372036854775806) (v : Int) (h : Lib.parseIntB 64 s.data.toList = .ok v) (w : World) :
    Calls Tryd.prog 102 #[.string s, .int .i64 10, .int .i64 64] w fun e w' => e = .returned (.tuple #[.int .i64 v, .nilIface]) ∧ (w' = w ∨ ∃ t, w' = Lib.bytesWorld w 5 t) := Any.strconv_ParseInt_10_at64_ok laysC174 s hmax v h w
open Go.RowKit in
theorem strconv_ParseInt_10_at64_syntax_var (s : ByteArray) (hlim : s.size ≤ 281474976710656) (h : Lib.parseIntB 64 s.data.toList = Lib.NumEnd.syntax) (tp : TypeId) (p : Value) (w : World) (hvar : w.var? Tryd.prog "strconv.ErrSyntax" = some #[.iface tp p]) :
    Calls Tryd.prog 102 #[.string s, .int .i64 10, .int .i64 64] w fun e w' => ∃ N, e = .returned (.tuple #[.int .i64 (0), .iface 196 (.pointer (some ⟨N, 0, none⟩))]) ∧ w.heap.size ≤ N ∧ w'.heap[N]? = some (.cells #[.string ⟨#[80, 97, 114, 115, 101, 73, 110, 116]⟩, .string s, .iface tp p] 211 (0, 0)) ∧ Below w.heap.size w w' := Any.strconv_ParseInt_10_at64_syntax_var laysC174 s hlim h tp p w hvar
open Go.RowKit in
theorem strconv_ParseInt_10_at64_range_var (s : ByteArray) (hlim : s.size ≤ 281474976710656) (h : Lib.parseIntB 64 s.data.toList = .range) (tp : TypeId) (p : Value) (w : World) (hvar : w.var? Tryd.prog "strconv.ErrRange" = some #[.iface tp p]) :
    Calls Tryd.prog 102 #[.string s, .int .i64 10, .int .i64 64] w fun e w' => ∃ N, e = .returned (.tuple #[.int .i64 (Lib.intSat 64 s.data.toList), .iface 196 (.pointer (some ⟨N, 0, none⟩))]) ∧ w.heap.size ≤ N ∧ w'.heap[N]? = some (.cells #[.string ⟨#[80, 97, 114, 115, 101, 73, 110, 116]⟩, .string s, .iface tp p] 211 (0, 0)) ∧ Below w.heap.size w w' := Any.strconv_ParseInt_10_at64_range_var laysC174 s hlim h tp p w hvar
def lays101_ren : Go.Shelf.Ren := ⟨fun | 101 => 100 | 208 => 116 | 206 => 131 | n => n, fun | 9 => 9 | 4 => 4 | 3 => 3 | n => n, fun | n => n⟩
theorem lays101 : Go.Proofs.Lays.n101 Tryd.prog lays101_ren := {
  mixed := by kernel_rfl
  f101 := Tryd.func100.trans (congrArg some (by kernel_rfl))
  f206 := Tryd.func131.trans (congrArg some (by kernel_rfl))
  f208 := Tryd.func116.trans (congrArg some (by kernel_rfl))
  t3 := Tryd.underlying3
  a3 := Tryd.isAgg3
  z3 := Tryd.sizeOf3
  v3 := Tryd.zeroValue3
  t4 := Tryd.underlying4
  a4 := Tryd.isAgg4
  z4 := Tryd.sizeOf4
  v4 := Tryd.zeroValue4
  t9 := Tryd.underlying9
  a9 := Tryd.isAgg9
  z9 := Tryd.sizeOf9
  v9 := Tryd.zeroValue9 }
open Go.RowKit Go.Lib in
theorem strings_TrimPrefix (s p : ByteArray) (w : World) :
    Calls Tryd.prog 100 #[.string s, .string p] w fun e w' => e = .returned (.string ⟨(Lib.trimPrefix s.data.toList p.data.toList).toArray⟩) ∧ w' = w := Any.strings_TrimPrefix lays101 s p w
end Go.Proofs.YtkichbggmgppmaaDoor

/-
  The library's contracts that the numbers need, in the words of symbolic runs.
-/
namespace Go.Proofs.YtkichbggmgppmaaDoor
open Go.RowKit
open Sy
set_option linter.unusedVariables false
set_option linter.unusedSimpArgs false
set_option maxRecDepth 100000
set_option maxHeartbeats 4000000

/-- the tables and the errors that the library reads -/
def NumW (w : World) : Prop := Lib.TabIs Tryd.prog w "internal/strconv.uint64pow10" .u64 Lib.pow10Tab ∧ (∃ tp p, w.var? Tryd.prog "strconv.ErrRange" = some #[.iface tp p]) ∧ ∃ tp p, w.var? Tryd.prog "strconv.ErrSyntax" = some #[.iface tp p]
theorem sat_base {l : List HP} {R : HP} {w : World} (s : Sat (sepL l R) w) : Sat R w := by
  obtain ⟨h, h1, s⟩ := s
  obtain ⟨h', e, s'⟩ := sub_nil s
  exact ⟨h', h1.mono e, s'⟩
theorem sFormat {R : HP} (hN : ∀ w, Sat R w → NumW w) (n : Int) (h0 : -9223372036854775808 ≤ n) (h1 : n ≤ 9223372036854775807) : PureR Tryd.prog R 70 [.int .i64 n, .int .i64 10] (.string (bs (Lib.itoa n))) := by
  refine PureR.of_below fun w hw => (strconv_FormatInt_10 n h0 h1 w (hN w hw).1).mono ?_
  rintro e w' ⟨rfl, k, os, rfl⟩
  exact ⟨rfl, Lib.below_grow _ w (Nat.le_refl _) k os⟩
theorem sTrim {R : HP} (l p : List UInt8) : PureR Tryd.prog R 100 [.string (bs l), .string (bs p)] (.string (bs (Lib.trimPrefix l p))) := by
  refine PureR.of_below fun w hw => (strings_TrimPrefix (bs l) (bs p) w).mono ?_
  rintro e w' ⟨rfl, rfl⟩
  exact ⟨by simp only [bs_toList]; rfl, Below.refl _ _⟩
theorem sParse {R : HP} (l : List UInt8) (hl : l.length ≤ 9223372036854775806) {v : Int} (h : Lib.parseIntB 64 l = .ok v) : PureR Tryd.prog R 102 [.string (bs l), .int .i64 10, .int .i64 64] (.tuple #[.int .i64 v, .nilIface]) := by
  refine PureR.of_below fun w hw => (strconv_ParseInt_10_at64_ok (bs l) (by simpa using hl) v (by simpa using h) w).mono ?_
  rintro e w' ⟨rfl, hw'⟩
  refine ⟨rfl, ?_⟩
  rcases hw' with rfl | ⟨t, rfl⟩
  · exact Below.refl _ _
  · exact Lib.bytesWorld_below _ _ _
theorem sParseBad {R : HP} (hN : ∀ w, Sat R w → NumW w) (l : List UInt8) (hl : l.length ≤ 281474976710656) (h : ∀ v, Lib.parseIntB 64 l ≠ .ok v) : FnR Tryd.prog R 102 [.string (bs l), .int .i64 10, .int .i64 64] [] fun r hs => ∃ z N, r = .tuple #[.int .i64 z, .iface 196 (.pointer (some ⟨N, 0, none⟩))] ∧ hs = [] := by
  rintro w ⟨g, g1, g2⟩
  have key : Calls Tryd.prog 102 #[.string (bs l), .int .i64 10, .int .i64 64] w fun e w' => ∃ z N, e = .returned (.tuple #[.int .i64 z, .iface 196 (.pointer (some ⟨N, 0, none⟩))]) ∧ Below w.heap.size w w' := by
    obtain ⟨_, ⟨tp, p, e1⟩, tp', p', e2⟩ := hN w ⟨g, g1, g2⟩
    cases c : Lib.parseIntB 64 l with
    | ok v => exact absurd c (h v)
    | range =>
      refine (strconv_ParseInt_10_at64_range_var (bs l) (by simpa using hl) (by simpa using c) tp p w e1).mono ?_
      rintro e w' ⟨N, rfl, _, _, hb⟩
      exact ⟨_, N, rfl, hb⟩
    | _ =>
      refine (strconv_ParseInt_10_at64_syntax_var (bs l) (by simpa using hl) (by simpa using c) tp' p' w e2).mono ?_
      rintro e w' ⟨N, rfl, _, _, hb⟩
      exact ⟨_, N, rfl, hb⟩
  refine key.mono ?_
  rintro e w' ⟨z, N, rfl, hb⟩
  exact ⟨_, [], rfl, ⟨z, N, rfl, rfl⟩, ⟨g, g1.below hb, g2⟩, .of_below hb⟩
end Go.Proofs.YtkichbggmgppmaaDoor

/-
  num.Scan, num.Read, num.Print.
-/
namespace Go.Proofs.YtkichbggmgppmaaDoor
open Go.RowKit
open Sy
set_option linter.unusedVariables false
set_option linter.unusedSimpArgs false
set_option maxRecDepth 100000
set_option maxHeartbeats 4000000

/-- one byte if it begins with a '-' -/
def sgn (r : List UInt8) : Nat := if r.head? = some 45 then 1 else 0
theorem trim_sgn (r : List UInt8) : Lib.trimPrefix r [45] = r.drop (sgn r) := by
  cases r with
  | nil => rfl
  | cons a r =>
    unfold Lib.trimPrefix Lib.hasPrefix sgn
    by_cases c : a = 45
    · subst c; simp
    · have : ¬ (45 : UInt8) = a := fun e => c e.symm
      simp [c, this]
def numOf (p : Lib.NumEnd Int) (e : Int) : Int × Int × Int := match p with
  | .ok v => (v, e, 0)
  | _ => (0, 0, 7)
def scan (l : List UInt8) (at' : Int) : Int × Int × Int :=
  if at' < 0 ∨ (l.length : Int) < at' then (0, 0, 11) else
  let r := l.drop at'.toNat
  let n := nd (r.drop (sgn r))
  if n = 0 ∨ ((r.drop (sgn r))[0]? = some 48 ∧ (1 < n ∨ 0 < sgn r)) then (0, 0, 12) else
  numOf (Lib.parseIntB 64 (r.take (sgn r + n))) (at' + sgn r + n)
abbrev scanV (x : Int × Int × Int) : Value := .tuple #[.int .i64 x.1, .int .i64 x.2.1, .int .i64 x.2.2]
theorem sgn_le (r : List UInt8) : sgn r ≤ r.length := by
  cases r with
  | nil => simp [sgn]
  | cons a r => unfold sgn; split <;> simp
theorem u8_48 {l : List UInt8} (h : 0 < l.length) : (byteAt (bs l) 0 = 48) ↔ l[0]? = some 48 := by
  cases l with
  | nil => simp at h
  | cons a l =>
    rw [byteAt_bs]
    simp only [List.getElem?_cons_zero, Option.getD_some, Option.some.injEq]
    constructor
    · intro e
      apply UInt8.toNat_inj.1
      have : a.toNat = 48 := by omega
      rw [this]; rfl
    · rintro rfl; rfl

theorem sScan {R : HP} (hN : ∀ w, Sat R w → NumW w) (l : List UInt8) (hl : l.length ≤ 1048576) (at' : Int) : PureR Tryd.prog R 79 [.string (bs l), .int .i64 at'] (scanV (scan l at')) := by
  refine fn_of_run0 false Tryd.func79 rfl hmix rfl fun w0 => ?_
  conv => whnf
  refine ⟨fun h1 => ?_, fun h1 => ?_⟩
  · have h1 : ¬ at' < 0 := of_decide_eq_false h1
    conv => whnf
    refine ⟨fun h2 => ?_, fun h2 => ?_⟩
    · have h2 : ((bs l).size : Int) < at' := of_decide_eq_true h2
      rw [bs_size] at h2
      have e : scan l at' = (0, 0, 11) := by unfold scan; rw [if_pos (.inr h2)]
      rw [e]
      conv => whnf
      exact ⟨trivial, fin_drop rfl⟩
    · have h2 : ¬ ((bs l).size : Int) < at' := of_decide_eq_false h2
      rw [bs_size] at h2
      obtain ⟨n, rfl⟩ : ∃ n : Nat, at' = (n : Int) := ⟨at'.toNat, by omega⟩
      have hn : n ≤ l.length := by omega
      have ext : (bs l).extract (n : Int).toNat ((bs l).size : Int).toNat = bs (l.drop n) := by
        rw [bs_extract, Int.toNat_natCast, Int.toNat_natCast, bs_size, List.take_length]
      obtain ⟨r, hr⟩ : ∃ r, l.drop n = r := ⟨_, rfl⟩
      have hrl : r.length = l.length - n := by rw [← hr]; simp
      obtain ⟨q, hq⟩ : ∃ q, r.drop (sgn r) = q := ⟨_, rfl⟩
      have hql : q.length = r.length - sgn r := by rw [← hq]; simp
      have hsg := sgn_le r
      have hnd := nd_le q
      conv => whnf
      refine ⟨⟨trivial, by rw [bs_size]; omega⟩, CallAt.pure (v := .string (bs q)) (fun R' hR' => ?_) ?_⟩
      · rw [ext, hr, ← hq, ← trim_sgn]
        exact sTrim r [45]
      conv => whnf
      refine ⟨⟨⟨trivial, by rw [bs_size]; unfold rng; omega⟩, by rw [bs_size, bs_size]; unfold rng; omega⟩, CallAt.pure (fun R' hR' => sDigits q (by omega)) ?_⟩
      have hN2 : (scan l (n : Int)) = (if nd q = 0 ∨ (q[0]? = some 48 ∧ (1 < nd q ∨ 0 < sgn r)) then (0, 0, 12) else
          numOf (Lib.parseIntB 64 (r.take (sgn r + nd q))) ((n : Int) + sgn r + nd q)) := by
        unfold scan
        rw [if_neg (by omega)]
        simp only [Int.toNat_natCast, hr, hq]
      have ext2 : (bs l).extract (n : Int).toNat ((n : Int) + (((bs l).size : Int) - n - ((bs q).size : Int)) + (nd q : Int)).toNat = bs (r.take (sgn r + nd q)) := by
        rw [bs_extract, bs_size, bs_size]
        congr 1
        rw [List.drop_take, Int.toNat_natCast, hr]
        congr 1
        omega
      have sub1 : (n : Int) + (((bs l).size : Int) - n - ((bs q).size : Int)) + (nd q : Int) = (n : Int) + sgn r + nd q := by rw [bs_size, bs_size]; omega
      have sub2 : ((bs l).size : Int) - n - ((bs q).size : Int) = sgn r := by rw [bs_size, bs_size]; omega
      rw [sub2] at ext2
      have hsl : (r.take (sgn r + nd q)).length ≤ 1048576 := by rw [List.length_take]; omega
      rw [sub2]
      conv => whnf
      refine ⟨fun h3 => ?_, fun h3 => ?_⟩
      · have h3 : ¬ (nd q : Int) = 0 := of_decide_eq_false h3
        have hq0 : 0 < q.length := by omega
        have h48 := u8_48 hq0
        conv => whnf
        refine ⟨fun h4 => ?_, fun h4 => ?_⟩
        · have h4 := h48.1 (of_decide_eq_true h4)
          conv => whnf
          refine ⟨fun h5 => ?_, fun h5 => ?_⟩
          · have h5 := of_decide_eq_false h5
            conv => whnf
            refine ⟨fun h6 => ?_, fun h6 => ?_⟩
            · have h6 := of_decide_eq_true h6
              rw [hN2, if_pos (.inr ⟨h4, .inr (by omega)⟩)]
              conv => whnf
              exact ⟨⟨trivial, by rw [bs_size]; omega⟩, fin_drop rfl⟩
            · have h6 := of_decide_eq_false h6
              rw [hN2, if_neg (by omega)]
              conv => whnf
              refine ⟨⟨⟨⟨⟨trivial, by rw [bs_size]; omega⟩, by unfold rng; omega⟩, by unfold rng; omega⟩, by rw [bs_size]; omega⟩, ?_⟩
              by_cases hp : ∃ v, Lib.parseIntB 64 (r.take (sgn r + nd q)) = .ok v
              · obtain ⟨v, hp⟩ := hp
                refine CallAt.pure (v := .tuple #[.int .i64 v, .nilIface]) (fun R' hR' => by rw [ext2]; exact sParse _ (by omega) hp) ?_
                conv => whnf
                rw [hp]
                refine iff_f rfl ?_
                conv => whnf
                exact ⟨trivial, fin_drop rfl⟩
              · refine CallAt.fn (pre := []) [] (fun h s => s) (fun R' hR' => by rw [ext2]; exact sParseBad (fun w hw => hN w (sat_base (hR' w hw))) _ (by omega) fun v hv => hp ⟨v, hv⟩) ?_
                rintro _ _ ⟨z, N, rfl, rfl⟩
                have e7 : numOf (Lib.parseIntB 64 (r.take (sgn r + nd q))) ((n : Int) + sgn r + nd q) = (0, 0, 7) := by
                  cases c : Lib.parseIntB 64 (r.take (sgn r + nd q)) with
                  | ok v => exact absurd ⟨v, c⟩ hp
                  | _ => rfl
                rw [e7]
                conv => whnf
                refine iff_t rfl ?_
                conv => whnf
                exact ⟨trivial, fin_drop rfl⟩
          · have h5 := of_decide_eq_true h5
            rw [hN2, if_pos (.inr ⟨h4, .inl (by omega)⟩)]
            conv => whnf
            exact ⟨⟨trivial, by rw [bs_size]; omega⟩, fin_drop rfl⟩
        · have h4 : ¬ q[0]? = some 48 := fun e => (of_decide_eq_false h4) (h48.2 e)
          rw [hN2, if_neg (by rintro (e | ⟨e, _⟩); omega; exact h4 e)]
          conv => whnf
          refine ⟨⟨⟨⟨⟨trivial, by rw [bs_size]; omega⟩, by unfold rng; omega⟩, by unfold rng; omega⟩, by rw [bs_size]; omega⟩, ?_⟩
          by_cases hp : ∃ v, Lib.parseIntB 64 (r.take (sgn r + nd q)) = .ok v
          · obtain ⟨v, hp⟩ := hp
            refine CallAt.pure (v := .tuple #[.int .i64 v, .nilIface]) (fun R' hR' => by rw [ext2]; exact sParse _ (by omega) hp) ?_
            conv => whnf
            rw [hp]
            refine iff_f rfl ?_
            conv => whnf
            exact ⟨trivial, fin_drop rfl⟩
          · refine CallAt.fn (pre := []) [] (fun h s => s) (fun R' hR' => by rw [ext2]; exact sParseBad (fun w hw => hN w (sat_base (hR' w hw))) _ (by omega) fun v hv => hp ⟨v, hv⟩) ?_
            rintro _ _ ⟨z, N, rfl, rfl⟩
            have e7 : numOf (Lib.parseIntB 64 (r.take (sgn r + nd q))) ((n : Int) + sgn r + nd q) = (0, 0, 7) := by
              cases c : Lib.parseIntB 64 (r.take (sgn r + nd q)) with
              | ok v => exact absurd ⟨v, c⟩ hp
              | _ => rfl
            rw [e7]
            conv => whnf
            refine iff_t rfl ?_
            conv => whnf
            exact ⟨trivial, fin_drop rfl⟩
      · have h3 := of_decide_eq_true h3
        rw [hN2, if_pos (.inl (by omega))]
        conv => whnf
        exact ⟨trivial, fin_drop rfl⟩
  · have h1 : at' < 0 := of_decide_eq_true h1
    have e : scan l at' = (0, 0, 11) := by unfold scan; rw [if_pos (.inl h1)]
    rw [e]
    conv => whnf
    exact ⟨trivial, fin_drop rfl⟩
def read (l : List UInt8) : Int × Int :=
  let x := scan l 0
  if x.2.2 ≠ 0 then (0, x.2.2) else if x.2.1 < l.length then (0, 12) else (x.1, 0)
theorem sPrint {R : HP} (hN : ∀ w, Sat R w → NumW w) (n : Int) (h0 : -9223372036854775808 ≤ n) (h1 : n ≤ 9223372036854775807) : PureR Tryd.prog R 36 [.int .i64 n] (.string (bs (Lib.itoa n))) := by
  refine fn_of_run0 false Tryd.func36 rfl hmix rfl fun w0 => ?_
  conv => whnf
  refine ⟨trivial, CallAt.pure (fun R' hR' => sFormat (fun w hw => hN w (sat_base (hR' w hw))) n h0 h1) ?_⟩
  conv => whnf
  exact ⟨trivial, fin_drop rfl⟩
end Go.Proofs.YtkichbggmgppmaaDoor

/-
  What a run of digits stands for, and what strconv.ParseInt makes of it.
-/
namespace Go.Proofs.YtkichbggmgppmaaDoor
open Go.RowKit
open Sy
set_option linter.unusedVariables false
set_option linter.unusedSimpArgs false
set_option maxRecDepth 100000
set_option maxHeartbeats 4000000

def dv (a : Nat) (l : List UInt8) : Nat := l.foldl (fun a c => a * 10 + (c.toNat - 48)) a
theorem dv_le : ∀ (l : List UInt8) (a : Nat), a ≤ dv a l
  | [], a => Nat.le_refl _
  | c :: l, a => by
    have := dv_le l (a * 10 + (c.toNat - 48))
    show a ≤ dv (a * 10 + (c.toNat - 48)) l
    omega
theorem dv_append (a : Nat) (l m : List UInt8) : dv a (l ++ m) = dv (dv a l) m := by simp [dv, List.foldl_append]
theorem dv_take_le (l : List UInt8) {i j : Nat} (h : i ≤ j) : dv 0 (l.take i) ≤ dv 0 (l.take j) := by
  have : l.take j = l.take i ++ (l.take j).drop i := by
    have := (List.take_append_drop i (l.take j)).symm
    rwa [List.take_take, Nat.min_eq_left h] at this
  rw [this, dv_append]
  exact dv_le _ _
theorem dv_succ (l : List UInt8) {i : Nat} (h : i < l.length) : dv 0 (l.take (i + 1)) = dv 0 (l.take i) * 10 + (l[i].toNat - 48) := by
  rw [List.take_succ_eq_append_getElem h, dv_append]
  rfl
theorem isD_iff {c : UInt8} : isD c = true ↔ 48 ≤ c.toNat ∧ c.toNat ≤ 57 := by simp [isD]
theorem pM : ∀ (l : List UInt8) (a : Nat), (∀ c ∈ l, isD c = true) → a ≤ 18446744073709551615 → Lib.parseUintM 18446744073709551615 a l = if dv a l ≤ 18446744073709551615 then .ok (dv a l) else .range
  | [], a, _, ha => by
    show Lib.NumEnd.ok a = _
    rw [show dv a [] = a from rfl, if_pos ha]
  | c :: l, a, h, ha => by
    have hc := isD_iff.1 (h c List.mem_cons_self)
    have e : dv a (c :: l) = dv (a * 10 + (c.toNat - 48)) l := rfl
    have h2 := dv_le l (a * 10 + (c.toNat - 48))
    rw [e]
    unfold Lib.parseUintM
    rw [if_pos hc]
    by_cases c1 : 1844674407370955162 ≤ a
    · rw [if_pos c1, if_neg (by omega)]
    · rw [if_neg c1]
      by_cases c2 : 18446744073709551615 < a * 10 + (c.toNat - 48)
      · rw [if_pos c2, if_neg (by omega)]
      · rw [if_neg c2]
        exact pM l _ (fun x hx => h x (List.mem_cons_of_mem _ hx)) (by omega)
theorem nd_all : ∀ (l : List UInt8), ∀ c ∈ l.take (nd l), isD c = true
  | [], c, h => by simp at h
  | a :: l, c, h => by
    unfold nd at h
    split at h
    · rename_i ha
      simp only [List.take_succ_cons, List.mem_cons] at h
      rcases h with rfl | h
      · exact ha
      · exact nd_all l c h
    · simp at h
theorem pU {l : List UInt8} (h0 : l ≠ []) (h : ∀ c ∈ l, isD c = true) : Lib.parseUintB 64 l = if dv 0 l ≤ 18446744073709551615 then .ok (dv 0 l) else .range := by
  unfold Lib.parseUintB
  rw [if_neg h0]
  exact pM l 0 h (by omega)
/-- what ParseInt makes of digits, with or without a '-' -/
theorem pI (r : List UInt8) (hn : 0 < nd (r.drop (sgn r))) (e : Int) : numOf (Lib.parseIntB 64 (r.take (sgn r + nd (r.drop (sgn r))))) e =
    if dv 0 ((r.drop (sgn r)).take (nd (r.drop (sgn r)))) ≤ 9223372036854775807 + sgn r then ((if sgn r = 1 then -(dv 0 ((r.drop (sgn r)).take (nd (r.drop (sgn r)))) : Int) else (dv 0 ((r.drop (sgn r)).take (nd (r.drop (sgn r)))) : Int)), e, 0) else (0, 0, 7) := by
  have hall := nd_all (r.drop (sgn r))
  have hle := nd_le (r.drop (sgn r))
  have hsplit : r.take (sgn r + nd (r.drop (sgn r))) = r.take (sgn r) ++ (r.drop (sgn r)).take (nd (r.drop (sgn r))) := List.take_add
  rw [hsplit]
  generalize hds : (r.drop (sgn r)).take (nd (r.drop (sgn r))) = ds at *
  have hne : ds ≠ [] := by
    intro c
    have : ds.length = nd (r.drop (sgn r)) := by rw [← hds, List.length_take]; omega
    rw [c] at this
    simp at this
    omega
  have hp := pU hne hall
  by_cases hs : r.head? = some 45
  · have h1 : sgn r = 1 := by unfold sgn; rw [if_pos hs]
    obtain ⟨q, rfl⟩ : ∃ q, r = 45 :: q := by
      cases r with
      | nil => simp at hs
      | cons a q => simp at hs; exact ⟨q, by rw [hs]⟩
    rw [h1]
    simp only [List.take_succ_cons, List.take_zero, List.cons_append, List.nil_append]
    have e1 : Lib.parseIntB 64 (45 :: ds) = match Lib.parseUintB 64 ds with
        | Lib.NumEnd.syntax => Lib.NumEnd.syntax
        | .range => .range
        | .ok u => if 9223372036854775808 < u then .range else .ok (-(u : Int)) := by
      unfold Lib.parseIntB
      simp
      cases Lib.parseUintB 64 ds <;> rfl
    rw [e1, hp]
    by_cases c : dv 0 ds ≤ 18446744073709551615
    · rw [if_pos c]
      by_cases c2 : 9223372036854775808 < dv 0 ds
      · simp only [c2, if_true]; rw [if_neg (by omega)]; rfl
      · simp only [c2, if_false]; rw [if_pos (by omega)]; rfl
    · rw [if_neg c, if_neg (by omega)]; rfl
  · have h1 : sgn r = 0 := by unfold sgn; rw [if_neg hs]
    rw [h1]
    simp only [List.take_zero, List.nil_append]
    obtain ⟨a, ds', rfl⟩ : ∃ a ds', ds = a :: ds' := by
      cases ds with
      | nil => exact absurd rfl hne
      | cons a ds' => exact ⟨a, ds', rfl⟩
    have ha := isD_iff.1 (hall a List.mem_cons_self)
    have e1 : Lib.parseIntB 64 (a :: ds') = match Lib.parseUintB 64 (a :: ds') with
        | Lib.NumEnd.syntax => Lib.NumEnd.syntax
        | .range => .range
        | .ok u => if 9223372036854775808 ≤ u then .range else .ok (u : Int) := by
      unfold Lib.parseIntB
      have n1 : ¬ a.toNat = 43 := by omega
      have n2 : ¬ a.toNat = 45 := by omega
      simp [n1, n2]
      cases Lib.parseUintB 64 (a :: ds') <;> rfl
    rw [e1, hp]
    generalize a :: ds' = ds at *
    by_cases c : dv 0 ds ≤ 18446744073709551615
    · rw [if_pos c]
      by_cases c2 : 9223372036854775808 ≤ dv 0 ds
      · simp only [c2, if_true]; rw [if_neg (by omega)]; rfl
      · simp only [c2, if_false]; rw [if_pos (by omega)]; rfl
    · rw [if_neg c, if_neg (by omega)]; rfl
end Go.Proofs.YtkichbggmgppmaaDoor

/-
  The document's Scan.
-/
namespace Go.Proofs.YtkichbggmgppmaaDoor
open Go.RowKit
open Sy
set_option linter.unusedVariables false
set_option linter.unusedSimpArgs false
set_option maxRecDepth 100000
set_option maxHeartbeats 4000000

theorem byte_q {l q : List UInt8} {frm i : Nat} (h : l.drop frm = q) (hi : i < q.length) : byteAt (bs l) (((frm + i : Nat) : Int)).toNat = (q[i].toNat : Int) := by
  rw [byteAt_bs, Int.toNat_natCast, ← List.getElem?_drop, h, List.getElem?_eq_getElem hi]
  rfl
theorem u8_is {a : UInt8} (k : UInt8) : ((a.toNat : Int) = (k.toNat : Int)) ↔ a = k := by
  constructor
  · intro e; exact UInt8.toNat_inj.1 (by omega)
  · rintro rfl; rfl
/-- the answer, once the digits are counted -/
theorem scan_of {l r q : List UInt8} {n i sg : Nat} (hn : n ≤ l.length) (hr : l.drop n = r) (hsg : sgn r = sg) (hqq : r.drop sg = q) (hNi : nd q = i) :
    scan l (n : Int) = if i = 0 ∨ (q[0]? = some 48 ∧ (1 < i ∨ 0 < sg)) then (0, 0, 12) else if dv 0 (q.take i) ≤ 9223372036854775807 + sg then ((if sg = 1 then -(dv 0 (q.take i) : Int) else (dv 0 (q.take i) : Int)), ((n + sg + i : Nat) : Int), 0) else (0, 0, 7) := by
  subst hsg hNi
  unfold scan
  rw [if_neg (by omega)]
  simp only [Int.toNat_natCast, hr, hqq]
  by_cases c : nd q = 0 ∨ (q[0]? = some 48 ∧ (1 < nd q ∨ 0 < sgn r))
  · rw [if_pos c, if_pos c]
  · rw [if_neg c, if_neg c]
    have h0 : 0 < nd (r.drop (sgn r)) := by rw [hqq]; omega
    have := pI r h0 ((n + sgn r + nd q : Nat) : Int)
    rw [hqq] at this
    rw [← this]
    congr 1
theorem sRefScan {R : HP} (l : List UInt8) (hl : l.length ≤ 1048576) (at' : Int) : PureR Tryd.prog R 55 [.string (bs l), .int .i64 at'] (scanV (scan l at')) := by
  refine fn_of_run0 true Tryd.func55 rfl hmix rfl fun w0 => ?_
  conv => whnf
  refine ⟨fun h1 => ?_, fun h1 => ?_⟩
  · have h1 : ¬ at' < 0 := of_decide_eq_false h1
    conv => whnf
    refine ⟨fun h2 => ?_, fun h2 => ?_⟩
    · have h2 : ((bs l).size : Int) < at' := of_decide_eq_true h2
      rw [bs_size] at h2
      have e : scan l at' = (0, 0, 11) := by unfold scan; rw [if_pos (.inr h2)]
      rw [e]
      conv => whnf
      exact ⟨trivial, fin_drop rfl⟩
    · have h2 : ¬ ((bs l).size : Int) < at' := of_decide_eq_false h2
      rw [bs_size] at h2
      obtain ⟨n, rfl⟩ : ∃ n : Nat, at' = (n : Int) := ⟨at'.toNat, by omega⟩
      have hn : n ≤ l.length := by omega
      obtain ⟨r, hr⟩ : ∃ r, l.drop n = r := ⟨_, rfl⟩
      have hrl : r.length = l.length - n := by rw [← hr]; simp
      obtain ⟨q, hqq⟩ : ∃ q, r.drop (sgn r) = q := ⟨_, rfl⟩
      conv => whnf
      refine ⟨fun h3 => ?_, fun h3 => ?_⟩
      · have h3 := of_decide_eq_true h3
        rw [bs_size] at h3
        have hb : byteAt (bs l) (n : Int).toNat = ((r[0]'(by omega)).toNat : Int) := byte_q (i := 0) hr (by omega)
        conv => whnf
        refine ⟨fun h4 => ?_, fun h4 => ?_⟩
        · have h4d := h4
          have h4 := of_decide_eq_true h4
          have hsg : sgn r = 1 := by
            rw [hb] at h4
            have h5 := (u8_is 45).1 h4
            unfold sgn
            rw [if_pos]
            rw [List.head?_eq_getElem?, List.getElem?_eq_getElem (by omega), h5]
          have hqq2 : r.drop 1 = q := by rw [← hsg]; exact hqq
          have hq : l.drop (n + 1) = q := by rw [← hqq2, ← hr, List.drop_drop]
          have hql : q.length + (n + 1) = l.length := by rw [← hq, List.length_drop]; omega
          conv => whnf
          refine ⟨⟨⟨trivial, by rw [bs_size]; omega⟩, by unfold rng; omega⟩, LoopAt.keep (α := Nat) [0, 7, 8] (fun i => [(9, .v (.int .i64 ((n + 1 + i : Nat) : Int)))]) (fun i => i ≤ q.length ∧ nd q = i + nd (q.drop i)) (fun i => q.length - i) 0 ⟨Nat.zero_le _, by simp⟩ rfl ⟨⟨rfl, rfl⟩, trivial⟩ ⟨⟨rfl, rfl⟩, ⟨rfl, rfl⟩, ⟨rfl, rfl⟩, trivial⟩ trivial ?_⟩
          rintro i ⟨hi, hN⟩
          conv => whnf
          refine ⟨fun t1 => ?_, fun t1 => ?_⟩
          · have t1 := of_decide_eq_true t1
            rw [bs_size] at t1
            have hiq : i < q.length := by omega
            have hbi := byte_q hq hiq
            conv => whnf
            refine ⟨fun t2 => ?_, fun t2 => ?_⟩
            · have t2 := of_decide_eq_true t2
              rw [hbi] at t2
              conv => whnf
              refine ⟨fun t3 => ?_, fun t3 => ?_⟩
              · have t3 := of_decide_eq_true t3
                rw [hbi] at t3
                have hst := nd_step hiq (isD_iff.2 (by omega))
                conv => whnf
                refine ⟨by simp only [bs_size, rng, true_and] <;> omega, Next.keep (i + 1) ⟨by omega, by omega⟩ (by omega) ⟨⟨rfl, rfl⟩, trivial⟩ ⟨⟨rfl, rfl⟩, ⟨rfl, rfl⟩, ⟨rfl, rfl⟩, trivial⟩ trivial rfl rfl rfl⟩
              · have t3 := of_decide_eq_false t3
                rw [hbi] at t3
                have hst := nd_stop hiq (by rw [← Bool.not_eq_true, isD_iff]; omega)
                have hNi : nd q = i := by omega
                have hsc := scan_of hn hr hsg hqq2 hNi
                have hb0 : ∀ h : 0 < q.length, byteAt (bs l) ((n : Int) + 1).toNat = (q[0].toNat : Int) := fun h => byte_q (i := 0) hq h
                conv => whnf
                refine ⟨fun u1 => ?_, fun u1 => ?_⟩
                · have u1 := of_decide_eq_false u1
                  have hi0 : i ≠ 0 := by omega
                  have hq0 : 0 < q.length := by omega
                  have h48 : (byteAt (bs l) ((n : Int) + 1).toNat = 48) ↔ q[0]? = some 48 := by
                    rw [hb0 hq0, List.getElem?_eq_getElem hq0, Option.some.injEq]
                    exact u8_is 48
                  conv => whnf
                  refine ⟨fun u2 => ?_, fun u2 => ?_⟩
                  · have u2d := u2
                    have u2 := h48.1 (of_decide_eq_true u2)
                    conv => whnf
                    refine ⟨fun u3 => ?_, fun u3 => ?_⟩
                    · have u3 := of_decide_eq_false u3
                      conv => whnf
                      refine iff_t u2d ?_
                      conv => whnf
                      refine iff_t h4d ?_
                      rw [hsc, if_pos (.inr ⟨u2, .inr (by omega)⟩)]
                      conv => whnf
                      exact ⟨by simp only [bs_size, rng, true_and] <;> omega, fin_drop rfl⟩
                    · have u3 := of_decide_eq_true u3
                      rw [hsc, if_pos (.inr ⟨u2, .inl (by omega)⟩)]
                      conv => whnf
                      exact ⟨by simp only [bs_size, rng, true_and] <;> omega, fin_drop rfl⟩
                  · have u2d := u2
                    have u2 : ¬ q[0]? = some 48 := fun e => (of_decide_eq_false u2d) (h48.2 e)
                    rw [hsc, if_neg (by rintro (e | ⟨e, _⟩); exact hi0 e; exact u2 e)]
                    conv => whnf
                    refine iff_f u2d ?_
                    conv => whnf
                    refine iff_t h4d ?_
                    conv => whnf
                    refine ⟨by simp only [bs_size, rng, true_and] <;> omega, LoopAt.keep (α := Nat) [0, 8, 9, 10] (fun k => [(11, .v (.int .u64 ((dv 0 (q.take k) : Nat) : Int))), (12, .v (.int .i64 ((n + 1 + k : Nat) : Int)))]) (fun k => k ≤ i ∧ dv 0 (q.take k) ≤ 9223372036854775807 + 1) (fun k => i - k) 0 ⟨Nat.zero_le _, by simp [dv]⟩ rfl ⟨⟨rfl, rfl⟩, ⟨rfl, rfl⟩, trivial⟩ ⟨⟨rfl, rfl⟩, ⟨rfl, rfl⟩, ⟨rfl, rfl⟩, ⟨rfl, rfl⟩, trivial⟩ trivial ?_⟩
                    rintro k ⟨hk, hv⟩
                    conv => whnf
                    refine ⟨fun v1 => ?_, fun v1 => ?_⟩
                    · have v1 := of_decide_eq_true v1
                      have hki : k < i := by omega
                      have hkq : k < q.length := by omega
                      have hbk := byte_q hq hkq
                      have hDk := isD_iff.1 (nd_all q q[k] (by rw [hNi]; exact List.mem_take_iff_getElem.2 ⟨k, by omega, rfl⟩))
                      have hwd : IntKind.u64.wrap (IntKind.u8.wrap (byteAt (bs l) ((n + 1 + k : Nat) : Int).toNat - 48)) = ((q[k].toNat - 48 : Nat) : Int) := by
                        rw [hbk, IntWalk.u8_in _ (by omega), IntWalk.u64_in _ (by omega)]; omega
                      have hds := dv_succ q hkq
                      have hdm := dv_take_le q (show k + 1 ≤ i by omega)
                      conv => whnf
                      rw [hwd]
                      have hM : IntKind.u64.wrap ((9223372036854775808 : Int) - ((q[k].toNat - 48 : Nat) : Int)) = (9223372036854775808 : Int) - ((q[k].toNat - 48 : Nat) : Int) := IntWalk.u64_in _ (by omega)
                      have hT : ((9223372036854775808 : Int) - ((q[k].toNat - 48 : Nat) : Int)).tdiv 10 = ((9223372036854775808 : Int) - ((q[k].toNat - 48 : Nat) : Int)) / 10 := Int.tdiv_eq_ediv_of_nonneg (by omega)
                      rw [hM, hT]
                      refine ⟨fun v2 => ?_, fun v2 => ?_⟩
                      · have v2 := of_decide_eq_true v2
                        rw [if_neg (show ¬ dv 0 (q.take i) ≤ 9223372036854775807 + 1 by omega)]
                        conv => whnf
                        exact ⟨⟨by simp only [bs_size, true_and]; omega, by decide, IntWalk.u64_in _ (by omega)⟩, fin_drop rfl⟩
                      · have v2 := of_decide_eq_false v2
                        have hS : IntKind.u64.wrap (IntKind.u64.wrap (((dv 0 (q.take k) : Nat) : Int) * 10) + ((q[k].toNat - 48 : Nat) : Int)) = ((dv 0 (q.take (k + 1)) : Nat) : Int) := by
                          rw [IntWalk.u64_in (((dv 0 (q.take k) : Nat) : Int) * 10) (by omega), IntWalk.u64_in _ (by omega)]; omega
                        conv => whnf
                        refine ⟨⟨⟨by simp only [bs_size, true_and]; omega, by decide, IntWalk.u64_in _ (by omega)⟩, by unfold rng; omega⟩, Next.keep (k + 1) ⟨by omega, by omega⟩ (by omega) ⟨⟨?_, rfl⟩, ⟨rfl, rfl⟩, trivial⟩ ⟨⟨rfl, rfl⟩, ⟨rfl, rfl⟩, ⟨rfl, rfl⟩, ⟨rfl, rfl⟩, trivial⟩ trivial rfl rfl rfl⟩
                        show some _ = some _
                        rw [hS]
                    · have v1 := of_decide_eq_false v1
                      have hki : k = i := by omega
                      subst hki
                      conv => whnf
                      refine iff_t h4d ?_
                      rw [if_pos hv]
                      have hfin : IntKind.i64.wrap (IntKind.u64.wrap (0 - ((dv 0 (q.take k) : Nat) : Int))) = (if 1 = 1 then -((dv 0 (q.take k) : Nat) : Int) else ((dv 0 (q.take k) : Nat) : Int)) := by
                        simp [IntKind.wrap, IntKind.bits, IntKind.signed]; omega
                      conv => whnf
                      exact ⟨trivial, fin_drop (by rw [← hfin]; rfl)⟩
                · have u1 := of_decide_eq_true u1
                  rw [hsc, if_pos (.inl (by omega))]
                  conv => whnf
                  exact ⟨by simp only [bs_size, rng, true_and] <;> omega, fin_drop rfl⟩
            · have t2 := of_decide_eq_false t2
              rw [hbi] at t2
              have hst := nd_stop hiq (by rw [← Bool.not_eq_true, isD_iff]; omega)
              have hNi : nd q = i := by omega
              have hsc := scan_of hn hr hsg hqq2 hNi
              have hb0 : ∀ h : 0 < q.length, byteAt (bs l) ((n : Int) + 1).toNat = (q[0].toNat : Int) := fun h => byte_q (i := 0) hq h
              conv => whnf
              refine ⟨fun u1 => ?_, fun u1 => ?_⟩
              · have u1 := of_decide_eq_false u1
                have hi0 : i ≠ 0 := by omega
                have hq0 : 0 < q.length := by omega
                have h48 : (byteAt (bs l) ((n : Int) + 1).toNat = 48) ↔ q[0]? = some 48 := by
                  rw [hb0 hq0, List.getElem?_eq_getElem hq0, Option.some.injEq]
                  exact u8_is 48
                conv => whnf
                refine ⟨fun u2 => ?_, fun u2 => ?_⟩
                · have u2d := u2
                  have u2 := h48.1 (of_decide_eq_true u2)
                  conv => whnf
                  refine ⟨fun u3 => ?_, fun u3 => ?_⟩
                  · have u3 := of_decide_eq_false u3
                    conv => whnf
                    refine iff_t u2d ?_
                    conv => whnf
                    refine iff_t h4d ?_
                    rw [hsc, if_pos (.inr ⟨u2, .inr (by omega)⟩)]
                    conv => whnf
                    exact ⟨by simp only [bs_size, rng, true_and] <;> omega, fin_drop rfl⟩
                  · have u3 := of_decide_eq_true u3
                    rw [hsc, if_pos (.inr ⟨u2, .inl (by omega)⟩)]
                    conv => whnf
                    exact ⟨by simp only [bs_size, rng, true_and] <;> omega, fin_drop rfl⟩
                · have u2d := u2
                  have u2 : ¬ q[0]? = some 48 := fun e => (of_decide_eq_false u2d) (h48.2 e)
                  rw [hsc, if_neg (by rintro (e | ⟨e, _⟩); exact hi0 e; exact u2 e)]
                  conv => whnf
                  refine iff_f u2d ?_
                  conv => whnf
                  refine iff_t h4d ?_
                  conv => whnf
                  refine ⟨by simp only [bs_size, rng, true_and] <;> omega, LoopAt.keep (α := Nat) [0, 8, 9, 10] (fun k => [(11, .v (.int .u64 ((dv 0 (q.take k) : Nat) : Int))), (12, .v (.int .i64 ((n + 1 + k : Nat) : Int)))]) (fun k => k ≤ i ∧ dv 0 (q.take k) ≤ 9223372036854775807 + 1) (fun k => i - k) 0 ⟨Nat.zero_le _, by simp [dv]⟩ rfl ⟨⟨rfl, rfl⟩, ⟨rfl, rfl⟩, trivial⟩ ⟨⟨rfl, rfl⟩, ⟨rfl, rfl⟩, ⟨rfl, rfl⟩, ⟨rfl, rfl⟩, trivial⟩ trivial ?_⟩
                  rintro k ⟨hk, hv⟩
                  conv => whnf
                  refine ⟨fun v1 => ?_, fun v1 => ?_⟩
                  · have v1 := of_decide_eq_true v1
                    have hki : k < i := by omega
                    have hkq : k < q.length := by omega
                    have hbk := byte_q hq hkq
                    have hDk := isD_iff.1 (nd_all q q[k] (by rw [hNi]; exact List.mem_take_iff_getElem.2 ⟨k, by omega, rfl⟩))
                    have hwd : IntKind.u64.wrap (IntKind.u8.wrap (byteAt (bs l) ((n + 1 + k : Nat) : Int).toNat - 48)) = ((q[k].toNat - 48 : Nat) : Int) := by
                      rw [hbk, IntWalk.u8_in _ (by omega), IntWalk.u64_in _ (by omega)]; omega
                    have hds := dv_succ q hkq
                    have hdm := dv_take_le q (show k + 1 ≤ i by omega)
                    conv => whnf
                    rw [hwd]
                    have hM : IntKind.u64.wrap ((9223372036854775808 : Int) - ((q[k].toNat - 48 : Nat) : Int)) = (9223372036854775808 : Int) - ((q[k].toNat - 48 : Nat) : Int) := IntWalk.u64_in _ (by omega)
                    have hT : ((9223372036854775808 : Int) - ((q[k].toNat - 48 : Nat) : Int)).tdiv 10 = ((9223372036854775808 : Int) - ((q[k].toNat - 48 : Nat) : Int)) / 10 := Int.tdiv_eq_ediv_of_nonneg (by omega)
                    rw [hM, hT]
                    refine ⟨fun v2 => ?_, fun v2 => ?_⟩
                    · have v2 := of_decide_eq_true v2
                      rw [if_neg (show ¬ dv 0 (q.take i) ≤ 9223372036854775807 + 1 by omega)]
                      conv => whnf
                      exact ⟨⟨by simp only [bs_size, true_and]; omega, by decide, IntWalk.u64_in _ (by omega)⟩, fin_drop rfl⟩
                    · have v2 := of_decide_eq_false v2
                      have hS : IntKind.u64.wrap (IntKind.u64.wrap (((dv 0 (q.take k) : Nat) : Int) * 10) + ((q[k].toNat - 48 : Nat) : Int)) = ((dv 0 (q.take (k + 1)) : Nat) : Int) := by
                        rw [IntWalk.u64_in (((dv 0 (q.take k) : Nat) : Int) * 10) (by omega), IntWalk.u64_in _ (by omega)]; omega
                      conv => whnf
                      refine ⟨⟨⟨by simp only [bs_size, true_and]; omega, by decide, IntWalk.u64_in _ (by omega)⟩, by unfold rng; omega⟩, Next.keep (k + 1) ⟨by omega, by omega⟩ (by omega) ⟨⟨?_, rfl⟩, ⟨rfl, rfl⟩, trivial⟩ ⟨⟨rfl, rfl⟩, ⟨rfl, rfl⟩, ⟨rfl, rfl⟩, ⟨rfl, rfl⟩, trivial⟩ trivial rfl rfl rfl⟩
                      show some _ = some _
                      rw [hS]
                  · have v1 := of_decide_eq_false v1
                    have hki : k = i := by omega
                    subst hki
                    conv => whnf
                    refine iff_t h4d ?_
                    rw [if_pos hv]
                    have hfin : IntKind.i64.wrap (IntKind.u64.wrap (0 - ((dv 0 (q.take k) : Nat) : Int))) = (if 1 = 1 then -((dv 0 (q.take k) : Nat) : Int) else ((dv 0 (q.take k) : Nat) : Int)) := by
                      simp [IntKind.wrap, IntKind.bits, IntKind.signed]; omega
                    conv => whnf
                    exact ⟨trivial, fin_drop (by rw [← hfin]; rfl)⟩
              · have u1 := of_decide_eq_true u1
                rw [hsc, if_pos (.inl (by omega))]
                conv => whnf
                exact ⟨by simp only [bs_size, rng, true_and] <;> omega, fin_drop rfl⟩
          · have t1 := of_decide_eq_false t1
            rw [bs_size] at t1
            have hNi : nd q = i := by
              have e : q.drop i = [] := List.drop_eq_nil_of_le (by omega)
              rw [hN, e]; rfl
            have hsc := scan_of hn hr hsg hqq2 hNi
            have hb0 : ∀ h : 0 < q.length, byteAt (bs l) ((n : Int) + 1).toNat = (q[0].toNat : Int) := fun h => byte_q (i := 0) hq h
            conv => whnf
            refine ⟨fun u1 => ?_, fun u1 => ?_⟩
            · have u1 := of_decide_eq_false u1
              have hi0 : i ≠ 0 := by omega
              have hq0 : 0 < q.length := by omega
              have h48 : (byteAt (bs l) ((n : Int) + 1).toNat = 48) ↔ q[0]? = some 48 := by
                rw [hb0 hq0, List.getElem?_eq_getElem hq0, Option.some.injEq]
                exact u8_is 48
              conv => whnf
              refine ⟨fun u2 => ?_, fun u2 => ?_⟩
              · have u2d := u2
                have u2 := h48.1 (of_decide_eq_true u2)
                conv => whnf
                refine ⟨fun u3 => ?_, fun u3 => ?_⟩
                · have u3 := of_decide_eq_false u3
                  conv => whnf
                  refine iff_t u2d ?_
                  conv => whnf
                  refine iff_t h4d ?_
                  rw [hsc, if_pos (.inr ⟨u2, .inr (by omega)⟩)]
                  conv => whnf
                  exact ⟨by simp only [bs_size, rng, true_and] <;> omega, fin_drop rfl⟩
                · have u3 := of_decide_eq_true u3
                  rw [hsc, if_pos (.inr ⟨u2, .inl (by omega)⟩)]
                  conv => whnf
                  exact ⟨by simp only [bs_size, rng, true_and] <;> omega, fin_drop rfl⟩
              · have u2d := u2
                have u2 : ¬ q[0]? = some 48 := fun e => (of_decide_eq_false u2d) (h48.2 e)
                rw [hsc, if_neg (by rintro (e | ⟨e, _⟩); exact hi0 e; exact u2 e)]
                conv => whnf
                refine iff_f u2d ?_
                conv => whnf
                refine iff_t h4d ?_
                conv => whnf
                refine ⟨by simp only [bs_size, rng, true_and] <;> omega, LoopAt.keep (α := Nat) [0, 8, 9, 10] (fun k => [(11, .v (.int .u64 ((dv 0 (q.take k) : Nat) : Int))), (12, .v (.int .i64 ((n + 1 + k : Nat) : Int)))]) (fun k => k ≤ i ∧ dv 0 (q.take k) ≤ 9223372036854775807 + 1) (fun k => i - k) 0 ⟨Nat.zero_le _, by simp [dv]⟩ rfl ⟨⟨rfl, rfl⟩, ⟨rfl, rfl⟩, trivial⟩ ⟨⟨rfl, rfl⟩, ⟨rfl, rfl⟩, ⟨rfl, rfl⟩, ⟨rfl, rfl⟩, trivial⟩ trivial ?_⟩
                rintro k ⟨hk, hv⟩
                conv => whnf
                refine ⟨fun v1 => ?_, fun v1 => ?_⟩
                · have v1 := of_decide_eq_true v1
                  have hki : k < i := by omega
                  have hkq : k < q.length := by omega
                  have hbk := byte_q hq hkq
                  have hDk := isD_iff.1 (nd_all q q[k] (by rw [hNi]; exact List.mem_take_iff_getElem.2 ⟨k, by omega, rfl⟩))
                  have hwd : IntKind.u64.wrap (IntKind.u8.wrap (byteAt (bs l) ((n + 1 + k : Nat) : Int).toNat - 48)) = ((q[k].toNat - 48 : Nat) : Int) := by
                    rw [hbk, IntWalk.u8_in _ (by omega), IntWalk.u64_in _ (by omega)]; omega
                  have hds := dv_succ q hkq
                  have hdm := dv_take_le q (show k + 1 ≤ i by omega)
                  conv => whnf
                  rw [hwd]
                  have hM : IntKind.u64.wrap ((9223372036854775808 : Int) - ((q[k].toNat - 48 : Nat) : Int)) = (9223372036854775808 : Int) - ((q[k].toNat - 48 : Nat) : Int) := IntWalk.u64_in _ (by omega)
                  have hT : ((9223372036854775808 : Int) - ((q[k].toNat - 48 : Nat) : Int)).tdiv 10 = ((9223372036854775808 : Int) - ((q[k].toNat - 48 : Nat) : Int)) / 10 := Int.tdiv_eq_ediv_of_nonneg (by omega)
                  rw [hM, hT]
                  refine ⟨fun v2 => ?_, fun v2 => ?_⟩
                  · have v2 := of_decide_eq_true v2
                    rw [if_neg (show ¬ dv 0 (q.take i) ≤ 9223372036854775807 + 1 by omega)]
                    conv => whnf
                    exact ⟨⟨by simp only [bs_size, true_and]; omega, by decide, IntWalk.u64_in _ (by omega)⟩, fin_drop rfl⟩
                  · have v2 := of_decide_eq_false v2
                    have hS : IntKind.u64.wrap (IntKind.u64.wrap (((dv 0 (q.take k) : Nat) : Int) * 10) + ((q[k].toNat - 48 : Nat) : Int)) = ((dv 0 (q.take (k + 1)) : Nat) : Int) := by
                      rw [IntWalk.u64_in (((dv 0 (q.take k) : Nat) : Int) * 10) (by omega), IntWalk.u64_in _ (by omega)]; omega
                    conv => whnf
                    refine ⟨⟨⟨by simp only [bs_size, true_and]; omega, by decide, IntWalk.u64_in _ (by omega)⟩, by unfold rng; omega⟩, Next.keep (k + 1) ⟨by omega, by omega⟩ (by omega) ⟨⟨?_, rfl⟩, ⟨rfl, rfl⟩, trivial⟩ ⟨⟨rfl, rfl⟩, ⟨rfl, rfl⟩, ⟨rfl, rfl⟩, ⟨rfl, rfl⟩, trivial⟩ trivial rfl rfl rfl⟩
                    show some _ = some _
                    rw [hS]
                · have v1 := of_decide_eq_false v1
                  have hki : k = i := by omega
                  subst hki
                  conv => whnf
                  refine iff_t h4d ?_
                  rw [if_pos hv]
                  have hfin : IntKind.i64.wrap (IntKind.u64.wrap (0 - ((dv 0 (q.take k) : Nat) : Int))) = (if 1 = 1 then -((dv 0 (q.take k) : Nat) : Int) else ((dv 0 (q.take k) : Nat) : Int)) := by
                    simp [IntKind.wrap, IntKind.bits, IntKind.signed]; omega
                  conv => whnf
                  exact ⟨trivial, fin_drop (by rw [← hfin]; rfl)⟩
            · have u1 := of_decide_eq_true u1
              rw [hsc, if_pos (.inl (by omega))]
              conv => whnf
              exact ⟨by simp only [bs_size, rng, true_and] <;> omega, fin_drop rfl⟩
        · have h4d := h4
          have h4 := of_decide_eq_false h4
          have hsg : sgn r = 0 := by
            rw [hb] at h4
            have h5 : ¬ r[0] = 45 := fun e => h4 ((u8_is 45).2 e)
            unfold sgn
            rw [if_neg]
            rw [List.head?_eq_getElem?, List.getElem?_eq_getElem (by omega), Option.some.injEq]
            exact h5
          have hqq2 : r.drop 0 = q := by rw [← hsg]; exact hqq
          have hq : l.drop (n + 0) = q := by rw [← hqq2, ← hr, List.drop_drop]
          have hql : q.length + (n + 0) = l.length := by rw [← hq, List.length_drop]; omega
          conv => whnf
          refine ⟨⟨trivial, by rw [bs_size]; omega⟩, LoopAt.keep (α := Nat) [0, 7, 8] (fun i => [(9, .v (.int .i64 ((n + 0 + i : Nat) : Int)))]) (fun i => i ≤ q.length ∧ nd q = i + nd (q.drop i)) (fun i => q.length - i) 0 ⟨Nat.zero_le _, by simp⟩ rfl ⟨⟨rfl, rfl⟩, trivial⟩ ⟨⟨rfl, rfl⟩, ⟨rfl, rfl⟩, ⟨rfl, rfl⟩, trivial⟩ trivial ?_⟩
          rintro i ⟨hi, hN⟩
          conv => whnf
          refine ⟨fun t1 => ?_, fun t1 => ?_⟩
          · have t1 := of_decide_eq_true t1
            rw [bs_size] at t1
            have hiq : i < q.length := by omega
            have hbi := byte_q hq hiq
            conv => whnf
            refine ⟨fun t2 => ?_, fun t2 => ?_⟩
            · have t2 := of_decide_eq_true t2
              rw [hbi] at t2
              conv => whnf
              refine ⟨fun t3 => ?_, fun t3 => ?_⟩
              · have t3 := of_decide_eq_true t3
                rw [hbi] at t3
                have hst := nd_step hiq (isD_iff.2 (by omega))
                conv => whnf
                refine ⟨by simp only [bs_size, rng, true_and] <;> omega, Next.keep (i + 1) ⟨by omega, by omega⟩ (by omega) ⟨⟨rfl, rfl⟩, trivial⟩ ⟨⟨rfl, rfl⟩, ⟨rfl, rfl⟩, ⟨rfl, rfl⟩, trivial⟩ trivial rfl rfl rfl⟩
              · have t3 := of_decide_eq_false t3
                rw [hbi] at t3
                have hst := nd_stop hiq (by rw [← Bool.not_eq_true, isD_iff]; omega)
                have hNi : nd q = i := by omega
                have hsc := scan_of hn hr hsg hqq2 hNi
                have hb0 : ∀ h : 0 < q.length, byteAt (bs l) ((n : Int)).toNat = (q[0].toNat : Int) := fun h => byte_q (i := 0) hq h
                conv => whnf
                refine ⟨fun u1 => ?_, fun u1 => ?_⟩
                · have u1 := of_decide_eq_false u1
                  have hi0 : i ≠ 0 := by omega
                  have hq0 : 0 < q.length := by omega
                  have h48 : (byteAt (bs l) ((n : Int)).toNat = 48) ↔ q[0]? = some 48 := by
                    rw [hb0 hq0, List.getElem?_eq_getElem hq0, Option.some.injEq]
                    exact u8_is 48
                  conv => whnf
                  refine ⟨fun u2 => ?_, fun u2 => ?_⟩
                  · have u2d := u2
                    have u2 := h48.1 (of_decide_eq_true u2)
                    conv => whnf
                    refine ⟨fun u3 => ?_, fun u3 => ?_⟩
                    · have u3 := of_decide_eq_false u3
                      conv => whnf
                      refine iff_t u2d ?_
                      conv => whnf
                      refine iff_f h4d ?_
                      rw [hsc, if_neg (by rintro (e | ⟨_, e⟩) <;> omega)]
                      conv => whnf
                      refine iff_f h4d ?_
                      conv => whnf
                      refine ⟨by simp only [bs_size, rng, true_and] <;> omega, LoopAt.keep (α := Nat) [0, 8, 9, 10] (fun k => [(11, .v (.int .u64 ((dv 0 (q.take k) : Nat) : Int))), (12, .v (.int .i64 ((n + 0 + k : Nat) : Int)))]) (fun k => k ≤ i ∧ dv 0 (q.take k) ≤ 9223372036854775807 + 0) (fun k => i - k) 0 ⟨Nat.zero_le _, by simp [dv]⟩ rfl ⟨⟨rfl, rfl⟩, ⟨rfl, rfl⟩, trivial⟩ ⟨⟨rfl, rfl⟩, ⟨rfl, rfl⟩, ⟨rfl, rfl⟩, ⟨rfl, rfl⟩, trivial⟩ trivial ?_⟩
                      rintro k ⟨hk, hv⟩
                      conv => whnf
                      refine ⟨fun v1 => ?_, fun v1 => ?_⟩
                      · have v1 := of_decide_eq_true v1
                        have hki : k < i := by omega
                        have hkq : k < q.length := by omega
                        have hbk := byte_q hq hkq
                        have hDk := isD_iff.1 (nd_all q q[k] (by rw [hNi]; exact List.mem_take_iff_getElem.2 ⟨k, by omega, rfl⟩))
                        have hwd : IntKind.u64.wrap (IntKind.u8.wrap (byteAt (bs l) ((n + 0 + k : Nat) : Int).toNat - 48)) = ((q[k].toNat - 48 : Nat) : Int) := by
                          rw [hbk, IntWalk.u8_in _ (by omega), IntWalk.u64_in _ (by omega)]; omega
                        have hds := dv_succ q hkq
                        have hdm := dv_take_le q (show k + 1 ≤ i by omega)
                        conv => whnf
                        rw [hwd]
                        have hM : IntKind.u64.wrap ((9223372036854775807 : Int) - ((q[k].toNat - 48 : Nat) : Int)) = (9223372036854775807 : Int) - ((q[k].toNat - 48 : Nat) : Int) := IntWalk.u64_in _ (by omega)
                        have hT : ((9223372036854775807 : Int) - ((q[k].toNat - 48 : Nat) : Int)).tdiv 10 = ((9223372036854775807 : Int) - ((q[k].toNat - 48 : Nat) : Int)) / 10 := Int.tdiv_eq_ediv_of_nonneg (by omega)
                        rw [hM, hT]
                        refine ⟨fun v2 => ?_, fun v2 => ?_⟩
                        · have v2 := of_decide_eq_true v2
                          rw [if_neg (show ¬ dv 0 (q.take i) ≤ 9223372036854775807 + 0 by omega)]
                          conv => whnf
                          exact ⟨⟨by simp only [bs_size, true_and]; omega, by decide, IntWalk.u64_in _ (by omega)⟩, fin_drop rfl⟩
                        · have v2 := of_decide_eq_false v2
                          have hS : IntKind.u64.wrap (IntKind.u64.wrap (((dv 0 (q.take k) : Nat) : Int) * 10) + ((q[k].toNat - 48 : Nat) : Int)) = ((dv 0 (q.take (k + 1)) : Nat) : Int) := by
                            rw [IntWalk.u64_in (((dv 0 (q.take k) : Nat) : Int) * 10) (by omega), IntWalk.u64_in _ (by omega)]; omega
                          conv => whnf
                          refine ⟨⟨⟨by simp only [bs_size, true_and]; omega, by decide, IntWalk.u64_in _ (by omega)⟩, by unfold rng; omega⟩, Next.keep (k + 1) ⟨by omega, by omega⟩ (by omega) ⟨⟨?_, rfl⟩, ⟨rfl, rfl⟩, trivial⟩ ⟨⟨rfl, rfl⟩, ⟨rfl, rfl⟩, ⟨rfl, rfl⟩, ⟨rfl, rfl⟩, trivial⟩ trivial rfl rfl rfl⟩
                          show some _ = some _
                          rw [hS]
                      · have v1 := of_decide_eq_false v1
                        have hki : k = i := by omega
                        subst hki
                        conv => whnf
                        refine iff_f h4d ?_
                        rw [if_pos hv]
                        have hfin : IntKind.i64.wrap ((dv 0 (q.take k) : Nat) : Int) = (if 0 = 1 then -((dv 0 (q.take k) : Nat) : Int) else ((dv 0 (q.take k) : Nat) : Int)) := by
                          simp [IntKind.wrap, IntKind.bits, IntKind.signed]; omega
                        conv => whnf
                        exact ⟨trivial, fin_drop (by rw [← hfin]; rfl)⟩
                    · have u3 := of_decide_eq_true u3
                      rw [hsc, if_pos (.inr ⟨u2, .inl (by omega)⟩)]
                      conv => whnf
                      exact ⟨by simp only [bs_size, rng, true_and] <;> omega, fin_drop rfl⟩
                  · have u2d := u2
                    have u2 : ¬ q[0]? = some 48 := fun e => (of_decide_eq_false u2d) (h48.2 e)
                    rw [hsc, if_neg (by rintro (e | ⟨e, _⟩); exact hi0 e; exact u2 e)]
                    conv => whnf
                    refine iff_f u2d ?_
                    conv => whnf
                    refine iff_f h4d ?_
                    conv => whnf
                    refine ⟨by simp only [bs_size, rng, true_and] <;> omega, LoopAt.keep (α := Nat) [0, 8, 9, 10] (fun k => [(11, .v (.int .u64 ((dv 0 (q.take k) : Nat) : Int))), (12, .v (.int .i64 ((n + 0 + k : Nat) : Int)))]) (fun k => k ≤ i ∧ dv 0 (q.take k) ≤ 9223372036854775807 + 0) (fun k => i - k) 0 ⟨Nat.zero_le _, by simp [dv]⟩ rfl ⟨⟨rfl, rfl⟩, ⟨rfl, rfl⟩, trivial⟩ ⟨⟨rfl, rfl⟩, ⟨rfl, rfl⟩, ⟨rfl, rfl⟩, ⟨rfl, rfl⟩, trivial⟩ trivial ?_⟩
                    rintro k ⟨hk, hv⟩
                    conv => whnf
                    refine ⟨fun v1 => ?_, fun v1 => ?_⟩
                    · have v1 := of_decide_eq_true v1
                      have hki : k < i := by omega
                      have hkq : k < q.length := by omega
                      have hbk := byte_q hq hkq
                      have hDk := isD_iff.1 (nd_all q q[k] (by rw [hNi]; exact List.mem_take_iff_getElem.2 ⟨k, by omega, rfl⟩))
                      have hwd : IntKind.u64.wrap (IntKind.u8.wrap (byteAt (bs l) ((n + 0 + k : Nat) : Int).toNat - 48)) = ((q[k].toNat - 48 : Nat) : Int) := by
                        rw [hbk, IntWalk.u8_in _ (by omega), IntWalk.u64_in _ (by omega)]; omega
                      have hds := dv_succ q hkq
                      have hdm := dv_take_le q (show k + 1 ≤ i by omega)
                      conv => whnf
                      rw [hwd]
                      have hM : IntKind.u64.wrap ((9223372036854775807 : Int) - ((q[k].toNat - 48 : Nat) : Int)) = (9223372036854775807 : Int) - ((q[k].toNat - 48 : Nat) : Int) := IntWalk.u64_in _ (by omega)
                      have hT : ((9223372036854775807 : Int) - ((q[k].toNat - 48 : Nat) : Int)).tdiv 10 = ((9223372036854775807 : Int) - ((q[k].toNat - 48 : Nat) : Int)) / 10 := Int.tdiv_eq_ediv_of_nonneg (by omega)
                      rw [hM, hT]
                      refine ⟨fun v2 => ?_, fun v2 => ?_⟩
                      · have v2 := of_decide_eq_true v2
                        rw [if_neg (show ¬ dv 0 (q.take i) ≤ 9223372036854775807 + 0 by omega)]
                        conv => whnf
                        exact ⟨⟨by simp only [bs_size, true_and]; omega, by decide, IntWalk.u64_in _ (by omega)⟩, fin_drop rfl⟩
                      · have v2 := of_decide_eq_false v2
                        have hS : IntKind.u64.wrap (IntKind.u64.wrap (((dv 0 (q.take k) : Nat) : Int) * 10) + ((q[k].toNat - 48 : Nat) : Int)) = ((dv 0 (q.take (k + 1)) : Nat) : Int) := by
                          rw [IntWalk.u64_in (((dv 0 (q.take k) : Nat) : Int) * 10) (by omega), IntWalk.u64_in _ (by omega)]; omega
                        conv => whnf
                        refine ⟨⟨⟨by simp only [bs_size, true_and]; omega, by decide, IntWalk.u64_in _ (by omega)⟩, by unfold rng; omega⟩, Next.keep (k + 1) ⟨by omega, by omega⟩ (by omega) ⟨⟨?_, rfl⟩, ⟨rfl, rfl⟩, trivial⟩ ⟨⟨rfl, rfl⟩, ⟨rfl, rfl⟩, ⟨rfl, rfl⟩, ⟨rfl, rfl⟩, trivial⟩ trivial rfl rfl rfl⟩
                        show some _ = some _
                        rw [hS]
                    · have v1 := of_decide_eq_false v1
                      have hki : k = i := by omega
                      subst hki
                      conv => whnf
                      refine iff_f h4d ?_
                      rw [if_pos hv]
                      have hfin : IntKind.i64.wrap ((dv 0 (q.take k) : Nat) : Int) = (if 0 = 1 then -((dv 0 (q.take k) : Nat) : Int) else ((dv 0 (q.take k) : Nat) : Int)) := by
                        simp [IntKind.wrap, IntKind.bits, IntKind.signed]; omega
                      conv => whnf
                      exact ⟨trivial, fin_drop (by rw [← hfin]; rfl)⟩
                · have u1 := of_decide_eq_true u1
                  rw [hsc, if_pos (.inl (by omega))]
                  conv => whnf
                  exact ⟨by simp only [bs_size, rng, true_and] <;> omega, fin_drop rfl⟩
            · have t2 := of_decide_eq_false t2
              rw [hbi] at t2
              have hst := nd_stop hiq (by rw [← Bool.not_eq_true, isD_iff]; omega)
              have hNi : nd q = i := by omega
              have hsc := scan_of hn hr hsg hqq2 hNi
              have hb0 : ∀ h : 0 < q.length, byteAt (bs l) ((n : Int)).toNat = (q[0].toNat : Int) := fun h => byte_q (i := 0) hq h
              conv => whnf
              refine ⟨fun u1 => ?_, fun u1 => ?_⟩
              · have u1 := of_decide_eq_false u1
                have hi0 : i ≠ 0 := by omega
                have hq0 : 0 < q.length := by omega
                have h48 : (byteAt (bs l) ((n : Int)).toNat = 48) ↔ q[0]? = some 48 := by
                  rw [hb0 hq0, List.getElem?_eq_getElem hq0, Option.some.injEq]
                  exact u8_is 48
                conv => whnf
                refine ⟨fun u2 => ?_, fun u2 => ?_⟩
                · have u2d := u2
                  have u2 := h48.1 (of_decide_eq_true u2)
                  conv => whnf
                  refine ⟨fun u3 => ?_, fun u3 => ?_⟩
                  · have u3 := of_decide_eq_false u3
                    conv => whnf
                    refine iff_t u2d ?_
                    conv => whnf
                    refine iff_f h4d ?_
                    rw [hsc, if_neg (by rintro (e | ⟨_, e⟩) <;> omega)]
                    conv => whnf
                    refine iff_f h4d ?_
                    conv => whnf
                    refine ⟨by simp only [bs_size, rng, true_and] <;> omega, LoopAt.keep (α := Nat) [0, 8, 9, 10] (fun k => [(11, .v (.int .u64 ((dv 0 (q.take k) : Nat) : Int))), (12, .v (.int .i64 ((n + 0 + k : Nat) : Int)))]) (fun k => k ≤ i ∧ dv 0 (q.take k) ≤ 9223372036854775807 + 0) (fun k => i - k) 0 ⟨Nat.zero_le _, by simp [dv]⟩ rfl ⟨⟨rfl, rfl⟩, ⟨rfl, rfl⟩, trivial⟩ ⟨⟨rfl, rfl⟩, ⟨rfl, rfl⟩, ⟨rfl, rfl⟩, ⟨rfl, rfl⟩, trivial⟩ trivial ?_⟩
                    rintro k ⟨hk, hv⟩
                    conv => whnf
                    refine ⟨fun v1 => ?_, fun v1 => ?_⟩
                    · have v1 := of_decide_eq_true v1
                      have hki : k < i := by omega
                      have hkq : k < q.length := by omega
                      have hbk := byte_q hq hkq
                      have hDk := isD_iff.1 (nd_all q q[k] (by rw [hNi]; exact List.mem_take_iff_getElem.2 ⟨k, by omega, rfl⟩))
                      have hwd : IntKind.u64.wrap (IntKind.u8.wrap (byteAt (bs l) ((n + 0 + k : Nat) : Int).toNat - 48)) = ((q[k].toNat - 48 : Nat) : Int) := by
                        rw [hbk, IntWalk.u8_in _ (by omega), IntWalk.u64_in _ (by omega)]; omega
                      have hds := dv_succ q hkq
                      have hdm := dv_take_le q (show k + 1 ≤ i by omega)
                      conv => whnf
                      rw [hwd]
                      have hM : IntKind.u64.wrap ((9223372036854775807 : Int) - ((q[k].toNat - 48 : Nat) : Int)) = (9223372036854775807 : Int) - ((q[k].toNat - 48 : Nat) : Int) := IntWalk.u64_in _ (by omega)
                      have hT : ((9223372036854775807 : Int) - ((q[k].toNat - 48 : Nat) : Int)).tdiv 10 = ((9223372036854775807 : Int) - ((q[k].toNat - 48 : Nat) : Int)) / 10 := Int.tdiv_eq_ediv_of_nonneg (by omega)
                      rw [hM, hT]
                      refine ⟨fun v2 => ?_, fun v2 => ?_⟩
                      · have v2 := of_decide_eq_true v2
                        rw [if_neg (show ¬ dv 0 (q.take i) ≤ 9223372036854775807 + 0 by omega)]
                        conv => whnf
                        exact ⟨⟨by simp only [bs_size, true_and]; omega, by decide, IntWalk.u64_in _ (by omega)⟩, fin_drop rfl⟩
                      · have v2 := of_decide_eq_false v2
                        have hS : IntKind.u64.wrap (IntKind.u64.wrap (((dv 0 (q.take k) : Nat) : Int) * 10) + ((q[k].toNat - 48 : Nat) : Int)) = ((dv 0 (q.take (k + 1)) : Nat) : Int) := by
                          rw [IntWalk.u64_in (((dv 0 (q.take k) : Nat) : Int) * 10) (by omega), IntWalk.u64_in _ (by omega)]; omega
                        conv => whnf
                        refine ⟨⟨⟨by simp only [bs_size, true_and]; omega, by decide, IntWalk.u64_in _ (by omega)⟩, by unfold rng; omega⟩, Next.keep (k + 1) ⟨by omega, by omega⟩ (by omega) ⟨⟨?_, rfl⟩, ⟨rfl, rfl⟩, trivial⟩ ⟨⟨rfl, rfl⟩, ⟨rfl, rfl⟩, ⟨rfl, rfl⟩, ⟨rfl, rfl⟩, trivial⟩ trivial rfl rfl rfl⟩
                        show some _ = some _
                        rw [hS]
                    · have v1 := of_decide_eq_false v1
                      have hki : k = i := by omega
                      subst hki
                      conv => whnf
                      refine iff_f h4d ?_
                      rw [if_pos hv]
                      have hfin : IntKind.i64.wrap ((dv 0 (q.take k) : Nat) : Int) = (if 0 = 1 then -((dv 0 (q.take k) : Nat) : Int) else ((dv 0 (q.take k) : Nat) : Int)) := by
                        simp [IntKind.wrap, IntKind.bits, IntKind.signed]; omega
                      conv => whnf
                      exact ⟨trivial, fin_drop (by rw [← hfin]; rfl)⟩
                  · have u3 := of_decide_eq_true u3
                    rw [hsc, if_pos (.inr ⟨u2, .inl (by omega)⟩)]
                    conv => whnf
                    exact ⟨by simp only [bs_size, rng, true_and] <;> omega, fin_drop rfl⟩
                · have u2d := u2
                  have u2 : ¬ q[0]? = some 48 := fun e => (of_decide_eq_false u2d) (h48.2 e)
                  rw [hsc, if_neg (by rintro (e | ⟨e, _⟩); exact hi0 e; exact u2 e)]
                  conv => whnf
                  refine iff_f u2d ?_
                  conv => whnf
                  refine iff_f h4d ?_
                  conv => whnf
                  refine ⟨by simp only [bs_size, rng, true_and] <;> omega, LoopAt.keep (α := Nat) [0, 8, 9, 10] (fun k => [(11, .v (.int .u64 ((dv 0 (q.take k) : Nat) : Int))), (12, .v (.int .i64 ((n + 0 + k : Nat) : Int)))]) (fun k => k ≤ i ∧ dv 0 (q.take k) ≤ 9223372036854775807 + 0) (fun k => i - k) 0 ⟨Nat.zero_le _, by simp [dv]⟩ rfl ⟨⟨rfl, rfl⟩, ⟨rfl, rfl⟩, trivial⟩ ⟨⟨rfl, rfl⟩, ⟨rfl, rfl⟩, ⟨rfl, rfl⟩, ⟨rfl, rfl⟩, trivial⟩ trivial ?_⟩
                  rintro k ⟨hk, hv⟩
                  conv => whnf
                  refine ⟨fun v1 => ?_, fun v1 => ?_⟩
                  · have v1 := of_decide_eq_true v1
                    have hki : k < i := by omega
                    have hkq : k < q.length := by omega
                    have hbk := byte_q hq hkq
                    have hDk := isD_iff.1 (nd_all q q[k] (by rw [hNi]; exact List.mem_take_iff_getElem.2 ⟨k, by omega, rfl⟩))
                    have hwd : IntKind.u64.wrap (IntKind.u8.wrap (byteAt (bs l) ((n + 0 + k : Nat) : Int).toNat - 48)) = ((q[k].toNat - 48 : Nat) : Int) := by
                      rw [hbk, IntWalk.u8_in _ (by omega), IntWalk.u64_in _ (by omega)]; omega
                    have hds := dv_succ q hkq
                    have hdm := dv_take_le q (show k + 1 ≤ i by omega)
                    conv => whnf
                    rw [hwd]
                    have hM : IntKind.u64.wrap ((9223372036854775807 : Int) - ((q[k].toNat - 48 : Nat) : Int)) = (9223372036854775807 : Int) - ((q[k].toNat - 48 : Nat) : Int) := IntWalk.u64_in _ (by omega)
                    have hT : ((9223372036854775807 : Int) - ((q[k].toNat - 48 : Nat) : Int)).tdiv 10 = ((9223372036854775807 : Int) - ((q[k].toNat - 48 : Nat) : Int)) / 10 := Int.tdiv_eq_ediv_of_nonneg (by omega)
                    rw [hM, hT]
                    refine ⟨fun v2 => ?_, fun v2 => ?_⟩
                    · have v2 := of_decide_eq_true v2
                      rw [if_neg (show ¬ dv 0 (q.take i) ≤ 9223372036854775807 + 0 by omega)]
                      conv => whnf
                      exact ⟨⟨by simp only [bs_size, true_and]; omega, by decide, IntWalk.u64_in _ (by omega)⟩, fin_drop rfl⟩
                    · have v2 := of_decide_eq_false v2
                      have hS : IntKind.u64.wrap (IntKind.u64.wrap (((dv 0 (q.take k) : Nat) : Int) * 10) + ((q[k].toNat - 48 : Nat) : Int)) = ((dv 0 (q.take (k + 1)) : Nat) : Int) := by
                        rw [IntWalk.u64_in (((dv 0 (q.take k) : Nat) : Int) * 10) (by omega), IntWalk.u64_in _ (by omega)]; omega
                      conv => whnf
                      refine ⟨⟨⟨by simp only [bs_size, true_and]; omega, by decide, IntWalk.u64_in _ (by omega)⟩, by unfold rng; omega⟩, Next.keep (k + 1) ⟨by omega, by omega⟩ (by omega) ⟨⟨?_, rfl⟩, ⟨rfl, rfl⟩, trivial⟩ ⟨⟨rfl, rfl⟩, ⟨rfl, rfl⟩, ⟨rfl, rfl⟩, ⟨rfl, rfl⟩, trivial⟩ trivial rfl rfl rfl⟩
                      show some _ = some _
                      rw [hS]
                  · have v1 := of_decide_eq_false v1
                    have hki : k = i := by omega
                    subst hki
                    conv => whnf
                    refine iff_f h4d ?_
                    rw [if_pos hv]
                    have hfin : IntKind.i64.wrap ((dv 0 (q.take k) : Nat) : Int) = (if 0 = 1 then -((dv 0 (q.take k) : Nat) : Int) else ((dv 0 (q.take k) : Nat) : Int)) := by
                      simp [IntKind.wrap, IntKind.bits, IntKind.signed]; omega
                    conv => whnf
                    exact ⟨trivial, fin_drop (by rw [← hfin]; rfl)⟩
              · have u1 := of_decide_eq_true u1
                rw [hsc, if_pos (.inl (by omega))]
                conv => whnf
                exact ⟨by simp only [bs_size, rng, true_and] <;> omega, fin_drop rfl⟩
          · have t1 := of_decide_eq_false t1
            rw [bs_size] at t1
            have hNi : nd q = i := by
              have e : q.drop i = [] := List.drop_eq_nil_of_le (by omega)
              rw [hN, e]; rfl
            have hsc := scan_of hn hr hsg hqq2 hNi
            have hb0 : ∀ h : 0 < q.length, byteAt (bs l) ((n : Int)).toNat = (q[0].toNat : Int) := fun h => byte_q (i := 0) hq h
            conv => whnf
            refine ⟨fun u1 => ?_, fun u1 => ?_⟩
            · have u1 := of_decide_eq_false u1
              have hi0 : i ≠ 0 := by omega
              have hq0 : 0 < q.length := by omega
              have h48 : (byteAt (bs l) ((n : Int)).toNat = 48) ↔ q[0]? = some 48 := by
                rw [hb0 hq0, List.getElem?_eq_getElem hq0, Option.some.injEq]
                exact u8_is 48
              conv => whnf
              refine ⟨fun u2 => ?_, fun u2 => ?_⟩
              · have u2d := u2
                have u2 := h48.1 (of_decide_eq_true u2)
                conv => whnf
                refine ⟨fun u3 => ?_, fun u3 => ?_⟩
                · have u3 := of_decide_eq_false u3
                  conv => whnf
                  refine iff_t u2d ?_
                  conv => whnf
                  refine iff_f h4d ?_
                  rw [hsc, if_neg (by rintro (e | ⟨_, e⟩) <;> omega)]
                  conv => whnf
                  refine iff_f h4d ?_
                  conv => whnf
                  refine ⟨by simp only [bs_size, rng, true_and] <;> omega, LoopAt.keep (α := Nat) [0, 8, 9, 10] (fun k => [(11, .v (.int .u64 ((dv 0 (q.take k) : Nat) : Int))), (12, .v (.int .i64 ((n + 0 + k : Nat) : Int)))]) (fun k => k ≤ i ∧ dv 0 (q.take k) ≤ 9223372036854775807 + 0) (fun k => i - k) 0 ⟨Nat.zero_le _, by simp [dv]⟩ rfl ⟨⟨rfl, rfl⟩, ⟨rfl, rfl⟩, trivial⟩ ⟨⟨rfl, rfl⟩, ⟨rfl, rfl⟩, ⟨rfl, rfl⟩, ⟨rfl, rfl⟩, trivial⟩ trivial ?_⟩
                  rintro k ⟨hk, hv⟩
                  conv => whnf
                  refine ⟨fun v1 => ?_, fun v1 => ?_⟩
                  · have v1 := of_decide_eq_true v1
                    have hki : k < i := by omega
                    have hkq : k < q.length := by omega
                    have hbk := byte_q hq hkq
                    have hDk := isD_iff.1 (nd_all q q[k] (by rw [hNi]; exact List.mem_take_iff_getElem.2 ⟨k, by omega, rfl⟩))
                    have hwd : IntKind.u64.wrap (IntKind.u8.wrap (byteAt (bs l) ((n + 0 + k : Nat) : Int).toNat - 48)) = ((q[k].toNat - 48 : Nat) : Int) := by
                      rw [hbk, IntWalk.u8_in _ (by omega), IntWalk.u64_in _ (by omega)]; omega
                    have hds := dv_succ q hkq
                    have hdm := dv_take_le q (show k + 1 ≤ i by omega)
                    conv => whnf
                    rw [hwd]
                    have hM : IntKind.u64.wrap ((9223372036854775807 : Int) - ((q[k].toNat - 48 : Nat) : Int)) = (9223372036854775807 : Int) - ((q[k].toNat - 48 : Nat) : Int) := IntWalk.u64_in _ (by omega)
                    have hT : ((9223372036854775807 : Int) - ((q[k].toNat - 48 : Nat) : Int)).tdiv 10 = ((9223372036854775807 : Int) - ((q[k].toNat - 48 : Nat) : Int)) / 10 := Int.tdiv_eq_ediv_of_nonneg (by omega)
                    rw [hM, hT]
                    refine ⟨fun v2 => ?_, fun v2 => ?_⟩
                    · have v2 := of_decide_eq_true v2
                      rw [if_neg (show ¬ dv 0 (q.take i) ≤ 9223372036854775807 + 0 by omega)]
                      conv => whnf
                      exact ⟨⟨by simp only [bs_size, true_and]; omega, by decide, IntWalk.u64_in _ (by omega)⟩, fin_drop rfl⟩
                    · have v2 := of_decide_eq_false v2
                      have hS : IntKind.u64.wrap (IntKind.u64.wrap (((dv 0 (q.take k) : Nat) : Int) * 10) + ((q[k].toNat - 48 : Nat) : Int)) = ((dv 0 (q.take (k + 1)) : Nat) : Int) := by
                        rw [IntWalk.u64_in (((dv 0 (q.take k) : Nat) : Int) * 10) (by omega), IntWalk.u64_in _ (by omega)]; omega
                      conv => whnf
                      refine ⟨⟨⟨by simp only [bs_size, true_and]; omega, by decide, IntWalk.u64_in _ (by omega)⟩, by unfold rng; omega⟩, Next.keep (k + 1) ⟨by omega, by omega⟩ (by omega) ⟨⟨?_, rfl⟩, ⟨rfl, rfl⟩, trivial⟩ ⟨⟨rfl, rfl⟩, ⟨rfl, rfl⟩, ⟨rfl, rfl⟩, ⟨rfl, rfl⟩, trivial⟩ trivial rfl rfl rfl⟩
                      show some _ = some _
                      rw [hS]
                  · have v1 := of_decide_eq_false v1
                    have hki : k = i := by omega
                    subst hki
                    conv => whnf
                    refine iff_f h4d ?_
                    rw [if_pos hv]
                    have hfin : IntKind.i64.wrap ((dv 0 (q.take k) : Nat) : Int) = (if 0 = 1 then -((dv 0 (q.take k) : Nat) : Int) else ((dv 0 (q.take k) : Nat) : Int)) := by
                      simp [IntKind.wrap, IntKind.bits, IntKind.signed]; omega
                    conv => whnf
                    exact ⟨trivial, fin_drop (by rw [← hfin]; rfl)⟩
                · have u3 := of_decide_eq_true u3
                  rw [hsc, if_pos (.inr ⟨u2, .inl (by omega)⟩)]
                  conv => whnf
                  exact ⟨by simp only [bs_size, rng, true_and] <;> omega, fin_drop rfl⟩
              · have u2d := u2
                have u2 : ¬ q[0]? = some 48 := fun e => (of_decide_eq_false u2d) (h48.2 e)
                rw [hsc, if_neg (by rintro (e | ⟨e, _⟩); exact hi0 e; exact u2 e)]
                conv => whnf
                refine iff_f u2d ?_
                conv => whnf
                refine iff_f h4d ?_
                conv => whnf
                refine ⟨by simp only [bs_size, rng, true_and] <;> omega, LoopAt.keep (α := Nat) [0, 8, 9, 10] (fun k => [(11, .v (.int .u64 ((dv 0 (q.take k) : Nat) : Int))), (12, .v (.int .i64 ((n + 0 + k : Nat) : Int)))]) (fun k => k ≤ i ∧ dv 0 (q.take k) ≤ 9223372036854775807 + 0) (fun k => i - k) 0 ⟨Nat.zero_le _, by simp [dv]⟩ rfl ⟨⟨rfl, rfl⟩, ⟨rfl, rfl⟩, trivial⟩ ⟨⟨rfl, rfl⟩, ⟨rfl, rfl⟩, ⟨rfl, rfl⟩, ⟨rfl, rfl⟩, trivial⟩ trivial ?_⟩
                rintro k ⟨hk, hv⟩
                conv => whnf
                refine ⟨fun v1 => ?_, fun v1 => ?_⟩
                · have v1 := of_decide_eq_true v1
                  have hki : k < i := by omega
                  have hkq : k < q.length := by omega
                  have hbk := byte_q hq hkq
                  have hDk := isD_iff.1 (nd_all q q[k] (by rw [hNi]; exact List.mem_take_iff_getElem.2 ⟨k, by omega, rfl⟩))
                  have hwd : IntKind.u64.wrap (IntKind.u8.wrap (byteAt (bs l) ((n + 0 + k : Nat) : Int).toNat - 48)) = ((q[k].toNat - 48 : Nat) : Int) := by
                    rw [hbk, IntWalk.u8_in _ (by omega), IntWalk.u64_in _ (by omega)]; omega
                  have hds := dv_succ q hkq
                  have hdm := dv_take_le q (show k + 1 ≤ i by omega)
                  conv => whnf
                  rw [hwd]
                  have hM : IntKind.u64.wrap ((9223372036854775807 : Int) - ((q[k].toNat - 48 : Nat) : Int)) = (9223372036854775807 : Int) - ((q[k].toNat - 48 : Nat) : Int) := IntWalk.u64_in _ (by omega)
                  have hT : ((9223372036854775807 : Int) - ((q[k].toNat - 48 : Nat) : Int)).tdiv 10 = ((9223372036854775807 : Int) - ((q[k].toNat - 48 : Nat) : Int)) / 10 := Int.tdiv_eq_ediv_of_nonneg (by omega)
                  rw [hM, hT]
                  refine ⟨fun v2 => ?_, fun v2 => ?_⟩
                  · have v2 := of_decide_eq_true v2
                    rw [if_neg (show ¬ dv 0 (q.take i) ≤ 9223372036854775807 + 0 by omega)]
                    conv => whnf
                    exact ⟨⟨by simp only [bs_size, true_and]; omega, by decide, IntWalk.u64_in _ (by omega)⟩, fin_drop rfl⟩
                  · have v2 := of_decide_eq_false v2
                    have hS : IntKind.u64.wrap (IntKind.u64.wrap (((dv 0 (q.take k) : Nat) : Int) * 10) + ((q[k].toNat - 48 : Nat) : Int)) = ((dv 0 (q.take (k + 1)) : Nat) : Int) := by
                      rw [IntWalk.u64_in (((dv 0 (q.take k) : Nat) : Int) * 10) (by omega), IntWalk.u64_in _ (by omega)]; omega
                    conv => whnf
                    refine ⟨⟨⟨by simp only [bs_size, true_and]; omega, by decide, IntWalk.u64_in _ (by omega)⟩, by unfold rng; omega⟩, Next.keep (k + 1) ⟨by omega, by omega⟩ (by omega) ⟨⟨?_, rfl⟩, ⟨rfl, rfl⟩, trivial⟩ ⟨⟨rfl, rfl⟩, ⟨rfl, rfl⟩, ⟨rfl, rfl⟩, ⟨rfl, rfl⟩, trivial⟩ trivial rfl rfl rfl⟩
                    show some _ = some _
                    rw [hS]
                · have v1 := of_decide_eq_false v1
                  have hki : k = i := by omega
                  subst hki
                  conv => whnf
                  refine iff_f h4d ?_
                  rw [if_pos hv]
                  have hfin : IntKind.i64.wrap ((dv 0 (q.take k) : Nat) : Int) = (if 0 = 1 then -((dv 0 (q.take k) : Nat) : Int) else ((dv 0 (q.take k) : Nat) : Int)) := by
                    simp [IntKind.wrap, IntKind.bits, IntKind.signed]; omega
                  conv => whnf
                  exact ⟨trivial, fin_drop (by rw [← hfin]; rfl)⟩
            · have u1 := of_decide_eq_true u1
              rw [hsc, if_pos (.inl (by omega))]
              conv => whnf
              exact ⟨by simp only [bs_size, rng, true_and] <;> omega, fin_drop rfl⟩
      · have h3 := of_decide_eq_false h3
        rw [bs_size] at h3
        have hsg : sgn r = 0 := by
          have : r = [] := List.eq_nil_of_length_eq_zero (by omega)
          rw [this]; rfl
        have hq0 : q.length = 0 := by rw [← hqq, List.length_drop]; omega
        conv => whnf
        refine ⟨trivial, LoopAt.keep (α := Nat) [0, 7, 8] (fun i => [(9, .v (.int .i64 ((n + i : Nat) : Int)))]) (fun i => i = 0) (fun i => i) 0 rfl rfl ⟨⟨rfl, rfl⟩, trivial⟩ ⟨⟨rfl, rfl⟩, ⟨rfl, rfl⟩, ⟨rfl, rfl⟩, trivial⟩ trivial ?_⟩
        rintro i rfl
        have hsc := scan_of (q := q) hn hr hsg (by rw [← hsg]; exact hqq) (i := 0) (by rw [List.eq_nil_of_length_eq_zero hq0]; rfl)
        conv => whnf
        refine ⟨fun t1 => ?_, fun t1 => ?_⟩
        · have t1 := of_decide_eq_true t1
          rw [bs_size] at t1
          exfalso; omega
        · conv => whnf
          refine ⟨fun u1 => ?_, fun u1 => ?_⟩
          · have u1 := of_decide_eq_false u1
            exfalso; omega
          · rw [hsc, if_pos (.inl rfl)]
            conv => whnf
            exact ⟨trivial, fin_drop rfl⟩
  · have h1 : at' < 0 := of_decide_eq_true h1
    have e : scan l at' = (0, 0, 11) := by unfold scan; rw [if_pos (.inl h1)]
    rw [e]
    conv => whnf
    exact ⟨trivial, fin_drop rfl⟩
end Go.Proofs.YtkichbggmgppmaaDoor

/-
  The document's Read and Print.
-/
namespace Go.Proofs.YtkichbggmgppmaaDoor
open Go.RowKit
open Sy
set_option linter.unusedVariables false
set_option linter.unusedSimpArgs false
set_option maxRecDepth 100000
set_option maxHeartbeats 4000000

theorem scan_end {l : List UInt8} (x : Int × Int × Int) (h : scan l 0 = x) : x.2.1 ≤ l.length := by
  unfold scan at h
  split at h
  · subst h; simp
  · simp only [Int.toNat_zero, List.drop_zero] at h
    split at h
    · subst h; simp
    · have h1 := sgn_le l
      have h2 := nd_le (l.drop (sgn l))
      rw [List.length_drop] at h2
      unfold numOf at h
      split at h
      · subst h; simp only; omega
      · subst h; simp
def dg (u : Nat) : List UInt8 := if u = 0 then [] else Lib.decDigits u
theorem dg_step {u : Nat} (h : 0 < u) : dg u = dg (u / 10) ++ [UInt8.ofNat (48 + u % 10)] := by
  have h0 : u ≠ 0 := by omega
  unfold dg
  rw [if_neg h0, Lib.decDigits]
  split
  · rw [if_pos (by omega), Nat.mod_eq_of_lt (by omega)]; rfl
  · rw [if_neg (by omega)]
theorem sRefPrint {R : HP} (n : Int) (h0 : -9223372036854775808 ≤ n) (h1 : n ≤ 9223372036854775807) : PureR Tryd.prog R 53 [.int .i64 n] (.string (bs (Lib.itoa n))) := by
  have hlen := Lib.itoa_length_le n h0 h1
  refine fn_of_run0 true Tryd.func53 rfl hmix rfl fun w0 => ?_
  conv => whnf
  refine ⟨fun c => ?_, fun c => ?_⟩
  · have c := of_decide_eq_true c
    subst c
    have e : Lib.itoa 0 = [48] := by rw [Lib.itoa, if_neg (by omega)]; unfold Lib.decDigits; rfl
    rw [e]
    conv => whnf
    exact ⟨trivial, fin_drop rfl⟩
  · have c := of_decide_eq_false c
    conv => whnf
    refine ⟨fun d => ?_, fun d => ?_⟩
    · have d' := of_decide_eq_true d
      have hU : IntKind.u64.wrap (0 - IntKind.u64.wrap n) = ((n.natAbs : Nat) : Int) := by
        simp [IntKind.wrap, IntKind.bits, IntKind.signed]; omega
      conv => whnf
      rw [hU]
      refine ⟨trivial, LoopAt.heap (α := Nat × List UInt8) [0] (fun a => [(3, .v (.int .u64 (a.1 : Int))), (4, .v (.string (bs a.2)))]) (fun a => []) (fun a => dg n.natAbs = dg a.1 ++ a.2 ∧ a.1 ≤ n.natAbs) (fun a => a.1) (n.natAbs, []) ⟨by simp, Nat.le_refl _⟩ rfl ⟨⟨rfl, rfl⟩, ⟨rfl, rfl⟩, trivial⟩ ⟨⟨rfl, rfl⟩, trivial⟩ trivial (fun h s => sub_same s) ?_⟩
      rintro ⟨u, s⟩ ⟨hu, hle⟩
      simp only at hu hle
      have hsl : s.length ≤ 21 := by
        have : (dg n.natAbs).length ≤ 21 := by
          unfold dg
          rw [if_neg (by omega)]
          by_cases c0 : n < 0
          · have e : Lib.itoa n = 45 :: Lib.decDigits n.natAbs := by unfold Lib.itoa; rw [if_pos c0]
            rw [e, List.length_cons] at hlen; omega
          · have e : Lib.itoa n = Lib.decDigits n.natAbs := by unfold Lib.itoa; rw [if_neg c0, show n.toNat = n.natAbs by omega]
            rw [e] at hlen; exact hlen
        rw [hu, List.length_append] at this
        omega
      conv => whnf
      refine ⟨fun v => ?_, fun v => ?_⟩
      · have v := of_decide_eq_true v
        have hst := dg_step (u := u) (by omega)
        have hd : IntKind.u8.wrap (IntKind.u64.wrap (48 + (u : Int).tmod 10)) = ((UInt8.ofNat (48 + u % 10)).toNat : Int) := by
          rw [Int.tmod_eq_emod_of_nonneg (by omega), IntWalk.u64_in _ (by omega), IntWalk.u8_in _ (by omega), UInt8.toNat_ofNat']
          omega
        conv => whnf
        rw [hd]
        refine ⟨⟨trivial, by decide⟩, OpAt.lit [.int .u8 ((UInt8.ofNat (48 + u % 10)).toNat : Int)] 1 rfl rfl rfl rfl rfl (by decide) rfl rfl rfl (by simp [Value.cells]) rfl (by decide) fun g => ?_⟩
        conv => whnf
        refine ⟨trivial, OpAt.bytesStr g 1 1 [UInt8.ofNat (48 + u % 10)] [] rfl (fun h s => s) rfl rfl rfl rfl rfl ?_⟩
        conv => whnf
        have hq : (u : Int).tdiv 10 = ((u / 10 : Nat) : Int) := by rw [Int.tdiv_eq_ediv_of_nonneg (by omega)]; omega
        refine ⟨⟨⟨trivial, by simp only [bs_size, List.length_singleton]; omega⟩, by decide, by rw [hq]; exact IntWalk.u64_in _ (by omega)⟩, Next.heap (u / 10, UInt8.ofNat (48 + u % 10) :: s) ⟨by rw [hu, hst]; simp, by simp only; omega⟩ (by simp only; omega) ⟨⟨?_, rfl⟩, ⟨?_, rfl⟩, trivial⟩ ⟨⟨rfl, rfl⟩, trivial⟩ trivial rfl rfl fun h s => sub_nil s⟩
        · show some _ = some _
          rw [hq]
        · show some _ = some _
          rw [bs_append]
          rfl
      · have v := of_decide_eq_false v
        have hu0 : u = 0 := by omega
        subst hu0
        have hs : Lib.decDigits n.natAbs = s := by
          have : dg n.natAbs = s := by rw [hu]; rfl
          unfold dg at this
          rwa [if_neg (by omega)] at this
        subst hs
        conv => whnf
        refine iff_t d ?_
        have e : Lib.itoa n = 45 :: Lib.decDigits n.natAbs := by unfold Lib.itoa; rw [if_pos d']
        rw [e]
        conv => whnf
        refine ⟨⟨trivial, ?_⟩, fin_drop ?_⟩
        · show 1 + (bs (Lib.decDigits n.natAbs)).size ≤ 9223372036854775807
          rw [bs_size]; omega
        · show Value.string (bs [45] ++ bs (Lib.decDigits n.natAbs)) = _
          rw [bs_append]; rfl
    · have d' := of_decide_eq_false d
      have hU : IntKind.u64.wrap n = ((n.natAbs : Nat) : Int) := by
        rw [IntWalk.u64_in _ (by omega)]; omega
      conv => whnf
      rw [hU]
      refine ⟨trivial, LoopAt.heap (α := Nat × List UInt8) [0] (fun a => [(3, .v (.int .u64 (a.1 : Int))), (4, .v (.string (bs a.2)))]) (fun a => []) (fun a => dg n.natAbs = dg a.1 ++ a.2 ∧ a.1 ≤ n.natAbs) (fun a => a.1) (n.natAbs, []) ⟨by simp, Nat.le_refl _⟩ rfl ⟨⟨rfl, rfl⟩, ⟨rfl, rfl⟩, trivial⟩ ⟨⟨rfl, rfl⟩, trivial⟩ trivial (fun h s => sub_same s) ?_⟩
      rintro ⟨u, s⟩ ⟨hu, hle⟩
      simp only at hu hle
      have hsl : s.length ≤ 21 := by
        have : (dg n.natAbs).length ≤ 21 := by
          unfold dg
          rw [if_neg (by omega)]
          by_cases c0 : n < 0
          · have e : Lib.itoa n = 45 :: Lib.decDigits n.natAbs := by unfold Lib.itoa; rw [if_pos c0]
            rw [e, List.length_cons] at hlen; omega
          · have e : Lib.itoa n = Lib.decDigits n.natAbs := by unfold Lib.itoa; rw [if_neg c0, show n.toNat = n.natAbs by omega]
            rw [e] at hlen; exact hlen
        rw [hu, List.length_append] at this
        omega
      conv => whnf
      refine ⟨fun v => ?_, fun v => ?_⟩
      · have v := of_decide_eq_true v
        have hst := dg_step (u := u) (by omega)
        have hd : IntKind.u8.wrap (IntKind.u64.wrap (48 + (u : Int).tmod 10)) = ((UInt8.ofNat (48 + u % 10)).toNat : Int) := by
          rw [Int.tmod_eq_emod_of_nonneg (by omega), IntWalk.u64_in _ (by omega), IntWalk.u8_in _ (by omega), UInt8.toNat_ofNat']
          omega
        conv => whnf
        rw [hd]
        refine ⟨⟨trivial, by decide⟩, OpAt.lit [.int .u8 ((UInt8.ofNat (48 + u % 10)).toNat : Int)] 1 rfl rfl rfl rfl rfl (by decide) rfl rfl rfl (by simp [Value.cells]) rfl (by decide) fun g => ?_⟩
        conv => whnf
        refine ⟨trivial, OpAt.bytesStr g 1 1 [UInt8.ofNat (48 + u % 10)] [] rfl (fun h s => s) rfl rfl rfl rfl rfl ?_⟩
        conv => whnf
        have hq : (u : Int).tdiv 10 = ((u / 10 : Nat) : Int) := by rw [Int.tdiv_eq_ediv_of_nonneg (by omega)]; omega
        refine ⟨⟨⟨trivial, by simp only [bs_size, List.length_singleton]; omega⟩, by decide, by rw [hq]; exact IntWalk.u64_in _ (by omega)⟩, Next.heap (u / 10, UInt8.ofNat (48 + u % 10) :: s) ⟨by rw [hu, hst]; simp, by simp only; omega⟩ (by simp only; omega) ⟨⟨?_, rfl⟩, ⟨?_, rfl⟩, trivial⟩ ⟨⟨rfl, rfl⟩, trivial⟩ trivial rfl rfl fun h s => sub_nil s⟩
        · show some _ = some _
          rw [hq]
        · show some _ = some _
          rw [bs_append]
          rfl
      · have v := of_decide_eq_false v
        have hu0 : u = 0 := by omega
        subst hu0
        have hs : Lib.decDigits n.natAbs = s := by
          have : dg n.natAbs = s := by rw [hu]; rfl
          unfold dg at this
          rwa [if_neg (by omega)] at this
        subst hs
        conv => whnf
        refine iff_f d ?_
        have e : Lib.itoa n = Lib.decDigits n.natAbs := by
          unfold Lib.itoa
          rw [if_neg d', show n.toNat = n.natAbs by omega]
        rw [e]
        conv => whnf
        exact ⟨trivial, fin_drop rfl⟩
end Go.Proofs.YtkichbggmgppmaaDoor

/-
  NumScans.
-/
namespace Go.Proofs.YtkichbggmgppmaaDoor
open Go.RowKit
open Sy
set_option linter.unusedVariables false
set_option linter.unusedSimpArgs false
set_option maxRecDepth 100000
set_option maxHeartbeats 4000000

end Go.Proofs.YtkichbggmgppmaaDoor

/-
  A number's text is read as the number, and only its own text is.
-/
namespace Go.Proofs.YtkichbggmgppmaaDoor
open Go.RowKit
open Sy
set_option linter.unusedVariables false
set_option linter.unusedSimpArgs false
set_option maxRecDepth 100000
set_option maxHeartbeats 4000000

theorem dec_one {u : Nat} (h : u < 10) : Lib.decDigits u = [UInt8.ofNat (48 + u)] := by rw [Lib.decDigits, dif_pos h]
theorem dec_more {u : Nat} (h : ¬ u < 10) : Lib.decDigits u = Lib.decDigits (u / 10) ++ [UInt8.ofNat (48 + u % 10)] := by rw [Lib.decDigits, dif_neg h]
theorem dig_nat {k : Nat} (h : k < 10) : (UInt8.ofNat (48 + k)).toNat = 48 + k := by rw [UInt8.toNat_ofNat']; omega
/-- digits, no needless 0 ahead, and the value -/
theorem dec_facts : ∀ u : Nat, (∀ c ∈ Lib.decDigits u, isD c = true) ∧ dv 0 (Lib.decDigits u) = u ∧ Lib.decDigits u ≠ [] ∧ ((Lib.decDigits u)[0]? = some 48 → u = 0) := by
  intro u
  induction u using Nat.strongRecOn with
  | _ u ih =>
    by_cases c : u < 10
    · rw [dec_one c]
      refine ⟨fun x hx => ?_, ?_, by simp, fun h => ?_⟩
      · simp only [List.mem_singleton] at hx
        subst hx
        rw [isD_iff, dig_nat c]
        omega
      · show 0 * 10 + ((UInt8.ofNat (48 + u)).toNat - 48) = u
        rw [dig_nat c]; omega
      · simp only [List.getElem?_cons_zero, Option.some.injEq] at h
        have := dig_nat c
        rw [h] at this
        have e : (48 : UInt8).toNat = 48 := rfl
        omega
    · obtain ⟨h1, h2, h3, h4⟩ := ih (u / 10) (by omega)
      rw [dec_more c]
      have hm : u % 10 < 10 := Nat.mod_lt _ (by omega)
      refine ⟨fun x hx => ?_, ?_, by simp, fun h => ?_⟩
      · rcases List.mem_append.1 hx with hx | hx
        · exact h1 x hx
        · simp only [List.mem_singleton] at hx
          subst hx
          rw [isD_iff, dig_nat hm]
          omega
      · rw [dv_append, h2]
        show u / 10 * 10 + ((UInt8.ofNat (48 + u % 10)).toNat - 48) = u
        rw [dig_nat hm]; omega
      · have hp : 0 < (Lib.decDigits (u / 10)).length := List.length_pos_iff.2 h3
        rw [List.getElem?_append_left hp] at h
        have := h4 h
        omega
theorem nd_pre : ∀ {ds rest : List UInt8}, (∀ c ∈ ds, isD c = true) → (∀ c, rest[0]? = some c → isD c = false) → nd (ds ++ rest) = ds.length
  | [], [], _, _ => rfl
  | [], c :: rest, _, h => by
    show (if isD c = true then _ else _) = _
    rw [h c rfl]
    rfl
  | c :: ds, rest, h, h' => by
    show (if isD c = true then nd (ds ++ rest) + 1 else 0) = _
    rw [if_pos (h c List.mem_cons_self), nd_pre (fun x hx => h x (List.mem_cons_of_mem _ hx)) h']
    rfl
/-- a number's text, with something behind that is no digit -/
theorem scan_itoa (n : Int) (h0 : -9223372036854775808 ≤ n) (h1 : n ≤ 9223372036854775807) (rest : List UInt8) (hr : ∀ c, rest[0]? = some c → isD c = false) : scan (Lib.itoa n ++ rest) 0 = (n, ((Lib.itoa n).length : Int), 0) := by
  obtain ⟨f1, f2, f3, f4⟩ := dec_facts n.natAbs
  have hl := List.length_pos_iff.2 f3
  have hnd := nd_pre f1 hr
  by_cases c : n < 0
  · have e : Lib.itoa n = 45 :: Lib.decDigits n.natAbs := by unfold Lib.itoa; rw [if_pos c]
    have hs : sgn (Lib.itoa n ++ rest) = 1 := by rw [e]; rfl
    have hq : (Lib.itoa n ++ rest).drop 1 = Lib.decDigits n.natAbs ++ rest := by rw [e]; rfl
    have := scan_of (l := Lib.itoa n ++ rest) (n := 0) (Nat.zero_le _) rfl hs hq hnd
    rw [show ((0 : Nat) : Int) = 0 from rfl] at this
    rw [this, if_neg, List.take_left, f2, if_pos (by omega), e]
    · simp only [if_true, List.length_cons]
      refine Prod.ext (by simp only; omega) (Prod.ext (by simp only; omega) rfl)
    · rw [List.getElem?_append_left hl]
      rintro (h | ⟨h, _⟩)
      · omega
      · have := f4 h; omega
  · have e : Lib.itoa n = Lib.decDigits n.natAbs := by
      unfold Lib.itoa
      rw [if_neg c, show n.toNat = n.natAbs by omega]
    have hs : sgn (Lib.itoa n ++ rest) = 0 := by
      rw [e]
      unfold sgn
      rw [if_neg]
      rw [List.head?_eq_getElem?, List.getElem?_append_left hl, List.getElem?_eq_getElem hl, Option.some.injEq]
      intro h
      have h5 := isD_iff.1 (f1 _ (List.getElem_mem hl))
      rw [h] at h5
      have e : (45 : UInt8).toNat = 45 := rfl
      omega
    have hq : (Lib.itoa n ++ rest).drop 0 = Lib.decDigits n.natAbs ++ rest := by rw [e]; rfl
    have := scan_of (l := Lib.itoa n ++ rest) (n := 0) (Nat.zero_le _) rfl hs hq hnd
    rw [show ((0 : Nat) : Int) = 0 from rfl] at this
    rw [this, if_neg, List.take_left, f2, if_pos (by omega), e]
    · refine Prod.ext (by simp; omega) (Prod.ext (by simp) rfl)
    · rw [List.getElem?_append_left hl]
      rintro (h | ⟨h, h2 | h2⟩)
      · omega
      · have h5 := f4 h
        rw [h5, dec_one (by omega)] at h2
        simp at h2
      · omega
theorem read_itoa (n : Int) (h0 : -9223372036854775808 ≤ n) (h1 : n ≤ 9223372036854775807) : read (Lib.itoa n) = (n, 0) := by
  have := scan_itoa n h0 h1 [] (by simp)
  rw [List.append_nil] at this
  unfold read
  rw [this]
  simp
end Go.Proofs.YtkichbggmgppmaaDoor

/-
  NumPrints, NumReads: the walks.
-/
namespace Go.Proofs.YtkichbggmgppmaaDoor
open Go.RowKit
open Sy
set_option linter.unusedVariables false
set_option linter.unusedSimpArgs false
set_option maxRecDepth 100000
set_option maxHeartbeats 4000000

theorem dv_pos {a : UInt8} {l : List UInt8} (h : isD a = true) (h0 : a ≠ 48) : 0 < dv 0 (a :: l) := by
  have h1 := dv_le l (0 * 10 + (a.toNat - 48))
  have h2 := isD_iff.1 h
  have h3 : a.toNat ≠ 48 := fun e => h0 (UInt8.toNat_inj.1 (by rw [e]; rfl))
  show 0 < dv (0 * 10 + (a.toNat - 48)) l
  omega
theorem dec_dv : ∀ (n : Nat) (ds : List UInt8), ds.length = n → (∀ c ∈ ds, isD c = true) → ds ≠ [] → (ds[0]? = some 48 → ds.length = 1) → Lib.decDigits (dv 0 ds) = ds := by
  intro n
  induction n with
  | zero => intro ds hl hd hne; exact absurd (List.length_eq_zero_iff.1 hl) hne
  | succ n ih =>
    intro ds hl hd hne h48
    obtain ⟨bs1, c, rfl⟩ : ∃ bs1 c, ds = bs1 ++ [c] := ⟨ds.dropLast, ds.getLast hne, (List.dropLast_concat_getLast hne).symm⟩
    have hc := isD_iff.1 (hd c (by simp))
    have hcc : UInt8.ofNat (48 + (c.toNat - 48)) = c := by
      apply UInt8.toNat_inj.1
      rw [UInt8.toNat_ofNat']
      omega
    rw [dv_append]
    show Lib.decDigits (dv 0 bs1 * 10 + (c.toNat - 48)) = _
    cases bs1 with
    | nil =>
      show Lib.decDigits (0 * 10 + (c.toNat - 48)) = [c]
      rw [Nat.zero_mul, Nat.zero_add, dec_one (by omega), hcc]
    | cons a bs1 =>
      have ha : a ≠ 48 := fun e => by
        subst e
        have := h48 (by simp)
        simp at this
      have hp := dv_pos (l := bs1) (hd a (by simp)) ha
      have hi := ih (a :: bs1) (by simpa using hl) (fun x hx => hd x (List.mem_append_left _ hx)) (by simp) (fun h => by simp at h; exact absurd h ha)
      rw [dec_more (by omega)]
      have e1 : (dv 0 (a :: bs1) * 10 + (c.toNat - 48)) / 10 = dv 0 (a :: bs1) := by omega
      have e2 : (dv 0 (a :: bs1) * 10 + (c.toNat - 48)) % 10 = c.toNat - 48 := by omega
      rw [e1, e2, hi, hcc]
/-- what is read is printed as it was -/
theorem itoa_read {l : List UInt8} {n : Int} (h : read l = (n, 0)) : Lib.itoa n = l := by
  have hs := scan_of (l := l) (r := l) (q := l.drop (sgn l)) (n := 0) (Nat.zero_le _) rfl rfl rfl rfl
  rw [show ((0 : Nat) : Int) = 0 from rfl] at hs
  unfold read at h
  have hq := nd_le (l.drop (sgn l))
  have hsl := sgn_le l
  have hlen : (l.drop (sgn l)).length = l.length - sgn l := by simp
  have hall := nd_all (l.drop (sgn l))
  by_cases c : nd (l.drop (sgn l)) = 0 ∨ ((l.drop (sgn l))[0]? = some 48 ∧ (1 < nd (l.drop (sgn l)) ∨ 0 < sgn l))
  · rw [if_pos c] at hs
    rw [hs] at h
    simp at h
  · rw [if_neg c] at hs
    split at hs
    · rename_i hv
      rw [hs] at h
      simp only [ne_eq, not_true_eq_false, if_false] at h
      split at h
      · simp at h
      · rename_i hlt
        have ht : (l.drop (sgn l)).take (nd (l.drop (sgn l))) = l.drop (sgn l) := List.take_of_length_le (by omega)
        rw [ht] at hall h
        have hdd := dec_dv _ (l.drop (sgn l)) rfl hall (fun e => c (.inl (by rw [e]; rfl))) (fun e => by
          by_cases c1 : 1 < nd (l.drop (sgn l))
          · exact absurd (.inr ⟨e, .inl c1⟩) c
          · omega)
        have hn : (if sgn l = 1 then -(dv 0 (l.drop (sgn l)) : Int) else (dv 0 (l.drop (sgn l)) : Int)) = n := (Prod.ext_iff.1 h).1
        cases l with
        | nil => simp [nd] at c
        | cons a l =>
          by_cases ca : a = 45
          · subst ca
            have e1 : sgn (45 :: l) = 1 := rfl
            rw [e1] at hn hdd hall c
            simp only [List.drop_succ_cons, List.drop_zero, if_true] at hn hdd hall c
            have hp : 0 < dv 0 l := by
              cases l with
              | nil => simp [nd] at c
              | cons b l =>
                refine dv_pos (hall b (by simp)) fun e => ?_
                subst e
                exact c (.inr ⟨rfl, .inr (by omega)⟩)
            unfold Lib.itoa
            rw [if_pos (by omega), show n.natAbs = dv 0 l by omega, hdd]
          · have e1 : sgn (a :: l) = 0 := by simp [sgn, ca]
            rw [e1] at hn hdd
            simp only [List.drop_zero, Nat.zero_ne_one, if_false] at hn hdd
            unfold Lib.itoa
            rw [if_neg (by omega), show n.toNat = dv 0 (a :: l) by omega, hdd]
    · rw [hs] at h
      simp at h
theorem read_rng {l : List UInt8} : -9223372036854775808 ≤ (read l).1 ∧ (read l).1 ≤ 9223372036854775807 := by
  have hs := scan_of (l := l) (r := l) (q := l.drop (sgn l)) (n := 0) (Nat.zero_le _) rfl rfl rfl rfl
  rw [show ((0 : Nat) : Int) = 0 from rfl] at hs
  have h1 : sgn l ≤ 1 := by unfold sgn; split <;> omega
  unfold read
  rw [hs]
  by_cases c : nd (l.drop (sgn l)) = 0 ∨ ((l.drop (sgn l))[0]? = some 48 ∧ (1 < nd (l.drop (sgn l)) ∨ 0 < sgn l))
  · rw [if_pos c]; simp
  · rw [if_neg c]
    split
    · rename_i hv
      simp only [ne_eq, not_true_eq_false, if_false]
      split
      · simp
      · simp only
        split <;> omega
    · simp

end Go.Proofs.YtkichbggmgppmaaDoor

