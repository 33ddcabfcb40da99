/-
  Texts of the proofs, one behind the other: NumD, NumShelf, NumLib, Num, NumPlain, NumRef, NumRefP, NumScans, NumLaws, NumReads.
-/
import Derived.Test.YtojlgfkjnkjcmaaDoorPartB
import Derived.Test.YtojlgfkjnkjcmaaDoorProg
import Derived.KernelRfl
import Derived.Test.YtojlgfkjnkjcmaaDoorPartA
import Derived.Shelf.LaysM
import Derived.Shelf.Strconv.Itoa4
import Derived.Shelf.LaysC
import Derived.Shelf.Strconv.ParseIntPublic10
import Derived.Shelf.Strconv.ErrVarParseInt
import Derived.Shelf.Strings.Prefix
import Derived.Lib.AppendIntMem
import Derived.Lib.ItoaLen
/-
  How many digits a string begins with.
-/
namespace Go.Proofs.YtojlgfkjnkjcmaaDoor
open Go.RowKit
open Sy
set_option linter.unusedVariables false
set_option linter.unusedSimpArgs false
set_option maxRecDepth 100000
set_option maxHeartbeats 4000000

def isD (b : UInt8) : Bool := decide (48 ≤ b.toNat) && decide (b.toNat ≤ 57)
def nd : List UInt8 → Nat
  | [] => 0
  | b :: l => if isD b then nd l + 1 else 0
theorem nd_le : ∀ l : List UInt8, nd l ≤ l.length
  | [] => Nat.le_refl _
  | b :: l => by
    unfold nd
    have := nd_le l
    split <;> simp <;> omega
theorem drop_at {l : List UInt8} {a : Nat} (h : a < l.length) : l.drop a = l[a] :: l.drop (a + 1) := List.drop_eq_getElem_cons h
theorem nd_step {l : List UInt8} {a : Nat} (h : a < l.length) (hD : isD l[a] = true) : nd (l.drop a) = nd (l.drop (a + 1)) + 1 := by
  rw [drop_at h]
  show (if isD l[a] = true then _ else _) = _
  rw [if_pos hD]
theorem nd_stop {l : List UInt8} {a : Nat} (h : a < l.length) (hD : isD l[a] = false) : nd (l.drop a) = 0 := by
  rw [drop_at h]
  show (if isD l[a] = true then _ else _) = _
  rw [hD]
  rfl
theorem bs_get {l : List UInt8} {a : Nat} (h : a < (bs l).size) : (bs l)[a]'h = l[a]'(by simpa using h) := by
  show (bs l).data[a] = _
  simp [bs]
end Go.Proofs.YtojlgfkjnkjcmaaDoor

/-
  The library's contracts that the numbers need: laid by the kit's lay-shelf.mjs and lay-plain.mjs, made a template by wip/plain2tpl.py.
-/
namespace Go.Proofs.YtojlgfkjnkjcmaaDoor
open Go.Shelf
def laysM173_ren : Go.Shelf.Ren := ⟨fun | 173 => 49 | 246 => 66 | 283 => 72 | 284 => 73 | 285 => 74 | 286 => 75 | 129 => 79 | 317 => 78 | 318 => 80 | 319 => 81 | 320 => 82 | 337 => 84 | 338 => 85 | n => n, fun | 2 => 2 | 3 => 3 | 9 => 9 | 4 => 4 | 171 => 135 | 0 => 0 | 53 => 136 | 37 => 64 | 5 => 5 | 173 => 139 | 212 => 146 | 51 => 147 | 20 => 20 | 213 => 148 | 46 => 150 | 232 => 159 | 233 => 160 | n => n, fun | 17 => 0 | 18 => 1 | 19 => 2 | n => n⟩
theorem laysM173 : Go.Proofs.LaysM.n173 Tryd.prog laysM173_ren := {
  mixed := by kernel_rfl
  f129 := Tryd.func79.trans (congrArg some (by kernel_rfl))
  f173 := Tryd.func49.trans (congrArg some (by kernel_rfl))
  f246 := Tryd.func66.trans (congrArg some (by kernel_rfl))
  f283 := Tryd.func72.trans (congrArg some (by kernel_rfl))
  f284 := Tryd.func73.trans (congrArg some (by kernel_rfl))
  f285 := Tryd.func74.trans (congrArg some (by kernel_rfl))
  f286 := Tryd.func75.trans (congrArg some (by kernel_rfl))
  f317 := Tryd.func78.trans (congrArg some (by kernel_rfl))
  f318 := Tryd.func80.trans (congrArg some (by kernel_rfl))
  f319 := Tryd.func81.trans (congrArg some (by kernel_rfl))
  f320 := Tryd.func82.trans (congrArg some (by kernel_rfl))
  f337 := Tryd.func84.trans (congrArg some (by kernel_rfl))
  f338 := Tryd.func85.trans (congrArg some (by kernel_rfl))
  t0 := Tryd.underlying0
  a0 := Tryd.isAgg0
  z0 := Tryd.sizeOf0
  v0 := Tryd.zeroValue0
  t2 := Tryd.underlying2
  a2 := Tryd.isAgg2
  z2 := Tryd.sizeOf2
  v2 := Tryd.zeroValue2
  t3 := Tryd.underlying3
  a3 := Tryd.isAgg3
  z3 := Tryd.sizeOf3
  v3 := Tryd.zeroValue3
  t4 := Tryd.underlying4
  a4 := Tryd.isAgg4
  z4 := Tryd.sizeOf4
  v4 := Tryd.zeroValue4
  t5 := Tryd.underlying5
  a5 := Tryd.isAgg5
  z5 := Tryd.sizeOf5
  v5 := Tryd.zeroValue5
  t9 := Tryd.underlying9
  a9 := Tryd.isAgg9
  z9 := Tryd.sizeOf9
  v9 := Tryd.zeroValue9
  t20 := Tryd.underlying20
  a20 := Tryd.isAgg20
  z20 := Tryd.sizeOf20
  v20 := Tryd.zeroValue20
  t37 := Tryd.underlying64
  a37 := Tryd.isAgg64
  z37 := Tryd.sizeOf64
  v37 := Tryd.zeroValue64
  t46 := Tryd.underlying150
  a46 := Tryd.isAgg150
  z46 := Tryd.sizeOf150
  v46 := Tryd.zeroValue150
  t51 := Tryd.underlying147
  a51 := Tryd.isAgg147
  z51 := Tryd.sizeOf147
  v51 := Tryd.zeroValue147
  t53 := Tryd.underlying136
  a53 := Tryd.isAgg136
  z53 := Tryd.sizeOf136
  v53 := Tryd.zeroValue136
  t171 := Tryd.underlying135
  a171 := Tryd.isAgg135
  z171 := Tryd.sizeOf135
  v171 := Tryd.zeroValue135
  t173 := Tryd.underlying139
  a173 := Tryd.isAgg139
  z173 := Tryd.sizeOf139
  v173 := Tryd.zeroValue139
  t212 := Tryd.underlying146
  a212 := Tryd.isAgg146
  z212 := Tryd.sizeOf146
  v212 := Tryd.zeroValue146
  t213 := Tryd.underlying148
  a213 := Tryd.isAgg148
  z213 := Tryd.sizeOf148
  t232 := Tryd.underlying159
  a232 := Tryd.isAgg159
  z232 := Tryd.sizeOf159
  v232 := Tryd.zeroValue159
  t233 := Tryd.underlying160
  a233 := Tryd.isAgg160
  z233 := Tryd.sizeOf160
  v233 := Tryd.zeroValue160
  g17 := by kernel_rfl
  g18 := by kernel_rfl
  g19 := by kernel_rfl
  i0 := by kernel_rfl
  i2 := by kernel_rfl
  i3 := by kernel_rfl
  i4 := by kernel_rfl
  i5 := by kernel_rfl
  i9 := by kernel_rfl
  i20 := by kernel_rfl
  i37 := by kernel_rfl
  i46 := by kernel_rfl
  i51 := by kernel_rfl
  i53 := by kernel_rfl
  i171 := by kernel_rfl
  i173 := by kernel_rfl
  i212 := by kernel_rfl
  i232 := by kernel_rfl
  i233 := by kernel_rfl
  m17 := by kernel_rfl
  m18 := by kernel_rfl
  m19 := by kernel_rfl }
open Go.RowKit Go.Sort Go.Lib in
theorem strconv_FormatInt_10 (n : Int) (h0 : -9223372036854775808 ≤ n) (h1 : n ≤ 9223372036854775807) (w : World) (htab : Lib.TabIs Tryd.prog w "internal/strconv.uint64pow10" .u64 Lib.pow10Tab) :
    Calls Tryd.prog 49 #[.int .i64 n, .int .i64 10] w fun e w' => e = .returned (.string ⟨(Lib.itoa n).toArray⟩) ∧ ∃ k os, w' = grow (w.drewN k) os := Any.strconv_FormatInt_10 laysM173 n h0 h1 w htab
end Go.Proofs.YtojlgfkjnkjcmaaDoor

/-
  The library's contracts that the numbers need, in the words of symbolic runs.
-/
namespace Go.Proofs.YtojlgfkjnkjcmaaDoor
open Go.RowKit
open Sy
set_option linter.unusedVariables false
set_option linter.unusedSimpArgs false
set_option maxRecDepth 100000
set_option maxHeartbeats 4000000

/-- the tables and the errors that the library reads -/
def NumW (w : World) : Prop := Lib.TabIs Tryd.prog w "internal/strconv.uint64pow10" .u64 Lib.pow10Tab ∧ (∃ tp p, w.var? Tryd.prog "strconv.ErrRange" = some #[.iface tp p]) ∧ ∃ tp p, w.var? Tryd.prog "strconv.ErrSyntax" = some #[.iface tp p]
theorem sat_base {l : List HP} {R : HP} {w : World} (s : Sat (sepL l R) w) : Sat R w := by
  obtain ⟨h, h1, s⟩ := s
  obtain ⟨h', e, s'⟩ := sub_nil s
  exact ⟨h', h1.mono e, s'⟩
theorem sFormat {R : HP} (hN : ∀ w, Sat R w → NumW w) (n : Int) (h0 : -9223372036854775808 ≤ n) (h1 : n ≤ 9223372036854775807) : PureR Tryd.prog R 49 [.int .i64 n, .int .i64 10] (.string (bs (Lib.itoa n))) := by
  refine PureR.of_below fun w hw => (strconv_FormatInt_10 n h0 h1 w (hN w hw).1).mono ?_
  rintro e w' ⟨rfl, k, os, rfl⟩
  exact ⟨rfl, Lib.below_grow _ w (Nat.le_refl _) k os⟩
end Go.Proofs.YtojlgfkjnkjcmaaDoor

/-
  num.Scan, num.Read, num.Print.
-/
namespace Go.Proofs.YtojlgfkjnkjcmaaDoor
open Go.RowKit
open Sy
set_option linter.unusedVariables false
set_option linter.unusedSimpArgs false
set_option maxRecDepth 100000
set_option maxHeartbeats 4000000

/-- one byte if it begins with a '-' -/
def sgn (r : List UInt8) : Nat := if r.head? = some 45 then 1 else 0
theorem trim_sgn (r : List UInt8) : Lib.trimPrefix r [45] = r.drop (sgn r) := by
  cases r with
  | nil => rfl
  | cons a r =>
    unfold Lib.trimPrefix Lib.hasPrefix sgn
    by_cases c : a = 45
    · subst c; simp
    · have : ¬ (45 : UInt8) = a := fun e => c e.symm
      simp [c, this]
def numOf (p : Lib.NumEnd Int) (e : Int) : Int × Int × Int := match p with
  | .ok v => (v, e, 0)
  | _ => (0, 0, 7)
def scan (l : List UInt8) (at' : Int) : Int × Int × Int :=
  if at' < 0 ∨ (l.length : Int) < at' then (0, 0, 11) else
  let r := l.drop at'.toNat
  let n := nd (r.drop (sgn r))
  if n = 0 ∨ ((r.drop (sgn r))[0]? = some 48 ∧ (1 < n ∨ 0 < sgn r)) then (0, 0, 12) else
  numOf (Lib.parseIntB 64 (r.take (sgn r + n))) (at' + sgn r + n)
abbrev scanV (x : Int × Int × Int) : Value := .tuple #[.int .i64 x.1, .int .i64 x.2.1, .int .i64 x.2.2]
theorem sgn_le (r : List UInt8) : sgn r ≤ r.length := by
  cases r with
  | nil => simp [sgn]
  | cons a r => unfold sgn; split <;> simp
theorem u8_48 {l : List UInt8} (h : 0 < l.length) : (byteAt (bs l) 0 = 48) ↔ l[0]? = some 48 := by
  cases l with
  | nil => simp at h
  | cons a l =>
    rw [byteAt_bs]
    simp only [List.getElem?_cons_zero, Option.getD_some, Option.some.injEq]
    constructor
    · intro e
      apply UInt8.toNat_inj.1
      have : a.toNat = 48 := by omega
      rw [this]; rfl
    · rintro rfl; rfl

def read (l : List UInt8) : Int × Int :=
  let x := scan l 0
  if x.2.2 ≠ 0 then (0, x.2.2) else if x.2.1 < l.length then (0, 12) else (x.1, 0)
theorem sPrint {R : HP} (hN : ∀ w, Sat R w → NumW w) (n : Int) (h0 : -9223372036854775808 ≤ n) (h1 : n ≤ 9223372036854775807) : PureR Tryd.prog R 27 [.int .i64 n] (.string (bs (Lib.itoa n))) := by
  refine fn_of_run0 false Tryd.func27 rfl hmix rfl fun w0 => ?_
  conv => whnf
  refine ⟨trivial, CallAt.pure (fun R' hR' => sFormat (fun w hw => hN w (sat_base (hR' w hw))) n h0 h1) ?_⟩
  conv => whnf
  exact ⟨trivial, fin_drop rfl⟩
end Go.Proofs.YtojlgfkjnkjcmaaDoor

/-
  What a run of digits stands for, and what strconv.ParseInt makes of it.
-/
namespace Go.Proofs.YtojlgfkjnkjcmaaDoor
open Go.RowKit
open Sy
set_option linter.unusedVariables false
set_option linter.unusedSimpArgs false
set_option maxRecDepth 100000
set_option maxHeartbeats 4000000

def dv (a : Nat) (l : List UInt8) : Nat := l.foldl (fun a c => a * 10 + (c.toNat - 48)) a
theorem dv_le : ∀ (l : List UInt8) (a : Nat), a ≤ dv a l
  | [], a => Nat.le_refl _
  | c :: l, a => by
    have := dv_le l (a * 10 + (c.toNat - 48))
    show a ≤ dv (a * 10 + (c.toNat - 48)) l
    omega
theorem dv_append (a : Nat) (l m : List UInt8) : dv a (l ++ m) = dv (dv a l) m := by simp [dv, List.foldl_append]
theorem dv_take_le (l : List UInt8) {i j : Nat} (h : i ≤ j) : dv 0 (l.take i) ≤ dv 0 (l.take j) := by
  have : l.take j = l.take i ++ (l.take j).drop i := by
    have := (List.take_append_drop i (l.take j)).symm
    rwa [List.take_take, Nat.min_eq_left h] at this
  rw [this, dv_append]
  exact dv_le _ _
theorem dv_succ (l : List UInt8) {i : Nat} (h : i < l.length) : dv 0 (l.take (i + 1)) = dv 0 (l.take i) * 10 + (l[i].toNat - 48) := by
  rw [List.take_succ_eq_append_getElem h, dv_append]
  rfl
theorem isD_iff {c : UInt8} : isD c = true ↔ 48 ≤ c.toNat ∧ c.toNat ≤ 57 := by simp [isD]
theorem pM : ∀ (l : List UInt8) (a : Nat), (∀ c ∈ l, isD c = true) → a ≤ 18446744073709551615 → Lib.parseUintM 18446744073709551615 a l = if dv a l ≤ 18446744073709551615 then .ok (dv a l) else .range
  | [], a, _, ha => by
    show Lib.NumEnd.ok a = _
    rw [show dv a [] = a from rfl, if_pos ha]
  | c :: l, a, h, ha => by
    have hc := isD_iff.1 (h c List.mem_cons_self)
    have e : dv a (c :: l) = dv (a * 10 + (c.toNat - 48)) l := rfl
    have h2 := dv_le l (a * 10 + (c.toNat - 48))
    rw [e]
    unfold Lib.parseUintM
    rw [if_pos hc]
    by_cases c1 : 1844674407370955162 ≤ a
    · rw [if_pos c1, if_neg (by omega)]
    · rw [if_neg c1]
      by_cases c2 : 18446744073709551615 < a * 10 + (c.toNat - 48)
      · rw [if_pos c2, if_neg (by omega)]
      · rw [if_neg c2]
        exact pM l _ (fun x hx => h x (List.mem_cons_of_mem _ hx)) (by omega)
theorem nd_all : ∀ (l : List UInt8), ∀ c ∈ l.take (nd l), isD c = true
  | [], c, h => by simp at h
  | a :: l, c, h => by
    unfold nd at h
    split at h
    · rename_i ha
      simp only [List.take_succ_cons, List.mem_cons] at h
      rcases h with rfl | h
      · exact ha
      · exact nd_all l c h
    · simp at h
theorem pU {l : List UInt8} (h0 : l ≠ []) (h : ∀ c ∈ l, isD c = true) : Lib.parseUintB 64 l = if dv 0 l ≤ 18446744073709551615 then .ok (dv 0 l) else .range := by
  unfold Lib.parseUintB
  rw [if_neg h0]
  exact pM l 0 h (by omega)
/-- what ParseInt makes of digits, with or without a '-' -/
theorem pI (r : List UInt8) (hn : 0 < nd (r.drop (sgn r))) (e : Int) : numOf (Lib.parseIntB 64 (r.take (sgn r + nd (r.drop (sgn r))))) e =
    if dv 0 ((r.drop (sgn r)).take (nd (r.drop (sgn r)))) ≤ 9223372036854775807 + sgn r then ((if sgn r = 1 then -(dv 0 ((r.drop (sgn r)).take (nd (r.drop (sgn r)))) : Int) else (dv 0 ((r.drop (sgn r)).take (nd (r.drop (sgn r)))) : Int)), e, 0) else (0, 0, 7) := by
  have hall := nd_all (r.drop (sgn r))
  have hle := nd_le (r.drop (sgn r))
  have hsplit : r.take (sgn r + nd (r.drop (sgn r))) = r.take (sgn r) ++ (r.drop (sgn r)).take (nd (r.drop (sgn r))) := List.take_add
  rw [hsplit]
  generalize hds : (r.drop (sgn r)).take (nd (r.drop (sgn r))) = ds at *
  have hne : ds ≠ [] := by
    intro c
    have : ds.length = nd (r.drop (sgn r)) := by rw [← hds, List.length_take]; omega
    rw [c] at this
    simp at this
    omega
  have hp := pU hne hall
  by_cases hs : r.head? = some 45
  · have h1 : sgn r = 1 := by unfold sgn; rw [if_pos hs]
    obtain ⟨q, rfl⟩ : ∃ q, r = 45 :: q := by
      cases r with
      | nil => simp at hs
      | cons a q => simp at hs; exact ⟨q, by rw [hs]⟩
    rw [h1]
    simp only [List.take_succ_cons, List.take_zero, List.cons_append, List.nil_append]
    have e1 : Lib.parseIntB 64 (45 :: ds) = match Lib.parseUintB 64 ds with
        | Lib.NumEnd.syntax => Lib.NumEnd.syntax
        | .range => .range
        | .ok u => if 9223372036854775808 < u then .range else .ok (-(u : Int)) := by
      unfold Lib.parseIntB
      simp
      cases Lib.parseUintB 64 ds <;> rfl
    rw [e1, hp]
    by_cases c : dv 0 ds ≤ 18446744073709551615
    · rw [if_pos c]
      by_cases c2 : 9223372036854775808 < dv 0 ds
      · simp only [c2, if_true]; rw [if_neg (by omega)]; rfl
      · simp only [c2, if_false]; rw [if_pos (by omega)]; rfl
    · rw [if_neg c, if_neg (by omega)]; rfl
  · have h1 : sgn r = 0 := by unfold sgn; rw [if_neg hs]
    rw [h1]
    simp only [List.take_zero, List.nil_append]
    obtain ⟨a, ds', rfl⟩ : ∃ a ds', ds = a :: ds' := by
      cases ds with
      | nil => exact absurd rfl hne
      | cons a ds' => exact ⟨a, ds', rfl⟩
    have ha := isD_iff.1 (hall a List.mem_cons_self)
    have e1 : Lib.parseIntB 64 (a :: ds') = match Lib.parseUintB 64 (a :: ds') with
        | Lib.NumEnd.syntax => Lib.NumEnd.syntax
        | .range => .range
        | .ok u => if 9223372036854775808 ≤ u then .range else .ok (u : Int) := by
      unfold Lib.parseIntB
      have n1 : ¬ a.toNat = 43 := by omega
      have n2 : ¬ a.toNat = 45 := by omega
      simp [n1, n2]
      cases Lib.parseUintB 64 (a :: ds') <;> rfl
    rw [e1, hp]
    generalize a :: ds' = ds at *
    by_cases c : dv 0 ds ≤ 18446744073709551615
    · rw [if_pos c]
      by_cases c2 : 9223372036854775808 ≤ dv 0 ds
      · simp only [c2, if_true]; rw [if_neg (by omega)]; rfl
      · simp only [c2, if_false]; rw [if_pos (by omega)]; rfl
    · rw [if_neg c, if_neg (by omega)]; rfl
end Go.Proofs.YtojlgfkjnkjcmaaDoor

/-
  The document's Scan.
-/
namespace Go.Proofs.YtojlgfkjnkjcmaaDoor
open Go.RowKit
open Sy
set_option linter.unusedVariables false
set_option linter.unusedSimpArgs false
set_option maxRecDepth 100000
set_option maxHeartbeats 4000000

theorem byte_q {l q : List UInt8} {frm i : Nat} (h : l.drop frm = q) (hi : i < q.length) : byteAt (bs l) (((frm + i : Nat) : Int)).toNat = (q[i].toNat : Int) := by
  rw [byteAt_bs, Int.toNat_natCast, ← List.getElem?_drop, h, List.getElem?_eq_getElem hi]
  rfl
theorem u8_is {a : UInt8} (k : UInt8) : ((a.toNat : Int) = (k.toNat : Int)) ↔ a = k := by
  constructor
  · intro e; exact UInt8.toNat_inj.1 (by omega)
  · rintro rfl; rfl
/-- the answer, once the digits are counted -/
theorem scan_of {l r q : List UInt8} {n i sg : Nat} (hn : n ≤ l.length) (hr : l.drop n = r) (hsg : sgn r = sg) (hqq : r.drop sg = q) (hNi : nd q = i) :
    scan l (n : Int) = if i = 0 ∨ (q[0]? = some 48 ∧ (1 < i ∨ 0 < sg)) then (0, 0, 12) else if dv 0 (q.take i) ≤ 9223372036854775807 + sg then ((if sg = 1 then -(dv 0 (q.take i) : Int) else (dv 0 (q.take i) : Int)), ((n + sg + i : Nat) : Int), 0) else (0, 0, 7) := by
  subst hsg hNi
  unfold scan
  rw [if_neg (by omega)]
  simp only [Int.toNat_natCast, hr, hqq]
  by_cases c : nd q = 0 ∨ (q[0]? = some 48 ∧ (1 < nd q ∨ 0 < sgn r))
  · rw [if_pos c, if_pos c]
  · rw [if_neg c, if_neg c]
    have h0 : 0 < nd (r.drop (sgn r)) := by rw [hqq]; omega
    have := pI r h0 ((n + sgn r + nd q : Nat) : Int)
    rw [hqq] at this
    rw [← this]
    congr 1
end Go.Proofs.YtojlgfkjnkjcmaaDoor

/-
  The document's Read and Print.
-/
namespace Go.Proofs.YtojlgfkjnkjcmaaDoor
open Go.RowKit
open Sy
set_option linter.unusedVariables false
set_option linter.unusedSimpArgs false
set_option maxRecDepth 100000
set_option maxHeartbeats 4000000

theorem scan_end {l : List UInt8} (x : Int × Int × Int) (h : scan l 0 = x) : x.2.1 ≤ l.length := by
  unfold scan at h
  split at h
  · subst h; simp
  · simp only [Int.toNat_zero, List.drop_zero] at h
    split at h
    · subst h; simp
    · have h1 := sgn_le l
      have h2 := nd_le (l.drop (sgn l))
      rw [List.length_drop] at h2
      unfold numOf at h
      split at h
      · subst h; simp only; omega
      · subst h; simp
def dg (u : Nat) : List UInt8 := if u = 0 then [] else Lib.decDigits u
theorem dg_step {u : Nat} (h : 0 < u) : dg u = dg (u / 10) ++ [UInt8.ofNat (48 + u % 10)] := by
  have h0 : u ≠ 0 := by omega
  unfold dg
  rw [if_neg h0, Lib.decDigits]
  split
  · rw [if_pos (by omega), Nat.mod_eq_of_lt (by omega)]; rfl
  · rw [if_neg (by omega)]
end Go.Proofs.YtojlgfkjnkjcmaaDoor

/-
  NumScans.
-/
namespace Go.Proofs.YtojlgfkjnkjcmaaDoor
open Go.RowKit
open Sy
set_option linter.unusedVariables false
set_option linter.unusedSimpArgs false
set_option maxRecDepth 100000
set_option maxHeartbeats 4000000

end Go.Proofs.YtojlgfkjnkjcmaaDoor

/-
  A number's text is read as the number, and only its own text is.
-/
namespace Go.Proofs.YtojlgfkjnkjcmaaDoor
open Go.RowKit
open Sy
set_option linter.unusedVariables false
set_option linter.unusedSimpArgs false
set_option maxRecDepth 100000
set_option maxHeartbeats 4000000

theorem dec_one {u : Nat} (h : u < 10) : Lib.decDigits u = [UInt8.ofNat (48 + u)] := by rw [Lib.decDigits, dif_pos h]
theorem dec_more {u : Nat} (h : ¬ u < 10) : Lib.decDigits u = Lib.decDigits (u / 10) ++ [UInt8.ofNat (48 + u % 10)] := by rw [Lib.decDigits, dif_neg h]
theorem dig_nat {k : Nat} (h : k < 10) : (UInt8.ofNat (48 + k)).toNat = 48 + k := by rw [UInt8.toNat_ofNat']; omega
/-- digits, no needless 0 ahead, and the value -/
theorem dec_facts : ∀ u : Nat, (∀ c ∈ Lib.decDigits u, isD c = true) ∧ dv 0 (Lib.decDigits u) = u ∧ Lib.decDigits u ≠ [] ∧ ((Lib.decDigits u)[0]? = some 48 → u = 0) := by
  intro u
  induction u using Nat.strongRecOn with
  | _ u ih =>
    by_cases c : u < 10
    · rw [dec_one c]
      refine ⟨fun x hx => ?_, ?_, by simp, fun h => ?_⟩
      · simp only [List.mem_singleton] at hx
        subst hx
        rw [isD_iff, dig_nat c]
        omega
      · show 0 * 10 + ((UInt8.ofNat (48 + u)).toNat - 48) = u
        rw [dig_nat c]; omega
      · simp only [List.getElem?_cons_zero, Option.some.injEq] at h
        have := dig_nat c
        rw [h] at this
        have e : (48 : UInt8).toNat = 48 := rfl
        omega
    · obtain ⟨h1, h2, h3, h4⟩ := ih (u / 10) (by omega)
      rw [dec_more c]
      have hm : u % 10 < 10 := Nat.mod_lt _ (by omega)
      refine ⟨fun x hx => ?_, ?_, by simp, fun h => ?_⟩
      · rcases List.mem_append.1 hx with hx | hx
        · exact h1 x hx
        · simp only [List.mem_singleton] at hx
          subst hx
          rw [isD_iff, dig_nat hm]
          omega
      · rw [dv_append, h2]
        show u / 10 * 10 + ((UInt8.ofNat (48 + u % 10)).toNat - 48) = u
        rw [dig_nat hm]; omega
      · have hp : 0 < (Lib.decDigits (u / 10)).length := List.length_pos_iff.2 h3
        rw [List.getElem?_append_left hp] at h
        have := h4 h
        omega
theorem nd_pre : ∀ {ds rest : List UInt8}, (∀ c ∈ ds, isD c = true) → (∀ c, rest[0]? = some c → isD c = false) → nd (ds ++ rest) = ds.length
  | [], [], _, _ => rfl
  | [], c :: rest, _, h => by
    show (if isD c = true then _ else _) = _
    rw [h c rfl]
    rfl
  | c :: ds, rest, h, h' => by
    show (if isD c = true then nd (ds ++ rest) + 1 else 0) = _
    rw [if_pos (h c List.mem_cons_self), nd_pre (fun x hx => h x (List.mem_cons_of_mem _ hx)) h']
    rfl
/-- a number's text, with something behind that is no digit -/
theorem scan_itoa (n : Int) (h0 : -9223372036854775808 ≤ n) (h1 : n ≤ 9223372036854775807) (rest : List UInt8) (hr : ∀ c, rest[0]? = some c → isD c = false) : scan (Lib.itoa n ++ rest) 0 = (n, ((Lib.itoa n).length : Int), 0) := by
  obtain ⟨f1, f2, f3, f4⟩ := dec_facts n.natAbs
  have hl := List.length_pos_iff.2 f3
  have hnd := nd_pre f1 hr
  by_cases c : n < 0
  · have e : Lib.itoa n = 45 :: Lib.decDigits n.natAbs := by unfold Lib.itoa; rw [if_pos c]
    have hs : sgn (Lib.itoa n ++ rest) = 1 := by rw [e]; rfl
    have hq : (Lib.itoa n ++ rest).drop 1 = Lib.decDigits n.natAbs ++ rest := by rw [e]; rfl
    have := scan_of (l := Lib.itoa n ++ rest) (n := 0) (Nat.zero_le _) rfl hs hq hnd
    rw [show ((0 : Nat) : Int) = 0 from rfl] at this
    rw [this, if_neg, List.take_left, f2, if_pos (by omega), e]
    · simp only [if_true, List.length_cons]
      refine Prod.ext (by simp only; omega) (Prod.ext (by simp only; omega) rfl)
    · rw [List.getElem?_append_left hl]
      rintro (h | ⟨h, _⟩)
      · omega
      · have := f4 h; omega
  · have e : Lib.itoa n = Lib.decDigits n.natAbs := by
      unfold Lib.itoa
      rw [if_neg c, show n.toNat = n.natAbs by omega]
    have hs : sgn (Lib.itoa n ++ rest) = 0 := by
      rw [e]
      unfold sgn
      rw [if_neg]
      rw [List.head?_eq_getElem?, List.getElem?_append_left hl, List.getElem?_eq_getElem hl, Option.some.injEq]
      intro h
      have h5 := isD_iff.1 (f1 _ (List.getElem_mem hl))
      rw [h] at h5
      have e : (45 : UInt8).toNat = 45 := rfl
      omega
    have hq : (Lib.itoa n ++ rest).drop 0 = Lib.decDigits n.natAbs ++ rest := by rw [e]; rfl
    have := scan_of (l := Lib.itoa n ++ rest) (n := 0) (Nat.zero_le _) rfl hs hq hnd
    rw [show ((0 : Nat) : Int) = 0 from rfl] at this
    rw [this, if_neg, List.take_left, f2, if_pos (by omega), e]
    · refine Prod.ext (by simp; omega) (Prod.ext (by simp) rfl)
    · rw [List.getElem?_append_left hl]
      rintro (h | ⟨h, h2 | h2⟩)
      · omega
      · have h5 := f4 h
        rw [h5, dec_one (by omega)] at h2
        simp at h2
      · omega
theorem read_itoa (n : Int) (h0 : -9223372036854775808 ≤ n) (h1 : n ≤ 9223372036854775807) : read (Lib.itoa n) = (n, 0) := by
  have := scan_itoa n h0 h1 [] (by simp)
  rw [List.append_nil] at this
  unfold read
  rw [this]
  simp
end Go.Proofs.YtojlgfkjnkjcmaaDoor

/-
  NumPrints, NumReads: the walks.
-/
namespace Go.Proofs.YtojlgfkjnkjcmaaDoor
open Go.RowKit
open Sy
set_option linter.unusedVariables false
set_option linter.unusedSimpArgs false
set_option maxRecDepth 100000
set_option maxHeartbeats 4000000

theorem dv_pos {a : UInt8} {l : List UInt8} (h : isD a = true) (h0 : a ≠ 48) : 0 < dv 0 (a :: l) := by
  have h1 := dv_le l (0 * 10 + (a.toNat - 48))
  have h2 := isD_iff.1 h
  have h3 : a.toNat ≠ 48 := fun e => h0 (UInt8.toNat_inj.1 (by rw [e]; rfl))
  show 0 < dv (0 * 10 + (a.toNat - 48)) l
  omega
theorem dec_dv : ∀ (n : Nat) (ds : List UInt8), ds.length = n → (∀ c ∈ ds, isD c = true) → ds ≠ [] → (ds[0]? = some 48 → ds.length = 1) → Lib.decDigits (dv 0 ds) = ds := by
  intro n
  induction n with
  | zero => intro ds hl hd hne; exact absurd (List.length_eq_zero_iff.1 hl) hne
  | succ n ih =>
    intro ds hl hd hne h48
    obtain ⟨bs1, c, rfl⟩ : ∃ bs1 c, ds = bs1 ++ [c] := ⟨ds.dropLast, ds.getLast hne, (List.dropLast_concat_getLast hne).symm⟩
    have hc := isD_iff.1 (hd c (by simp))
    have hcc : UInt8.ofNat (48 + (c.toNat - 48)) = c := by
      apply UInt8.toNat_inj.1
      rw [UInt8.toNat_ofNat']
      omega
    rw [dv_append]
    show Lib.decDigits (dv 0 bs1 * 10 + (c.toNat - 48)) = _
    cases bs1 with
    | nil =>
      show Lib.decDigits (0 * 10 + (c.toNat - 48)) = [c]
      rw [Nat.zero_mul, Nat.zero_add, dec_one (by omega), hcc]
    | cons a bs1 =>
      have ha : a ≠ 48 := fun e => by
        subst e
        have := h48 (by simp)
        simp at this
      have hp := dv_pos (l := bs1) (hd a (by simp)) ha
      have hi := ih (a :: bs1) (by simpa using hl) (fun x hx => hd x (List.mem_append_left _ hx)) (by simp) (fun h => by simp at h; exact absurd h ha)
      rw [dec_more (by omega)]
      have e1 : (dv 0 (a :: bs1) * 10 + (c.toNat - 48)) / 10 = dv 0 (a :: bs1) := by omega
      have e2 : (dv 0 (a :: bs1) * 10 + (c.toNat - 48)) % 10 = c.toNat - 48 := by omega
      rw [e1, e2, hi, hcc]
/-- what is read is printed as it was -/
theorem itoa_read {l : List UInt8} {n : Int} (h : read l = (n, 0)) : Lib.itoa n = l := by
  have hs := scan_of (l := l) (r := l) (q := l.drop (sgn l)) (n := 0) (Nat.zero_le _) rfl rfl rfl rfl
  rw [show ((0 : Nat) : Int) = 0 from rfl] at hs
  unfold read at h
  have hq := nd_le (l.drop (sgn l))
  have hsl := sgn_le l
  have hlen : (l.drop (sgn l)).length = l.length - sgn l := by simp
  have hall := nd_all (l.drop (sgn l))
  by_cases c : nd (l.drop (sgn l)) = 0 ∨ ((l.drop (sgn l))[0]? = some 48 ∧ (1 < nd (l.drop (sgn l)) ∨ 0 < sgn l))
  · rw [if_pos c] at hs
    rw [hs] at h
    simp at h
  · rw [if_neg c] at hs
    split at hs
    · rename_i hv
      rw [hs] at h
      simp only [ne_eq, not_true_eq_false, if_false] at h
      split at h
      · simp at h
      · rename_i hlt
        have ht : (l.drop (sgn l)).take (nd (l.drop (sgn l))) = l.drop (sgn l) := List.take_of_length_le (by omega)
        rw [ht] at hall h
        have hdd := dec_dv _ (l.drop (sgn l)) rfl hall (fun e => c (.inl (by rw [e]; rfl))) (fun e => by
          by_cases c1 : 1 < nd (l.drop (sgn l))
          · exact absurd (.inr ⟨e, .inl c1⟩) c
          · omega)
        have hn : (if sgn l = 1 then -(dv 0 (l.drop (sgn l)) : Int) else (dv 0 (l.drop (sgn l)) : Int)) = n := (Prod.ext_iff.1 h).1
        cases l with
        | nil => simp [nd] at c
        | cons a l =>
          by_cases ca : a = 45
          · subst ca
            have e1 : sgn (45 :: l) = 1 := rfl
            rw [e1] at hn hdd hall c
            simp only [List.drop_succ_cons, List.drop_zero, if_true] at hn hdd hall c
            have hp : 0 < dv 0 l := by
              cases l with
              | nil => simp [nd] at c
              | cons b l =>
                refine dv_pos (hall b (by simp)) fun e => ?_
                subst e
                exact c (.inr ⟨rfl, .inr (by omega)⟩)
            unfold Lib.itoa
            rw [if_pos (by omega), show n.natAbs = dv 0 l by omega, hdd]
          · have e1 : sgn (a :: l) = 0 := by simp [sgn, ca]
            rw [e1] at hn hdd
            simp only [List.drop_zero, Nat.zero_ne_one, if_false] at hn hdd
            unfold Lib.itoa
            rw [if_neg (by omega), show n.toNat = dv 0 (a :: l) by omega, hdd]
    · rw [hs] at h
      simp at h
theorem read_rng {l : List UInt8} : -9223372036854775808 ≤ (read l).1 ∧ (read l).1 ≤ 9223372036854775807 := by
  have hs := scan_of (l := l) (r := l) (q := l.drop (sgn l)) (n := 0) (Nat.zero_le _) rfl rfl rfl rfl
  rw [show ((0 : Nat) : Int) = 0 from rfl] at hs
  have h1 : sgn l ≤ 1 := by unfold sgn; split <;> omega
  unfold read
  rw [hs]
  by_cases c : nd (l.drop (sgn l)) = 0 ∨ ((l.drop (sgn l))[0]? = some 48 ∧ (1 < nd (l.drop (sgn l)) ∨ 0 < sgn l))
  · rw [if_pos c]; simp
  · rw [if_neg c]
    split
    · rename_i hv
      simp only [ne_eq, not_true_eq_false, if_false]
      split
      · simp
      · simp only
        split <;> omega
    · simp

end Go.Proofs.YtojlgfkjnkjcmaaDoor

