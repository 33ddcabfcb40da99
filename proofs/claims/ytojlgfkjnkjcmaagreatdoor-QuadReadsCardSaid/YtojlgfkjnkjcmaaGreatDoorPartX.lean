/-
  Texts of the proofs, one behind the other: SyBld, Bld, BldS.
-/
import Derived.Test.YtojlgfkjnkjcmaaGreatDoorPartZ
import Derived.Test.YtojlgfkjnkjcmaaGreatDoorPartB
import Derived.Lib.Builder
import Derived.Lib.AppendStr
import Derived.Lib.UnsafeStr
import Derived.Laws.Externs
import Derived.Test.YtojlgfkjnkjcmaaGreatDoorPartA
/-
  Symbolic runs: a string appended to a row of bytes; a row made a string by unsafe.String; pointers by way of unsafe.Pointer.
-/
namespace Go.Proofs.YtojlgfkjnkjcmaaGreatDoor
open Go.RowKit
namespace Sy
set_option linter.unusedVariables false
set_option linter.unusedSimpArgs false

theorem run_append_appS {P : Program} (w : World) (t u ty e : TypeId) (i : TypeInfo) (ht : P.underlying t = some (.slice e)) (hu : P.underlying u = some .string) (hi : P.info? e = some i) (hz : i.zero = some (.int .u8 0)) (hsize : i.size = 1) (hby : i.bytes = 1)
    (v : Value) (n : Nat) (xs : List Value) (hown : w.ownsRow 0 e 1 v n xs) (s : ByteArray) (h63 : n + s.size ≤ maxLen) (hbytes : n + s.size ≤ 140737488355328) :
    ∃ v' w', (Builtin.append_ #[t, u] ty #[v, .string s]).run P w = .ok v' w' ∧ w'.ownsRow 0 e 1 v' (n + s.size) (xs ++ Lib.strCells s) ∧ w.grownBy w' v.ownBlock ∧ (v'.ownBlock = v.ownBlock ∨ ∃ g, v'.ownBlock = some g ∧ w.heap.size ≤ g) := by
  obtain ⟨v', w', hrun, hown', hg, hnil⟩ := Lib.run_append_own_string (P := P) w 0 t u ty e i ht hu hi hz hsize hby v n xs hown s h63 hbytes (Nat.zero_le _)
  refine ⟨v', w', hrun, hown', hg, ?_⟩
  have hsm : n + s.size ≤ 9223372036854775807 := by simp only [maxLen] at h63; omega
  rcases hown.2 with ⟨rfl, rfl⟩ | ⟨g, cap, cur, rfl, hbg, hgc, hnc, hcm, hcs, htake⟩
  · by_cases hm : s.size = 0
    · rw [hnil.2 ⟨rfl, hm⟩]; exact .inl rfl
    · have hr := run_append_nil_string (P := P) w t u ty e i (.int .u8 0) ht hu hi hz s (by omega) (by omega) (by rw [hby]; omega)
      rw [hrun] at hr
      injection hr with h1 h2
      rw [h1]
      exact .inr ⟨_, rfl, Nat.le_refl _⟩
  · by_cases hroom : n + s.size ≤ cap
    · have hr := Lib.run_append_room_string (P := P) w t u ty e i ht hu hi hsize g n cap cur hgc s hroom (by rw [hcs]; omega)
      rw [hrun] at hr
      injection hr with h1 h2
      rw [h1]
      exact .inl rfl
    · have hr := Lib.run_append_grow_string (P := P) w t u ty e i (.int .u8 0) ht hu hi hz ⟨g, 0, none⟩ n cap xs (by rw [hsize]; simpa using hown.1) (hown.cells (g := g) rfl) s (by omega) (by omega) (by rw [hby]; exact growslice_fits (by omega) (by omega))
      rw [hrun] at hr
      injection hr with h1 h2
      rw [h1]
      exact .inr ⟨_, rfl, Nat.le_refl _⟩

/-- append a string's bytes to a row of bytes of the call's own -/
theorem OpAt.appendS {G : Gl} {o : Oper} {st : St} {K : St → Prop} {t u e : TypeId} {s x : Operand} {i : TypeInfo} (v : Value) (n : Nat) (xs : List Value) (str : ByteArray) (rest : List HP)
    (ho : o.op = .call { callee := .builtin .append, args := #[s, x], argTypes := #[t, u] }) (hp : ∀ h, sepL st.h G.R h → sepL (rowH v n e 1 xs :: rest) G.R h) (hs : evR st s = v) (hx : evR st x = .string str) (hr : allR st o.op.operands.toList = true)
    (hu : G.P.underlying t = some (.slice e)) (hu2 : G.P.underlying u = some .string) (hi : G.P.info? e = some i) (hz : i.zero = some (.int .u8 0)) (hsize : i.size = 1) (hby : i.bytes = 1)
    (h63 : n + str.size ≤ maxLen) (hbytes : n + str.size ≤ 140737488355328)
    (k : ∀ A' c', putK G { st with h := rowH (.slice A' (n + str.size) c') (n + str.size) e 1 (xs ++ Lib.strCells str) :: rest } o.dst (.v (.slice A' (n + str.size) c')) none K) : OpAt G o st K := by
  refine OpAt.sem (pre := [rowH v n e 1 xs]) (post := fun v' hs => ∃ A' c', v' = .slice A' (n + str.size) c' ∧ hs = [rowH (.slice A' (n + str.size) c') (n + str.size) e 1 (xs ++ Lib.strCells str)]) rest hp (by rw [ho]; rfl) hr ?_ ?_
  · rintro R' hR' w ⟨h, hsub, h1', h2, d, rfl, hrow, hrest⟩
    have hown := rowH_own hrow hsub.left
    obtain ⟨v', w', hrun, hown', hg, hat⟩ := run_append_appS (P := G.P) w t u o.type e i hu hu2 hi hz hsize hby v n xs hown str h63 hbytes
    obtain ⟨A', c', rfl, _⟩ := own_shape' hown'
    obtain ⟨h1'', r1, s1, dom⟩ := own_rowH hown'
    have s2 : Sub h2 w' := fun j ob e' => by
      have hj := hsub.right d j ob e'
      have hlt := (Array.getElem?_eq_some_iff.1 hj).1
      rw [hg.block j hlt ?_]
      · exact hj
      · intro c0
        rcases d j with c1 | c1
        · exact rowH_ne hrow c0.symm c1
        · rw [c1] at e'; cases e'
    refine ⟨_, _, w', ?_, ⟨A', c', rfl, rfl⟩, ⟨_, s1.un s2, h1'', h2, fun j => ?_, rfl, r1, hrest⟩, ⟨hg.os, hg.tape, hg.output, hg.size⟩⟩
    · have ha : (#[s, x] : Array Operand).map (evR st) = #[v, .string str] := by simp [hs, hx]
      simp only [execOp, ho, resolve, invoke, builtin, Sem.run_bind, Sem.run_pure, Result.andThen_ok, ha, hrun]
    · by_cases c0 : h1'' j = none
      · exact .inl c0
      · right
        have hj := (dom j c0).1
        rcases hat with hat | ⟨g, hat, hge⟩
        · rw [hat] at hj
          rcases d j with c1 | c1
          · exact absurd c1 (rowH_ne hrow hj)
          · exact c1
        · rw [hat] at hj
          injection hj with hj
          subst hj
          exact (hsub.right d).none hge
  · rintro v' hs' ⟨A', c', rfl, rfl⟩
    exact k A' c'

/-- the bytes as cells -/
abbrev byV (l : List UInt8) : List Value := l.map fun b => .int .u8 (b.toNat : Int)
theorem strCells_bs (l : List UInt8) : Lib.strCells (bs l) = byV l := rfl
theorem size_bs (l : List UInt8) : (bs l).size = l.length := rfl

/-- unsafe.String over a whole row of bytes: the row is gone behind it -/
theorem OpAt.unsafeStr {G : Gl} {o : Oper} {st : St} {K : St → Prop} {pt it e : TypeId} {p x : Operand} (g cap : Nat) (l : List UInt8) (rest : List HP)
    (ho : o.op = .call { callee := .builtin .unsafeString, args := #[p, x], argTypes := #[pt, it] }) (hp : ∀ h, sepL st.h G.R h → sepL (rowH (.slice (some ⟨g, 0, none⟩) l.length cap) l.length e 1 (byV l) :: rest) G.R h)
    (hq : evR st p = .pointer (some ⟨g, 0, none⟩)) (hx : evR st x = .int .i64 (l.length : Int)) (hr : allR st o.op.operands.toList = true) (hu : G.P.underlying pt = some (.pointer e)) (hc : G.P.cellsOf e = 1) (h0 : l ≠ []) (h63 : l.length ≤ 9223372036854775807)
    (k : putK G { st with h := rest } o.dst (.v (.string (bs l))) none K) : OpAt G o st K := by
  refine OpAt.sem (pre := [rowH (.slice (some ⟨g, 0, none⟩) l.length cap) l.length e 1 (byV l)]) (post := fun v' hs => v' = .string (bs l) ∧ hs = []) rest hp (by rw [ho]; rfl) hr ?_ ?_
  · rintro R' hR' w ⟨h, hsub, h1', h2, d, rfl, hrow, hrest⟩
    obtain ⟨hl, r⟩ := hrow
    rcases r with ⟨c, _⟩ | ⟨g', cap', cur, e1, e2, e3, e4, e5, e6⟩
    · cases c
    injection e1 with e1 _ e1'
    injection e1 with e1
    injection e1 with e1
    subst e1
    have hb : w.heap[g]? = some (.cells cur e (0, 0)) := hsub.left g _ (by rw [e2]; simp)
    have hcell : ∀ j x, l[j]? = some x → w.cell? ((⟨g, 0, none⟩ : Addr).add j) = some (.int .u8 x.toNat) := fun j x hj => by
      have h3 : cur.toList[j]? = some (.int .u8 (x.toNat : Int)) := by
        have h4 : (cur.toList.take (l.length * 1))[j]? = some (.int .u8 (x.toNat : Int)) := by rw [e6]; simp [hj]
        rw [List.getElem?_take] at h4
        split at h4
        · exact h4
        · cases h4
      have : (⟨g, 0, none⟩ : Addr).add j = ⟨g, j, none⟩ := by cases j <;> simp [Addr.add]
      rw [this]
      unfold World.cell?
      rw [hb]
      simpa using h3
    have hlen : l.length ≤ cur.size := by rw [e5]; omega
    have hrun := Lib.run_unsafeString_row (P := G.P) w pt it o.type e hu hc g cur.size (by simp [World.shape?, hb]) l h0 hlen h63 hcell
    refine ⟨_, [], w.freeze ⟨g, 0, none⟩ l.length, ?_, ⟨rfl, rfl⟩, ⟨h2, fun j ob e' => ?_, hrest⟩, ?_⟩
    · have ha : (#[p, x] : Array Operand).map (evR st) = #[.pointer (some ⟨g, 0, none⟩), .int .i64 (l.length : Int)] := by simp [hq, hx]
      simp only [execOp, ho, resolve, invoke, builtin, Sem.run_bind, Sem.run_pure, Result.andThen_ok, ha, hrun]
      rfl
    · have hj := hsub.right d j ob e'
      have hne : j ≠ g := fun c => by
        subst c
        rcases d j with c1 | c1
        · rw [e2] at c1; simp at c1
        · rw [c1] at e'; cases e'
      unfold World.freeze
      split
      · exact hj
      · simp only [Array.getElem?_modify]
        rw [if_neg (fun c => hne c.symm)]
        exact hj
    · unfold World.freeze
      split
      · exact Wd.refl _
      · exact ⟨rfl, rfl, rfl, by simp⟩
  · rintro v' hs' ⟨rfl, rfl⟩
    exact k
/-- a conversion that the model's own text runs -/
theorem OpAt.conv {G : Gl} {o : Oper} {st : St} {K : St → Prop} {src dst : TypeId} {x : Operand} {v r : Value} (ho : o.op = .convert src dst x) (hx : evR st x = v) (hr : allR st o.op.operands.toList = true)
    (hrun : ∀ w, Sat (sepL st.h G.R) w → (convert src dst v).run G.P w = .ok r w) (k : putK G st o.dst (.v r) none K) : OpAt G o st K := by
  refine OpAt.val r (by rw [ho]; rfl) hr (fun w sat => ?_) k
  simp only [execOp, ho, hx, Sem.run_bind, hrun w sat, Result.andThen_ok, Sem.run_pure]
  try rfl
/-- internal/abi.NoEscape -/
theorem OpAt.noEscape {G : Gl} {o : Oper} {st : St} {K : St → Prop} {x y : Operand} {ts : Array TypeId} {v : Value} {f : FuncId} {fn : Func} (ho : o.op = .call { callee := .value x, args := #[y], argTypes := ts }) (hx : evR st x = .func (.func f) #[] #[]) (hy : evR st y = v) (hr : allR st o.op.operands.toList = true)
    (hf : G.P.funcs[f]? = some fn) (hname : (fn.name == "runtime.NumGoroutine") = false) (hb : fn.body.isNone = true) (hn : Extern.findNext fn = none) (he : Extern.find fn = some Extern.AbiNoEscape.same) (k : putK G st o.dst (.v v) none K) : OpAt G o st K := by
  refine OpAt.val v (by rw [ho]; rfl) hr (fun w sat => ?_) k
  have hc := run_callFunc_extern hf hname hb hn he #[v] w
  rw [Lib.run_noEscape] at hc
  have ha : (#[y] : Array Operand).map (evR st) = #[v] := by simp [hy]
  simp only [execOp, ho, resolve, ha, hx, Sem.run_bind, Sem.run_pure, Result.andThen_ok, Deferred.ofValue, invoke, Array.append_empty, Array.empty_append]
  simpa using hc
/-- a pointer against itself -/
theorem OpAt.ptrNe {G : Gl} {o : Oper} {st : St} {K : St → Prop} {t ty te : TypeId} {x y : Operand} {j : TypeInfo} (a : Addr) (ho : o.op = .binOp .neq t x y ty) (hx : evR st x = .pointer (some a)) (hy : evR st y = .pointer (some a)) (hr : allR st o.op.operands.toList = true)
    (hp : G.P.underlying t = some (.pointer te)) (hte : G.P.info? te = some j) (k : putK G st o.dst (.v (.bool false)) none K) : OpAt G o st K := by
  refine OpAt.val (.bool false) (by rw [ho]; rfl) hr (fun w sat => ?_) k
  have h := Lib.run_neq_ptr_same (P := G.P) w a hp hte
  simp [execOp, ho, hx, hy, eqGuard, h]
end Sy
end Go.Proofs.YtojlgfkjnkjcmaaGreatDoor

/-
  strings.Builder: copyCheck, WriteString, WriteRune (of one byte), String.
-/
namespace Go.Proofs.YtojlgfkjnkjcmaaGreatDoor
open Go.RowKit
open Sy
set_option linter.unusedVariables false
set_option linter.unusedSimpArgs false
set_option maxRecDepth 100000
set_option maxHeartbeats 4000000

def bldA (b : Nat) (u : Bool) : Value := .pointer (if u = true then some ⟨b, 0, none⟩ else none)
abbrev bldHd (b : Nat) (u : Bool) (s : Value) : HP := blkH b 92 #[bldA b u, s]
def bldP (b : Nat) (l : List UInt8) (x : Bool × Option Addr × Nat) : List HP := [bldHd b x.1 (.slice x.2.1 l.length x.2.2), rowH (.slice x.2.1 l.length x.2.2) l.length 5 1 (byV l)]
/-- a builder that holds bytes -/
def bldH (b : Nat) (l : List UInt8) : HP := boxH (bldP b l)
theorem bld_new {R : HP} {b : Nat} {L : List HP} {h : Hl} (s : sepL (blkH b 92 #[.pointer none, .slice none 0 0] :: L) R h) : sepL (bldH b [] :: L) R h := by
  refine boxH_shut (parts := bldP b []) (false, none, 0) ?_
  exact sepL_perm (List.Perm.swap _ _ _) (row_nil (R := sepL (blkH b 92 #[.pointer none, .slice none 0 0] :: L) R) _ _ s)
theorem sCopyCheckU {R : HP} {b : Nat} {s : Value} : FnR Tryz.prog R 68 [.pointer (some ⟨b, 0, none⟩)] [bldHd b true s] fun r hs => r = .tuple #[] ∧ hs = [bldHd b true s] := by
  refine fn_of_run0 false Tryz.func68 rfl hmix rfl fun w0 => ?_
  conv => whnf
  refine ⟨trivial, LoadAt.cell (.pointer (some ⟨b, 0, none⟩)) rfl rfl (fun w hw => (blk_sat (show Sat (bldHd b true s) w from hw.in_ 0 rfl)).cell 0) ?_⟩
  conv => whnf
  refine ⟨trivial, LoadAt.cell (.pointer (some ⟨b, 0, none⟩)) rfl rfl (fun w hw => (blk_sat (show Sat (bldHd b true s) w from hw.in_ 0 rfl)).cell 0) ?_⟩
  conv => whnf
  refine ⟨trivial, OpAt.ptrNe ⟨b, 0, none⟩ rfl rfl rfl rfl Tryz.underlying89 rfl ?_⟩
  conv => whnf
  repeat (first | (refine ⟨fun _ => ?_, fun h => absurd h (by decide)⟩; conv => whnf) | (refine ⟨fun h => absurd h (by decide), fun _ => ?_⟩; conv => whnf))
  exact ⟨trivial, .mk _ (fun w s => s) ⟨rfl, rfl⟩⟩
theorem sCopyCheckF {R : HP} {b : Nat} {s : Value} : FnR Tryz.prog R 68 [.pointer (some ⟨b, 0, none⟩)] [bldHd b false s] fun r hs => r = .tuple #[] ∧ hs = [bldHd b true s] := by
  refine fn_of_run0 false Tryz.func68 rfl hmix rfl fun w0 => ?_
  conv => whnf
  refine ⟨trivial, LoadAt.cell (.pointer none) rfl rfl (fun w hw => (blk_sat (show Sat (bldHd b false s) w from hw.in_ 0 rfl)).cell 0) ?_⟩
  conv => whnf
  refine ⟨trivial, OpAt.conv (r := .pointer (some ⟨b, 0, none⟩)) rfl rfl rfl (fun w hw => ?_) ?_⟩
  · have hb := blk_sat (show Sat (bldHd b false s) w from hw.in_ 0 rfl)
    have hb' : w.heap[b]? = _ := hb
    exact Lib.run_to_unsafe w ⟨b, 0, none⟩ Tryz.underlying89 Tryz.underlying156 rfl (of_decide_eq_true (by kernel_rfl)) (e := 92) (cells := 2) (by simp [World.shape?, hb']) (Nat.zero_lt_succ 1)
  conv => whnf
  refine ⟨trivial, OpAt.noEscape (f := 86) rfl rfl rfl rfl rfl (by kernel_rfl) (by kernel_rfl) (by kernel_rfl) (by kernel_rfl) ?_⟩
  conv => whnf
  refine ⟨trivial, OpAt.conv (r := .pointer (some ⟨b, 0, none⟩)) rfl rfl rfl (fun w hw => ?_) ?_⟩
  · have hb := blk_sat (show Sat (bldHd b false s) w from hw.in_ 0 rfl)
    have hb' : w.heap[b]? = _ := hb
    exact Lib.run_from_unsafe w ⟨b, 0, none⟩ Tryz.underlying156 Tryz.underlying89 rfl (e := 92) (cells := 2) (by simp [World.shape?, hb']) (by kernel_rfl)
  conv => whnf
  refine ⟨trivial, OpAt.store b 0 (.pointer (some ⟨b, 0, none⟩)) _ rfl (fun h s => s) rfl rfl rfl rfl rfl (by simp [Value.cells, Value.oneCell']) (fun h r => blk_put (by show 0 + 1 ≤ 2; omega) r) ?_⟩
  conv => whnf
  exact ⟨trivial, .mk _ (fun w s => s) ⟨rfl, rfl⟩⟩
theorem sWriteString {R : HP} {b : Nat} {l : List UInt8} (m : List UInt8) (hl : l.length + m.length ≤ 1000000) :
    FnR Tryz.prog R 44 [.pointer (some ⟨b, 0, none⟩), .string (bs m)] [bldH b l] fun r hs => r = .tuple #[.int .i64 (m.length : Int), .nilIface] ∧ hs = [bldH b (l ++ m)] := by
  refine FnR.unbox fun ⟨u, A, c⟩ => ?_
  rw [List.append_nil]
  have hcc : ∀ R', FnR Tryz.prog R' 68 [.pointer (some ⟨b, 0, none⟩)] [bldHd b u (.slice A l.length c)] fun r hs => r = .tuple #[] ∧ hs = [bldHd b true (.slice A l.length c)] := fun R' => by
    cases u
    · exact sCopyCheckF
    · exact sCopyCheckU
  refine fn_of_run0 false Tryz.func44 rfl hmix rfl fun w0 => ?_
  conv => whnf
  refine ⟨trivial, CallAt.fn (pre := [bldHd b u (.slice A l.length c)]) _ (fun h s => s) (fun R' hR' => hcc R') ?_⟩
  rintro r hs ⟨rfl, rfl⟩
  conv => whnf
  refine ⟨trivial, LoadAt.cell (.slice A l.length c) rfl rfl (fun w hw => (blk_sat (show Sat (bldHd b true (.slice A l.length c)) w from hw.in_ 0 rfl)).cell 1) ?_⟩
  conv => whnf
  refine ⟨trivial, OpAt.appendS (.slice A l.length c) l.length (byV l) (bs m) _ rfl (fun h s => sepL_pull 1 s) rfl rfl rfl rfl rfl rfl rfl rfl rfl (by simp only [maxLen]; rw [size_bs]; omega) (by rw [size_bs]; omega) fun A' c' => ?_⟩
  rw [size_bs, strCells_bs]
  conv => whnf
  refine ⟨trivial, OpAt.store b 1 (.slice A' (l.length + m.length) c') _ rfl (fun h s => sepL_pull 1 s) rfl rfl rfl rfl rfl (by simp [Value.cells, Value.oneCell']) (fun h r => blk_put (by show 1 + 1 ≤ 2; omega) r) ?_⟩
  conv => whnf
  refine ⟨trivial, .mk [bldH b (l ++ m)] (fun w ⟨h, hs, s⟩ => ⟨h, hs, boxH_shut (parts := bldP b (l ++ m)) (true, A', c') ?_⟩) ⟨rfl, rfl⟩⟩
  rw [List.append_nil]
  unfold bldP
  rw [List.length_append]
  have e : byV (l ++ m) = byV l ++ byV m := List.map_append
  rw [e]
  exact s
theorem sAppendRune1 {R : HP} {A : Option Addr} {n c : Nat} {xs : List Value} (x : UInt8) (hx : x.toNat ≤ 127) (hn : n ≤ 1000000) :
    FnR Tryz.prog R 146 [.slice A n c, .int .i32 (x.toNat : Int)] [rowH (.slice A n c) n 5 1 xs] fun r hs => ∃ A' c', r = .slice A' (n + 1) c' ∧ hs = [rowH (.slice A' (n + 1) c') (n + 1) 5 1 (xs ++ byV [x])] := by
  have w1 : IntKind.u32.wrap (x.toNat : Int) = (x.toNat : Int) := IntWalk.u32_in _ ⟨by omega, by omega⟩
  have w2 : IntKind.u8.wrap (x.toNat : Int) = (x.toNat : Int) := IntWalk.u8_in _ ⟨by omega, by omega⟩
  refine fn_of_run0 false Tryz.func146 rfl hmix rfl fun w0 => ?_
  conv => whnf
  rw [w1]
  refine iff_t (decide_eq_true (by omega)) ?_
  conv => whnf
  rw [w2]
  refine ⟨trivial, OpAt.lit (byV [x]) 1 rfl rfl rfl rfl rfl (by decide) rfl rfl rfl (by simp [Value.cells]) rfl (by decide) fun g => ?_⟩
  conv => whnf
  refine ⟨trivial, OpAt.append1 (.slice A n c) n 1 1 xs (byV [x]) (some ⟨g, 0, none⟩) 1 1 _ rfl (fun h s => sepL_pull 1 s) rfl rfl rfl rfl rfl rfl rfl rfl rfl (by decide) (fun w hw => rowH_reads rfl (Sat.left hw)) (by simp [Value.oneCell']) (by simp only [maxLen]; omega) (by omega) (by omega) fun A' c' => ?_⟩
  conv => whnf
  exact ⟨trivial, .mk [rowH (.slice (some ⟨A', 0, none⟩) (n + 1) c') (n + 1) 5 1 (xs ++ byV [x])] (fun w ⟨h, hs, s⟩ => by obtain ⟨h', e, s'⟩ := sub_drop1 s; exact ⟨h', hs.mono e, s'⟩) ⟨_, _, rfl, rfl⟩⟩
theorem sWriteRune1 {R : HP} {b : Nat} {l : List UInt8} (x : UInt8) (hx : x.toNat ≤ 127) (hl : l.length ≤ 1000000) :
    FnR Tryz.prog R 145 [.pointer (some ⟨b, 0, none⟩), .int .i32 (x.toNat : Int)] [bldH b l] fun r hs => r = .tuple #[.int .i64 1, .nilIface] ∧ hs = [bldH b (l ++ [x])] := by
  refine FnR.unbox fun ⟨u, A, c⟩ => ?_
  rw [List.append_nil]
  have hcc : ∀ R', FnR Tryz.prog R' 68 [.pointer (some ⟨b, 0, none⟩)] [bldHd b u (.slice A l.length c)] fun r hs => r = .tuple #[] ∧ hs = [bldHd b true (.slice A l.length c)] := fun R' => by
    cases u
    · exact sCopyCheckF
    · exact sCopyCheckU
  refine fn_of_run0 false Tryz.func145 rfl hmix rfl fun w0 => ?_
  conv => whnf
  refine ⟨trivial, CallAt.fn (pre := [bldHd b u (.slice A l.length c)]) _ (fun h s => s) (fun R' hR' => hcc R') ?_⟩
  rintro r hs ⟨rfl, rfl⟩
  conv => whnf
  refine ⟨trivial, LoadAt.cell (.slice A l.length c) rfl rfl (fun w hw => (blk_sat (show Sat (bldHd b true (.slice A l.length c)) w from hw.in_ 0 rfl)).cell 1) ?_⟩
  conv => whnf
  refine ⟨trivial, LoadAt.cell (.slice A l.length c) rfl rfl (fun w hw => (blk_sat (show Sat (bldHd b true (.slice A l.length c)) w from hw.in_ 0 rfl)).cell 1) ?_⟩
  conv => whnf
  refine ⟨trivial, CallAt.fn (pre := [rowH (.slice A l.length c) l.length 5 1 (byV l)]) _ (fun h s => sepL_pull 1 s) (fun R' hR' => sAppendRune1 x hx hl) ?_⟩
  rintro r hs ⟨A', c', rfl, rfl⟩
  conv => whnf
  refine ⟨trivial, OpAt.store b 1 (.slice A' (l.length + 1) c') _ rfl (fun h s => sepL_pull 1 s) rfl rfl rfl rfl rfl (by simp [Value.cells, Value.oneCell']) (fun h r => blk_put (by show 1 + 1 ≤ 2; omega) r) ?_⟩
  conv => whnf
  refine ⟨trivial, LoadAt.cell (.slice A' (l.length + 1) c') rfl rfl (fun w hw => (blk_sat (show Sat (bldHd b true (.slice A' (l.length + 1) c')) w from hw.in_ 0 rfl)).cell 1) ?_⟩
  conv => whnf
  have e1 : ((l.length + 1 : Nat) : Int) - (l.length : Int) = 1 := by omega
  rw [e1]
  refine ⟨⟨trivial, by unfold rng; omega⟩, .mk [bldH b (l ++ [x])] (fun w ⟨h, hs, s⟩ => ⟨h, hs, boxH_shut (parts := bldP b (l ++ [x])) (true, A', c') ?_⟩) ⟨rfl, rfl⟩⟩
  rw [List.append_nil]
  unfold bldP
  rw [List.length_append]
  have e : byV (l ++ [x]) = byV l ++ byV [x] := List.map_append
  rw [e]
  exact s
end Go.Proofs.YtojlgfkjnkjcmaaGreatDoor

/-
  strings.Builder: the string. tint.Print.
-/
namespace Go.Proofs.YtojlgfkjnkjcmaaGreatDoor
open Go.RowKit
open Sy
set_option linter.unusedVariables false
set_option linter.unusedSimpArgs false
set_option maxRecDepth 100000
set_option maxHeartbeats 4000000

theorem row_capS {A : Option Addr} {n c size : Nat} {e : TypeId} {xs : List Value} {w : World} (s : Sat (rowH (.slice A n c) n e size xs) w) : n ≤ c := by
  obtain ⟨h, _, _, r⟩ := s
  rcases r with ⟨e, h0, _⟩ | ⟨g, cap, cur, e, _, h1, _⟩
  · omega
  · injection e with _ _ e
    omega
/-- where a slice's elements lie -/
theorem OpAt.sliceData {G : Gl} {o : Oper} {st : St} {K : St → Prop} {x : Operand} {t : TypeId} (a : Addr) (n c : Nat) (hc : c ≠ 0) (ho : o.op = .call { callee := .builtin .unsafeSliceData, args := #[x], argTypes := #[t] }) (hx : evR st x = .slice (some a) n c) (hr : allR st o.op.operands.toList = true) (k : putK G st o.dst (.v (.pointer (some a))) none K) : OpAt G o st K := by
  refine OpAt.val (.pointer (some a)) (by rw [ho]; rfl) hr (fun w sat => ?_) k
  have ha : (#[x] : Array Operand).map (evR st) = #[.slice (some a) n c] := by simp [hx]
  simp only [execOp, ho, resolve, invoke, builtin, Sem.run_bind, Sem.run_pure, Result.andThen_ok, ha, Lib.run_unsafeSliceData_row (P := G.P) w _ _ a n c hc]
  try rfl
theorem sBString {R : HP} {b : Nat} {l : List UInt8} (h0 : l ≠ []) (hl : l.length ≤ 1000000) :
    FnR Tryz.prog R 46 [.pointer (some ⟨b, 0, none⟩)] [bldH b l] fun r hs => r = .string (bs l) ∧ hs = [] := by
  refine FnR.unbox fun ⟨u, A, c⟩ => ?_
  rw [List.append_nil]
  refine FnR.of_sat fun wS hsat => ?_
  have hp : 0 < l.length := List.length_pos_iff.2 h0
  obtain ⟨ad, hA, _, _⟩ := (rowH_reads rfl (hsat.in_ 1 rfl)).2 hp
  obtain ⟨g, hg⟩ : ∃ g, A = some ⟨g, 0, none⟩ := by
    obtain ⟨h, _, _, r⟩ := hsat.in_ 1 rfl
    rcases r with ⟨e, _, _⟩ | ⟨g, _, _, e, _⟩
    · injection e with e
      rw [e] at hA
      cases hA
    · injection e with e
      exact ⟨g, e⟩
  subst hg
  clear hA
  have hcl : l.length ≤ c := row_capS (hsat.in_ 1 rfl)
  refine fn_of_run0 false Tryz.func46 rfl hmix rfl fun w0 => ?_
  conv => whnf
  refine ⟨trivial, RegAt.groups [([.T 0, .T 1, .T 2, .T 3, .T 5, .T 6, .T 7, .T 8, .T 9, .H 4], 10), ([.H 10], 11), ([.T 11], 12)] hmix (by kernel_rfl) ?_⟩
  conv => whnf
  refine ⟨trivial, LoadAt.cell (.slice (some ⟨g, 0, none⟩) l.length c) rfl rfl (fun w hw => (blk_sat (show Sat (bldHd b u (.slice (some ⟨g, 0, none⟩) l.length c)) w from hw.in_ 0 rfl)).cell 1) ?_⟩
  conv => whnf
  refine ⟨trivial, LoadAt.cell (.slice (some ⟨g, 0, none⟩) l.length c) rfl rfl (fun w hw => (blk_sat (show Sat (bldHd b u (.slice (some ⟨g, 0, none⟩) l.length c)) w from hw.in_ 0 rfl)).cell 1) ?_⟩
  conv => whnf
  refine ⟨trivial, OpAt.sliceData ⟨g, 0, none⟩ l.length c (by omega) rfl rfl rfl ?_⟩
  conv => whnf
  refine ⟨trivial, ⟨⟨rfl, rfl⟩, fun h s => sub_same s⟩, ?_⟩
  conv => whnf
  refine ⟨trivial, OpAt.unsafeStr g c l [bldHd b u (.slice (some ⟨g, 0, none⟩) l.length c)] rfl (fun h s => sepL_pull 1 s) rfl rfl rfl rfl rfl h0 (by omega) ?_⟩
  conv => whnf
  refine ⟨trivial, ?_⟩
  conv => whnf
  exact ⟨trivial, fin_drop rfl⟩
end Go.Proofs.YtojlgfkjnkjcmaaGreatDoor

