/-
  Texts of the proofs, one behind the other: OpenSl, SyBld, OpenFl, OpenRep, ScP, SyClear, SyMore, ScL.
-/
import Derived.Test.YtihkhomnhggifaaGreatDoorSPg03
import Derived.ProofKit
import Derived.OpenShut
import Derived.Lib.SmallJoins
import Derived.Deep.Slices
import Derived.Test.YtihkhomnhggifaaGreatDoorSPg02
import Derived.Lib.Builder
import Derived.Lib.AppendStr
import Derived.Lib.UnsafeStr
import Derived.Laws.Externs
import Derived.Deep.Strs
import Derived.ChangeArms
import Derived.Test.YtihkhomnhggifaaGreatDoorSPg05
import Derived.Lib.SliceRun
/-
  Slices of structs of numbers among the arguments.
-/
namespace Go.Proofs.YtihkhomnhggifaaGreatDoor
open Go.ChangeShapes Go.WideShapes Go.ChangeAt Go.RowKit Go.Joins
namespace Sy
set_option linter.unusedVariables false
set_option linter.unusedSimpArgs false

def leafF (g : TypeId → Nat → Option IntKind) (P : Program) (j : Nat) : List Field → Option IntKind
  | [] => none
  | f :: fs => if f.offset ≤ j ∧ j < f.offset + P.cellsOf f.type then g f.type (j - f.offset) else leafF g P j fs
/-- the kind of the number that is a type's cell -/
def leafK (P : Program) : Nat → TypeId → Nat → Option IntKind
  | 0, _, _ => none
  | d + 1, t, j => match P.underlying t with
    | some (.int k) => if j = 0 then some k else none
    | some (.struct fs) => leafF (leafK P d) P j fs.toList
    | _ => none
theorem leafF_some {g : TypeId → Nat → Option IntKind} {P : Program} {j : Nat} {k : IntKind} : ∀ {l : List Field}, leafF g P j l = some k → ∃ (i : Nat) (f : Field), l[i]? = some f ∧ f.offset ≤ j ∧ j < f.offset + P.cellsOf f.type ∧ g f.type (j - f.offset) = some k
  | [], h => by cases h
  | f :: fs, h => by
    unfold leafF at h
    split at h
    · rename_i hc
      exact ⟨0, f, rfl, hc.1, hc.2, h⟩
    · obtain ⟨i, f', h1, h2⟩ := leafF_some h
      exact ⟨i + 1, f', by simpa using h1, h2⟩
section
variable {H : Type} {enc : TypeId × Value → H} {P : Program} {w : World} {base : Nat} {spare : Nat → Bool} {held : Bool}
theorem trod_leaf : ∀ (d : Nat) {t : TypeId} {j : Nat} {k : IntKind} {fuel : Nat} {cs : List Value} {x : DataW H × List MemPlace}, leafK P d t j = some k → DataW.trod enc P w base spare held fuel t cs = some x → ∃ z, cs[j]? = some (.int k z) ∧ (Lit.int k z).wf = true
  | 0, t, j, k, fuel, cs, x, h, _ => by cases h
  | d + 1, t, j, k, fuel, cs, x, h, hx => by
    unfold leafK at h
    split at h
    · rename_i k' hu
      split at h
      · rename_i hj
        injection h with h
        subst h hj
        obtain ⟨z, e, _, hw⟩ := DataW.trod_int hu hx
        exact ⟨z, by rw [e]; rfl, hw⟩
      · cases h
    · rename_i fs hu
      obtain ⟨i, f, h1, h2, h3, h4⟩ := leafF_some h
      obtain ⟨xs, n, _, rfl, hl, hlen, hf⟩ := DataW.trod_struct hu hx
      have h1' : fs[i]? = some f := by simpa using h1
      have hf' := hf i f (by simpa using h1)
      have hlt : i < xs.length := by rw [hlen]; exact (Array.getElem?_eq_some_iff.1 h1').1
      rw [List.getElem?_eq_getElem hlt] at hf'
      obtain ⟨z, e, hw⟩ := trod_leaf d h4 hf'
      refine ⟨z, ?_, hw⟩
      rw [List.getElem?_take] at e
      split at e
      · rw [List.getElem?_drop] at e
        rw [← e]
        congr 1
        omega
      · cases e
    · cases h
/-- a slice of structs of numbers -/
theorem open_flat {t e : TypeId} {fuel : Nat} {cs : List Value} {x : DataW H × List MemPlace} (s : Nat) (ks : Nat → IntKind) (ht : P.underlying t = some (.slice e)) (hs : P.cellsOf e = s) (hk : ∀ j, j < s → leafK P 6 e j = some (ks j)) (h : DataW.trod enc P w base spare held fuel t cs = some x) :
    cs = [.slice none 0 0] ∨ ∃ (a : Addr) (len cap : Nat) (zs : Nat → Nat → Int), cs = [.slice (some a) len cap] ∧ len ≤ cap ∧ cap ≤ maxLen ∧ ∀ i j, i < len → j < s → w.cell? (a.add (i * s + j)) = some (.int (ks j) (zs i j)) ∧ (Lit.int (ks j) (zs i j)).wf = true := by
  rcases Go.Deep.open_slice ht h with ⟨h0, _⟩ | ⟨a, len, cap, m, n, D, Pl, rfl, hb, hl, hm, hmm, rfl, hx⟩
  · exact .inl h0
  right
  have hle : len ≤ m := by rw [hmm]; split <;> omega
  have key : ∀ i j, ∃ z, i < len → j < s → w.cell? (a.add (i * s + j)) = some (.int (ks j) z) ∧ (Lit.int (ks j) z).wf = true := by
    intro i j
    by_cases c : i < len ∧ j < s
    · obtain ⟨cs', h1, h2⟩ := hx i (by omega)
      obtain ⟨z, e, hw⟩ := trod_leaf 6 (hk j c.2) h2
      obtain ⟨_, hlen, hcell⟩ := World.cells?_some h1
      have hj : j < cs'.length := (List.getElem?_eq_some_iff.1 e).1
      refine ⟨z, fun _ _ => ⟨?_, hw⟩⟩
      have h3 := hcell j (by rw [← hlen]; exact hj)
      rw [e] at h3
      rw [hs, Addr.add_add] at h3
      exact h3
    · exact ⟨0, fun h1 h2 => absurd ⟨h1, h2⟩ c⟩
  exact ⟨a, len, cap, fun i j => Classical.choose (key i j), rfl, hl, hm, fun i j hi hj => Classical.choose_spec (key i j) hi hj⟩
end
/-- what such a slice reads as -/
theorem reads_flat {w : World} {a : Addr} {len s : Nat} {ks : Nat → IntKind} {zs : Nat → Nat → Int} (hs : 0 < s) (h : ∀ i j, i < len → j < s → w.cell? (a.add (i * s + j)) = some (.int (ks j) (zs i j)) ∧ (Lit.int (ks j) (zs i j)).wf = true) {xs : List Value} (hl : xs.length = len * s) (hx : ∀ i j, i < len → j < s → xs[i * s + j]? = some (.int (ks j) (zs i j))) :
    Reads w w.heap.size s (some a) len xs := by
  refine ⟨hl, fun hn => ⟨a, rfl, ?_, fun j u hu => ?_⟩⟩
  · have := (h 0 0 hn hs).1
    have := World.block_lt_of_cell? w _ this
    rwa [add_block] at this
  · have hj : j < len * s := by rw [← hl]; exact (List.getElem?_eq_some_iff.1 hu).1
    have h1 : j / s < len := Nat.div_lt_of_lt_mul (by rw [Nat.mul_comm]; exact hj)
    have h2 : j % s < s := Nat.mod_lt _ hs
    have e : j / s * s + j % s = j := by have := Nat.div_add_mod j s; rw [Nat.mul_comm] at this; exact this
    have h3 := hx (j / s) (j % s) h1 h2
    have h4 := (h (j / s) (j % s) h1 h2).1
    rw [e] at h3 h4
    rw [h3] at hu
    injection hu with hu
    rw [h4, hu]
end Sy
end Go.Proofs.YtihkhomnhggifaaGreatDoor

/-
  Symbolic runs: a string appended to a row of bytes; a row made a string by unsafe.String; pointers by way of unsafe.Pointer.
-/
namespace Go.Proofs.YtihkhomnhggifaaGreatDoor
open Go.RowKit
namespace Sy
set_option linter.unusedVariables false
set_option linter.unusedSimpArgs false

theorem run_append_appS {P : Program} (w : World) (t u ty e : TypeId) (i : TypeInfo) (ht : P.underlying t = some (.slice e)) (hu : P.underlying u = some .string) (hi : P.info? e = some i) (hz : i.zero = some (.int .u8 0)) (hsize : i.size = 1) (hby : i.bytes = 1)
    (v : Value) (n : Nat) (xs : List Value) (hown : w.ownsRow 0 e 1 v n xs) (s : ByteArray) (h63 : n + s.size ≤ maxLen) (hbytes : n + s.size ≤ 140737488355328) :
    ∃ v' w', (Builtin.append_ #[t, u] ty #[v, .string s]).run P w = .ok v' w' ∧ w'.ownsRow 0 e 1 v' (n + s.size) (xs ++ Lib.strCells s) ∧ w.grownBy w' v.ownBlock ∧ (v'.ownBlock = v.ownBlock ∨ ∃ g, v'.ownBlock = some g ∧ w.heap.size ≤ g) := by
  obtain ⟨v', w', hrun, hown', hg, hnil⟩ := Lib.run_append_own_string (P := P) w 0 t u ty e i ht hu hi hz hsize hby v n xs hown s h63 hbytes (Nat.zero_le _)
  refine ⟨v', w', hrun, hown', hg, ?_⟩
  have hsm : n + s.size ≤ 9223372036854775807 := by simp only [maxLen] at h63; omega
  rcases hown.2 with ⟨rfl, rfl⟩ | ⟨g, cap, cur, rfl, hbg, hgc, hnc, hcm, hcs, htake⟩
  · by_cases hm : s.size = 0
    · rw [hnil.2 ⟨rfl, hm⟩]; exact .inl rfl
    · have hr := run_append_nil_string (P := P) w t u ty e i (.int .u8 0) ht hu hi hz s (by omega) (by omega) (by rw [hby]; omega)
      rw [hrun] at hr
      injection hr with h1 h2
      rw [h1]
      exact .inr ⟨_, rfl, Nat.le_refl _⟩
  · by_cases hroom : n + s.size ≤ cap
    · have hr := Lib.run_append_room_string (P := P) w t u ty e i ht hu hi hsize g n cap cur hgc s hroom (by rw [hcs]; omega)
      rw [hrun] at hr
      injection hr with h1 h2
      rw [h1]
      exact .inl rfl
    · have hr := Lib.run_append_grow_string (P := P) w t u ty e i (.int .u8 0) ht hu hi hz ⟨g, 0, none⟩ n cap xs (by rw [hsize]; simpa using hown.1) (hown.cells (g := g) rfl) s (by omega) (by omega) (by rw [hby]; exact growslice_fits (by omega) (by omega))
      rw [hrun] at hr
      injection hr with h1 h2
      rw [h1]
      exact .inr ⟨_, rfl, Nat.le_refl _⟩

/-- append a string's bytes to a row of bytes of the call's own -/
theorem OpAt.appendS {G : Gl} {o : Oper} {st : St} {K : St → Prop} {t u e : TypeId} {s x : Operand} {i : TypeInfo} (v : Value) (n : Nat) (xs : List Value) (str : ByteArray) (rest : List HP)
    (ho : o.op = .call { callee := .builtin .append, args := #[s, x], argTypes := #[t, u] }) (hp : ∀ h, sepL st.h G.R h → sepL (rowH v n e 1 xs :: rest) G.R h) (hs : evR st s = v) (hx : evR st x = .string str) (hr : allR st o.op.operands.toList = true)
    (hu : G.P.underlying t = some (.slice e)) (hu2 : G.P.underlying u = some .string) (hi : G.P.info? e = some i) (hz : i.zero = some (.int .u8 0)) (hsize : i.size = 1) (hby : i.bytes = 1)
    (h63 : n + str.size ≤ maxLen) (hbytes : n + str.size ≤ 140737488355328)
    (k : ∀ A' c', putK G { st with h := rowH (.slice A' (n + str.size) c') (n + str.size) e 1 (xs ++ Lib.strCells str) :: rest } o.dst (.v (.slice A' (n + str.size) c')) none K) : OpAt G o st K := by
  refine OpAt.sem (pre := [rowH v n e 1 xs]) (post := fun v' hs => ∃ A' c', v' = .slice A' (n + str.size) c' ∧ hs = [rowH (.slice A' (n + str.size) c') (n + str.size) e 1 (xs ++ Lib.strCells str)]) rest hp (by rw [ho]; rfl) hr ?_ ?_
  · rintro R' hR' w ⟨h, hsub, h1', h2, d, rfl, hrow, hrest⟩
    have hown := rowH_own hrow hsub.left
    obtain ⟨v', w', hrun, hown', hg, hat⟩ := run_append_appS (P := G.P) w t u o.type e i hu hu2 hi hz hsize hby v n xs hown str h63 hbytes
    obtain ⟨A', c', rfl, _⟩ := own_shape' hown'
    obtain ⟨h1'', r1, s1, dom⟩ := own_rowH hown'
    have s2 : Sub h2 w' := fun j ob e' => by
      have hj := hsub.right d j ob e'
      have hlt := (Array.getElem?_eq_some_iff.1 hj).1
      rw [hg.block j hlt ?_]
      · exact hj
      · intro c0
        rcases d j with c1 | c1
        · exact rowH_ne hrow c0.symm c1
        · rw [c1] at e'; cases e'
    refine ⟨_, _, w', ?_, ⟨A', c', rfl, rfl⟩, ⟨_, s1.un s2, h1'', h2, fun j => ?_, rfl, r1, hrest⟩, ⟨hg.os, hg.tape, hg.output, hg.size⟩⟩
    · have ha : (#[s, x] : Array Operand).map (evR st) = #[v, .string str] := by simp [hs, hx]
      simp only [execOp, ho, resolve, invoke, builtin, Sem.run_bind, Sem.run_pure, Result.andThen_ok, ha, hrun]
    · by_cases c0 : h1'' j = none
      · exact .inl c0
      · right
        have hj := (dom j c0).1
        rcases hat with hat | ⟨g, hat, hge⟩
        · rw [hat] at hj
          rcases d j with c1 | c1
          · exact absurd c1 (rowH_ne hrow hj)
          · exact c1
        · rw [hat] at hj
          injection hj with hj
          subst hj
          exact (hsub.right d).none hge
  · rintro v' hs' ⟨A', c', rfl, rfl⟩
    exact k A' c'

/-- the bytes as cells -/
abbrev byV (l : List UInt8) : List Value := l.map fun b => .int .u8 (b.toNat : Int)
theorem strCells_bs (l : List UInt8) : Lib.strCells (bs l) = byV l := rfl
theorem size_bs (l : List UInt8) : (bs l).size = l.length := rfl

/-- unsafe.String over a whole row of bytes: the row is gone behind it -/
theorem OpAt.unsafeStr {G : Gl} {o : Oper} {st : St} {K : St → Prop} {pt it e : TypeId} {p x : Operand} (g cap : Nat) (l : List UInt8) (rest : List HP)
    (ho : o.op = .call { callee := .builtin .unsafeString, args := #[p, x], argTypes := #[pt, it] }) (hp : ∀ h, sepL st.h G.R h → sepL (rowH (.slice (some ⟨g, 0, none⟩) l.length cap) l.length e 1 (byV l) :: rest) G.R h)
    (hq : evR st p = .pointer (some ⟨g, 0, none⟩)) (hx : evR st x = .int .i64 (l.length : Int)) (hr : allR st o.op.operands.toList = true) (hu : G.P.underlying pt = some (.pointer e)) (hc : G.P.cellsOf e = 1) (h0 : l ≠ []) (h63 : l.length ≤ 9223372036854775807)
    (k : putK G { st with h := rest } o.dst (.v (.string (bs l))) none K) : OpAt G o st K := by
  refine OpAt.sem (pre := [rowH (.slice (some ⟨g, 0, none⟩) l.length cap) l.length e 1 (byV l)]) (post := fun v' hs => v' = .string (bs l) ∧ hs = []) rest hp (by rw [ho]; rfl) hr ?_ ?_
  · rintro R' hR' w ⟨h, hsub, h1', h2, d, rfl, hrow, hrest⟩
    obtain ⟨hl, r⟩ := hrow
    rcases r with ⟨c, _⟩ | ⟨g', cap', cur, e1, e2, e3, e4, e5, e6⟩
    · cases c
    injection e1 with e1 _ e1'
    injection e1 with e1
    injection e1 with e1
    subst e1
    have hb : w.heap[g]? = some (.cells cur e (0, 0)) := hsub.left g _ (by rw [e2]; simp)
    have hcell : ∀ j x, l[j]? = some x → w.cell? ((⟨g, 0, none⟩ : Addr).add j) = some (.int .u8 x.toNat) := fun j x hj => by
      have h3 : cur.toList[j]? = some (.int .u8 (x.toNat : Int)) := by
        have h4 : (cur.toList.take (l.length * 1))[j]? = some (.int .u8 (x.toNat : Int)) := by rw [e6]; simp [hj]
        rw [List.getElem?_take] at h4
        split at h4
        · exact h4
        · cases h4
      have : (⟨g, 0, none⟩ : Addr).add j = ⟨g, j, none⟩ := by cases j <;> simp [Addr.add]
      rw [this]
      unfold World.cell?
      rw [hb]
      simpa using h3
    have hlen : l.length ≤ cur.size := by rw [e5]; omega
    have hrun := Lib.run_unsafeString_row (P := G.P) w pt it o.type e hu hc g cur.size (by simp [World.shape?, hb]) l h0 hlen h63 hcell
    refine ⟨_, [], w.freeze ⟨g, 0, none⟩ l.length, ?_, ⟨rfl, rfl⟩, ⟨h2, fun j ob e' => ?_, hrest⟩, ?_⟩
    · have ha : (#[p, x] : Array Operand).map (evR st) = #[.pointer (some ⟨g, 0, none⟩), .int .i64 (l.length : Int)] := by simp [hq, hx]
      simp only [execOp, ho, resolve, invoke, builtin, Sem.run_bind, Sem.run_pure, Result.andThen_ok, ha, hrun]
      rfl
    · have hj := hsub.right d j ob e'
      have hne : j ≠ g := fun c => by
        subst c
        rcases d j with c1 | c1
        · rw [e2] at c1; simp at c1
        · rw [c1] at e'; cases e'
      unfold World.freeze
      split
      · exact hj
      · simp only [Array.getElem?_modify]
        rw [if_neg (fun c => hne c.symm)]
        exact hj
    · unfold World.freeze
      split
      · exact Wd.refl _
      · exact ⟨rfl, rfl, rfl, by simp⟩
  · rintro v' hs' ⟨rfl, rfl⟩
    exact k
/-- a conversion that the model's own text runs -/
theorem OpAt.conv {G : Gl} {o : Oper} {st : St} {K : St → Prop} {src dst : TypeId} {x : Operand} {v r : Value} (ho : o.op = .convert src dst x) (hx : evR st x = v) (hr : allR st o.op.operands.toList = true)
    (hrun : ∀ w, Sat (sepL st.h G.R) w → (convert src dst v).run G.P w = .ok r w) (k : putK G st o.dst (.v r) none K) : OpAt G o st K := by
  refine OpAt.val r (by rw [ho]; rfl) hr (fun w sat => ?_) k
  simp only [execOp, ho, hx, Sem.run_bind, hrun w sat, Result.andThen_ok, Sem.run_pure]
  try rfl
/-- internal/abi.NoEscape -/
theorem OpAt.noEscape {G : Gl} {o : Oper} {st : St} {K : St → Prop} {x y : Operand} {ts : Array TypeId} {v : Value} {f : FuncId} {fn : Func} (ho : o.op = .call { callee := .value x, args := #[y], argTypes := ts }) (hx : evR st x = .func (.func f) #[] #[]) (hy : evR st y = v) (hr : allR st o.op.operands.toList = true)
    (hf : G.P.funcs[f]? = some fn) (hname : (fn.name == "runtime.NumGoroutine") = false) (hb : fn.body.isNone = true) (hn : Extern.findNext fn = none) (he : Extern.find fn = some Extern.AbiNoEscape.same) (k : putK G st o.dst (.v v) none K) : OpAt G o st K := by
  refine OpAt.val v (by rw [ho]; rfl) hr (fun w sat => ?_) k
  have hc := run_callFunc_extern hf hname hb hn he #[v] w
  rw [Lib.run_noEscape] at hc
  have ha : (#[y] : Array Operand).map (evR st) = #[v] := by simp [hy]
  simp only [execOp, ho, resolve, ha, hx, Sem.run_bind, Sem.run_pure, Result.andThen_ok, Deferred.ofValue, invoke, Array.append_empty, Array.empty_append]
  simpa using hc
/-- a pointer against itself -/
theorem OpAt.ptrNe {G : Gl} {o : Oper} {st : St} {K : St → Prop} {t ty te : TypeId} {x y : Operand} {j : TypeInfo} (a : Addr) (ho : o.op = .binOp .neq t x y ty) (hx : evR st x = .pointer (some a)) (hy : evR st y = .pointer (some a)) (hr : allR st o.op.operands.toList = true)
    (hp : G.P.underlying t = some (.pointer te)) (hte : G.P.info? te = some j) (k : putK G st o.dst (.v (.bool false)) none K) : OpAt G o st K := by
  refine OpAt.val (.bool false) (by rw [ho]; rfl) hr (fun w sat => ?_) k
  have h := Lib.run_neq_ptr_same (P := G.P) w a hp hte
  simp [execOp, ho, hx, hy, eqGuard, h]
end Sy
end Go.Proofs.YtihkhomnhggifaaGreatDoor

/-
  Slices of structs of numbers, of bytes, of strings, as fields of an argument.
-/
namespace Go.Proofs.YtihkhomnhggifaaGreatDoor
open Go.ChangeShapes Go.WideShapes Go.ChangeAt Go.RowKit Go.Joins Sy
set_option linter.unusedVariables false
set_option linter.unusedSimpArgs false
set_option maxRecDepth 100000
set_option maxHeartbeats 4000000

theorem flat_len {α : Type} {f : α → List Value} {s : Nat} (hf : ∀ a, (f a).length = s) (l : List α) : (l.flatMap f).length = l.length * s := by
  induction l with
  | nil => simp
  | cons a l ih => rw [List.flatMap_cons, List.length_append, ih, hf, List.length_cons, Nat.succ_mul]; omega
theorem flat_at {α : Type} {f : α → List Value} {s : Nat} (hf : ∀ a, (f a).length = s) : ∀ {l : List α} {i j : Nat} (h : i < l.length), j < s → (l.flatMap f)[i * s + j]? = (f l[i])[j]?
  | a :: l, 0, j, _, hj => by
    rw [List.flatMap_cons, List.getElem?_append_left (by rw [hf]; omega)]
    simp
  | a :: l, i + 1, j, h, hj => by
    rw [List.flatMap_cons, List.getElem?_append_right (by rw [hf, Nat.succ_mul]; omega)]
    have : (i + 1) * s + j - (f a).length = i * s + j := by rw [hf, Nat.succ_mul]; omega
    rw [this, flat_at hf (by simpa using h) hj]
    simp
section
variable {H : Type} {enc : TypeId × Value → H} {P : Program} {w : World} {base : Nat} {spare : Nat → Bool} {held : Bool}
/-- a slice of structs of signed numbers -/
theorem open_flatS {α : Type} {t e : TypeId} {fuel : Nat} {v : Value} {x : DataW H × List MemPlace} (s : Nat) (mk : (Nat → Int) → α) (f : α → List Value) (hs0 : 0 < s) (ht : P.underlying t = some (.slice e)) (hs : P.cellsOf e = s) (hk : ∀ j, j < s → leafK P 6 e j = some .i64)
    (hf : ∀ a, (f a).length = s) (hmk : ∀ z j, j < s → (f (mk z))[j]? = some (.int .i64 (z j))) (h : DataW.trod enc P w base spare held fuel t [v] = some x) :
    ∃ A n c, ∃ l : List α, v = .slice A n c ∧ l.length = n ∧ Reads w w.heap.size s A n (l.flatMap f) ∧ n ≤ c ∧ c ≤ maxLen ∧ ∀ a ∈ l, ∃ z : Nat → Int, a = mk z ∧ ∀ j, j < s → -9223372036854775808 ≤ z j ∧ z j ≤ 9223372036854775807 := by
  rcases open_flat s (fun _ => .i64) ht hs hk h with hcs | ⟨y, n, c, zs, hcs, hl, hm, hz⟩
  · simp only [List.cons.injEq, and_true] at hcs
    exact ⟨none, 0, 0, [], hcs, rfl, Reads.empty, Nat.le_refl _, by simp [maxLen], fun a ha => by cases ha⟩
  · simp only [List.cons.injEq, and_true] at hcs
    refine ⟨some y, n, c, (List.range n).map fun i => mk (zs i), hcs, by simp, reads_flat hs0 hz (by rw [flat_len hf]; simp) (fun i j hi hj => ?_), hl, hm, fun a ha => ?_⟩
    · rw [flat_at hf (by simpa using hi) hj]
      simp only [List.getElem_map, List.getElem_range]
      exact hmk _ j hj
    · obtain ⟨i, hi, rfl⟩ := List.mem_map.1 ha
      exact ⟨zs i, rfl, fun j hj => bounds_i64 (hz i j (List.mem_range.1 hi) hj).2⟩
theorem open_byts {t e : TypeId} {fuel : Nat} {v : Value} {x : DataW H × List MemPlace} (ht : P.underlying t = some (.slice e)) (he : P.underlying e = some (.int .u8)) (hc : P.cellsOf e = 1) (h : DataW.trod enc P w base spare held fuel t [v] = some x) :
    ∃ A n c, ∃ l : List UInt8, v = .slice A n c ∧ l.length = n ∧ Reads w w.heap.size 1 A n (byV l) ∧ n ≤ c ∧ c ≤ maxLen := by
  have hk : leafK P 6 e 0 = some .u8 := by unfold leafK; rw [he]; rfl
  rcases open_flat 1 (fun _ => .u8) ht hc (fun j hj => by obtain rfl : j = 0 := by omega
                                                          exact hk) h with hcs | ⟨y, n, c, zs, hcs, hl, hm, hz⟩
  · simp only [List.cons.injEq, and_true] at hcs
    exact ⟨none, 0, 0, [], hcs, rfl, Reads.empty, Nat.le_refl _, by simp [maxLen]⟩
  · simp only [List.cons.injEq, and_true] at hcs
    refine ⟨some y, n, c, (List.range n).map fun i => UInt8.ofNat (zs i 0).toNat, hcs, by simp, reads_flat (by decide) hz (by simp) (fun i j hi hj => ?_), hl, hm⟩
    obtain rfl : j = 0 := by omega
    have hw := (hz i 0 hi (by omega)).2
    have hb : 0 ≤ zs i 0 ∧ zs i 0 ≤ 255 := by
      simp [Lit.wf, IntKind.min, IntKind.max, IntKind.signed, IntKind.bits] at hw
      omega
    simp only [Nat.mul_one, Nat.add_zero, List.map_map, List.getElem?_map, List.getElem?_range hi, Option.map_some, Function.comp, Option.some.injEq, Value.int.injEq, true_and]
    rw [UInt8.toNat_ofNat']
    omega
theorem open_strV {t e : TypeId} {fuel : Nat} {v : Value} {x : DataW H × List MemPlace} (ht : P.underlying t = some (.slice e)) (he : P.underlying e = some .string) (hc : P.cellsOf e = 1) (h : DataW.trod enc P w base spare held fuel t [v] = some x) :
    ∃ A n c, ∃ l : List (List UInt8), v = .slice A n c ∧ l.length = n ∧ Reads w w.heap.size 1 A n (l.map fun z => .string (bs z)) ∧ n ≤ c ∧ c ≤ maxLen ∧ ∀ z ∈ l, z.length ≤ maxLen := by
  rcases Go.Deep.open_strs ht he hc h with ⟨hcs, _⟩ | ⟨y, n, c, m, Sx, hcs, _, hl, hm, hmm, _, hcell⟩
  · simp only [List.cons.injEq, and_true] at hcs
    exact ⟨none, 0, 0, [], hcs, rfl, Reads.empty, Nat.le_refl _, by simp [maxLen], fun a ha => by cases ha⟩
  · simp only [List.cons.injEq, and_true] at hcs
    have hnm : n ≤ m := by rw [hmm]; split <;> omega
    refine ⟨some y, n, c, (List.range n).map fun i => (Sx i).data.toList, hcs, by simp, ⟨by simp, fun hn => ⟨y, rfl, ?_, fun j u hu => ?_⟩⟩, hl, hm, fun z hz => ?_⟩
    · have := World.block_lt_of_cell? w _ (hcell 0 (by omega)).1
      rwa [add_block] at this
    · have hj : j < n := by
        have := (List.getElem?_eq_some_iff.1 hu).1
        simpa using this
      rw [(hcell j (by omega)).1]
      simp only [List.map_map, List.getElem?_map, List.getElem?_range hj, Option.map_some, Function.comp, Option.some.injEq, bs_data] at hu
      rw [hu]
    · obtain ⟨i, hi, rfl⟩ := List.mem_map.1 hz
      have := (hcell i (by have := List.mem_range.1 hi; omega)).2
      simpa using this
end
end Go.Proofs.YtihkhomnhggifaaGreatDoor

/-
  A reply among the arguments.
-/
namespace Go.Proofs.YtihkhomnhggifaaGreatDoor
open Go.ChangeShapes Go.WideShapes Go.ChangeAt Go.RowKit Go.Joins Sy
set_option linter.unusedVariables false
set_option linter.unusedSimpArgs false
set_option maxRecDepth 100000
set_option maxHeartbeats 4000000

structure Prt where
  l : Int
  a : Int
  fx : Int
  fy : Int
  x0 : Int
  y0 : Int
  x1 : Int
  y1 : Int
def prtL (p : Prt) : List Value := [.int .i64 p.l, .int .i64 p.a, .int .i64 p.fx, .int .i64 p.fy, .int .i64 p.x0, .int .i64 p.y0, .int .i64 p.x1, .int .i64 p.y1]
def celL (c : Int × Int) : List Value := [.int .i64 c.1, .int .i64 c.2]
def numL (c : Int) : List Value := [.int .i64 c]
def I64 (z : Int) : Prop := -9223372036854775808 ≤ z ∧ z ≤ 9223372036854775807
structure Prt.ok (p : Prt) : Prop where
  l : I64 p.l
  a : I64 p.a
  fx : I64 p.fx
  fy : I64 p.fy
  x0 : I64 p.x0
  y0 : I64 p.y0
  x1 : I64 p.x1
  y1 : I64 p.y1
/-- what a reply says -/
structure Rep where
  code : Int
  n : Int
  yes : Bool
  ax : Int
  ay : Int
  cells : List (Int × Int)
  vals : List Int
  parts : List Prt
  byts : List UInt8
  lines : List (List UInt8)
/-- where its rows lie -/
structure RepA where
  A1 : Option Addr
  c1 : Nat
  A2 : Option Addr
  c2 : Nat
  A3 : Option Addr
  c3 : Nat
  A4 : Option Addr
  c4 : Nat
  A5 : Option Addr
  c5 : Nat
def repV (q : RepA) (r : Rep) : Value := .agg #[.int .i64 r.code, .int .i64 r.n, .bool r.yes, .int .i64 r.ax, .int .i64 r.ay, .slice q.A1 r.cells.length q.c1, .slice q.A2 r.vals.length q.c2, .slice q.A3 r.parts.length q.c3, .slice q.A4 r.byts.length q.c4, .slice q.A5 r.lines.length q.c5]
structure Rep.ok (r : Rep) : Prop where
  code : I64 r.code
  n : I64 r.n
  ax : I64 r.ax
  ay : I64 r.ay
  cells : ∀ c ∈ r.cells, I64 c.1 ∧ I64 c.2
  vals : ∀ c ∈ r.vals, I64 c
  parts : ∀ c ∈ r.parts, c.ok
/-- the rows as they are read -/
structure RepS (R : HP) (q : RepA) (r : Rep) : Prop where
  cells : Sl R q.A1 r.cells.length 2 (r.cells.flatMap celL)
  vals : Sl R q.A2 r.vals.length 1 (r.vals.flatMap numL)
  parts : Sl R q.A3 r.parts.length 8 (r.parts.flatMap prtL)
  byts : Sl R q.A4 r.byts.length 1 (byV r.byts)
  lines : Sl R q.A5 r.lines.length 1 (r.lines.map fun z => .string (bs z))
  k1 : r.cells.length ≤ q.c1 ∧ q.c1 ≤ maxLen
  k2 : r.vals.length ≤ q.c2 ∧ q.c2 ≤ maxLen
  k3 : r.parts.length ≤ q.c3 ∧ q.c3 ≤ maxLen
  k4 : r.byts.length ≤ q.c4 ∧ q.c4 ≤ maxLen
  k5 : r.lines.length ≤ q.c5 ∧ q.c5 ≤ maxLen
theorem leaf_cell : ∀ j, j < 2 → leafK Tryz.prog 6 25 j = some .i64 := fun j hj => by rcases (show j = 0 ∨ j = 1 by omega) with rfl | rfl <;> kernel_rfl
theorem leaf_num : ∀ j, j < 1 → leafK Tryz.prog 6 2 j = some .i64 := fun j hj => by rcases (show j = 0 by omega) with rfl; kernel_rfl
theorem leaf_part : ∀ j, j < 8 → leafK Tryz.prog 6 129 j = some .i64 := fun j hj => by rcases (show j = 0 ∨ j = 1 ∨ j = 2 ∨ j = 3 ∨ j = 4 ∨ j = 5 ∨ j = 6 ∨ j = 7 by omega) with rfl | rfl | rfl | rfl | rfl | rfl | rfl | rfl <;> kernel_rfl
theorem array10 {α : Type} {cs : Array α} (h : cs.size = 10) : ∃ c0 c1 c2 c3 c4 c5 c6 c7 c8 c9, cs = #[c0, c1, c2, c3, c4, c5, c6, c7, c8, c9] := by
  obtain ⟨l⟩ := cs
  match l, h with
  | [c0, c1, c2, c3, c4, c5, c6, c7, c8, c9], _ => exact ⟨c0, c1, c2, c3, c4, c5, c6, c7, c8, c9, rfl⟩
theorem open_reply {H : Type} {enc : TypeId × Value → H} {w : World} {base b0 : Nat} {spare : Nat → Bool} {held : Bool} {r : Reach} {v : Value} {d : DataW H} {ps : List MemPlace} (hval : Value.okWide Tryz.prog w r b0 112 v) (h : DataW.Trod enc Tryz.prog w base spare held 112 v d ps) :
    ∃ q r, v = repV q r ∧ r.ok ∧ RepS (was w) q r := by
  obtain ⟨cs, rfl, hsz⟩ := okWide_struct Tryz.underlying112 hval
  obtain ⟨c0, c1, c2, c3, c4, c5, c6, c7, c8, c9, rfl⟩ := array10 (hsz.trans (show Tryz.prog.cellsOf 112 = 10 by kernel_rfl))
  obtain ⟨fuel, hf⟩ := h
  obtain ⟨xs, n, _, _, _, hlen, hg⟩ := DataW.trod_struct Tryz.underlying112 hf
  match xs, hlen with
  | [y0, y1, y2, y3, y4, y5, y6, y7, y8], _ =>
  have g0 : DataW.trod enc Tryz.prog w base spare held n 33 [c0] = some y0 := by have this : DataW.trod enc Tryz.prog w base spare held n 33 (([c0, c1, c2, c3, c4, c5, c6, c7, c8, c9].drop 0).take (Tryz.prog.cellsOf 33)) = some y0 := hg 0 _ rfl; rw [show Tryz.prog.cellsOf 33 = 1 by kernel_rfl] at this; exact this
  have g1 : DataW.trod enc Tryz.prog w base spare held n 2 [c1] = some y1 := by have this : DataW.trod enc Tryz.prog w base spare held n 2 (([c0, c1, c2, c3, c4, c5, c6, c7, c8, c9].drop 1).take (Tryz.prog.cellsOf 2)) = some y1 := hg 1 _ rfl; rw [show Tryz.prog.cellsOf 2 = 1 by kernel_rfl] at this; exact this
  have g2 : DataW.trod enc Tryz.prog w base spare held n 4 [c2] = some y2 := by have this : DataW.trod enc Tryz.prog w base spare held n 4 (([c0, c1, c2, c3, c4, c5, c6, c7, c8, c9].drop 2).take (Tryz.prog.cellsOf 4)) = some y2 := hg 2 _ rfl; rw [show Tryz.prog.cellsOf 4 = 1 by kernel_rfl] at this; exact this
  have g3 : DataW.trod enc Tryz.prog w base spare held n 25 [c3, c4] = some y3 := by have this : DataW.trod enc Tryz.prog w base spare held n 25 (([c0, c1, c2, c3, c4, c5, c6, c7, c8, c9].drop 3).take (Tryz.prog.cellsOf 25)) = some y3 := hg 3 _ rfl; rw [show Tryz.prog.cellsOf 25 = 2 by kernel_rfl] at this; exact this
  have g4 : DataW.trod enc Tryz.prog w base spare held n 109 [c5] = some y4 := by have this : DataW.trod enc Tryz.prog w base spare held n 109 (([c0, c1, c2, c3, c4, c5, c6, c7, c8, c9].drop 5).take (Tryz.prog.cellsOf 109)) = some y4 := hg 4 _ rfl; rw [show Tryz.prog.cellsOf 109 = 1 by kernel_rfl] at this; exact this
  have g5 : DataW.trod enc Tryz.prog w base spare held n 26 [c6] = some y5 := by have this : DataW.trod enc Tryz.prog w base spare held n 26 (([c0, c1, c2, c3, c4, c5, c6, c7, c8, c9].drop 6).take (Tryz.prog.cellsOf 26)) = some y5 := hg 5 _ rfl; rw [show Tryz.prog.cellsOf 26 = 1 by kernel_rfl] at this; exact this
  have g6 : DataW.trod enc Tryz.prog w base spare held n 110 [c7] = some y6 := by have this : DataW.trod enc Tryz.prog w base spare held n 110 (([c0, c1, c2, c3, c4, c5, c6, c7, c8, c9].drop 7).take (Tryz.prog.cellsOf 110)) = some y6 := hg 6 _ rfl; rw [show Tryz.prog.cellsOf 110 = 1 by kernel_rfl] at this; exact this
  have g7 : DataW.trod enc Tryz.prog w base spare held n 27 [c8] = some y7 := by have this : DataW.trod enc Tryz.prog w base spare held n 27 (([c0, c1, c2, c3, c4, c5, c6, c7, c8, c9].drop 8).take (Tryz.prog.cellsOf 27)) = some y7 := hg 7 _ rfl; rw [show Tryz.prog.cellsOf 27 = 1 by kernel_rfl] at this; exact this
  have g8 : DataW.trod enc Tryz.prog w base spare held n 42 [c9] = some y8 := by have this : DataW.trod enc Tryz.prog w base spare held n 42 (([c0, c1, c2, c3, c4, c5, c6, c7, c8, c9].drop 9).take (Tryz.prog.cellsOf 42)) = some y8 := hg 8 _ rfl; rw [show Tryz.prog.cellsOf 42 = 1 by kernel_rfl] at this; exact this
  obtain ⟨z0, e0, _, w0⟩ := DataW.trod_int Tryz.underlying33 g0
  obtain ⟨z1, e1, _, w1⟩ := DataW.trod_int Tryz.underlying2 g1
  obtain ⟨z2, e2, _⟩ := DataW.trod_bool Tryz.underlying4 g2
  obtain ⟨z3, e3, w3⟩ := trod_leaf 6 (leaf_cell 0 (by decide)) g3
  obtain ⟨z4, e4, w4⟩ := trod_leaf 6 (leaf_cell 1 (by decide)) g3
  simp only [List.cons.injEq, and_true, List.getElem?_cons_zero, List.getElem?_cons_succ, Option.some.injEq] at e0 e1 e2 e3 e4
  subst e0 e1 e2 e3 e4
  obtain ⟨A1, n1, k1, l1, rfl, q1, r1, s1, t1, u1⟩ := open_flatS 2 (fun z => (z 0, z 1)) celL (by decide) Tryz.underlying109 (by kernel_rfl) leaf_cell (fun _ => rfl) (fun z j hj => by rcases (show j = 0 ∨ j = 1 by omega) with rfl | rfl <;> rfl) g4
  obtain ⟨A2, n2, k2, l2, rfl, q2, r2, s2, t2, u2⟩ := open_flatS 1 (fun z => z 0) numL (by decide) Tryz.underlying26 (by kernel_rfl) leaf_num (fun _ => rfl) (fun z j hj => by rcases (show j = 0 by omega) with rfl; rfl) g5
  obtain ⟨A3, n3, k3, l3, rfl, q3, r3, s3, t3, u3⟩ := open_flatS 8 (fun z => (⟨z 0, z 1, z 2, z 3, z 4, z 5, z 6, z 7⟩ : Prt)) prtL (by decide) Tryz.underlying110 (by kernel_rfl) leaf_part (fun _ => rfl) (fun z j hj => by rcases (show j = 0 ∨ j = 1 ∨ j = 2 ∨ j = 3 ∨ j = 4 ∨ j = 5 ∨ j = 6 ∨ j = 7 by omega) with rfl | rfl | rfl | rfl | rfl | rfl | rfl | rfl <;> rfl) g6
  obtain ⟨A4, n4, k4, l4, rfl, q4, r4, s4, t4⟩ := open_byts Tryz.underlying27 Tryz.underlying5 (by kernel_rfl) g7
  obtain ⟨A5, n5, k5, l5, rfl, q5, r5, s5, t5, u5⟩ := open_strV Tryz.underlying42 Tryz.underlying9 (by kernel_rfl) g8
  subst q1 q2 q3 q4 q5
  refine ⟨⟨A1, k1, A2, k2, A3, k3, A4, k4, A5, k5⟩, ⟨z0, z1, z2, z3, z4, l1, l2, l3, l4, l5⟩, rfl, ⟨bounds_i64 w0, bounds_i64 w1, bounds_i64 w3, bounds_i64 w4, fun c hc => ?_, fun c hc => ?_, fun c hc => ?_⟩,
    ⟨sl_of_reads (by decide) r1, sl_of_reads (by decide) r2, sl_of_reads (by decide) r3, sl_of_reads (by decide) r4, sl_of_reads (by decide) r5, ⟨s1, t1⟩, ⟨s2, t2⟩, ⟨s3, t3⟩, ⟨s4, t4⟩, ⟨s5, t5⟩⟩⟩
  · obtain ⟨z, rfl, hz⟩ := u1 c hc
    exact ⟨hz 0 (by decide), hz 1 (by decide)⟩
  · obtain ⟨z, rfl, hz⟩ := u2 c hc
    exact hz 0 (by decide)
  · obtain ⟨z, rfl, hz⟩ := u3 c hc
    exact ⟨hz 0 (by decide), hz 1 (by decide), hz 2 (by decide), hz 3 (by decide), hz 4 (by decide), hz 5 (by decide), hz 6 (by decide), hz 7 (by decide)⟩
end Go.Proofs.YtihkhomnhggifaaGreatDoor

/-
  A reply's lines: plain.
-/
namespace Go.Proofs.YtihkhomnhggifaaGreatDoor
open Go.RowKit
open Sy
set_option linter.unusedVariables false
set_option linter.unusedSimpArgs false
set_option maxRecDepth 100000
set_option maxHeartbeats 4000000

def hexd (n : Nat) : UInt8 := if n < 10 then u8 (48 + n) else u8 (87 + n)
def hexT (l : List UInt8) : List UInt8 := l.flatMap fun b => [hexd (b.toNat / 16), hexd (b.toNat % 16)]
theorem hexT_append (l m : List UInt8) : hexT (l ++ m) = hexT l ++ hexT m := by simp [hexT]
theorem hexT_len (l : List UInt8) : (hexT l).length = 2 * l.length := by
  induction l with
  | nil => rfl
  | cons a l ih =>
    have e : hexT (a :: l) = [hexd (a.toNat / 16), hexd (a.toNat % 16)] ++ hexT l := rfl
    rw [e, List.length_append, ih]
    simp; omega
def hexW (l : List UInt8) : List UInt8 := if l = [] then [45] else hexT l
def listW (l : List Int) : List UInt8 := if l = [] then [45] else jn 44 (l.map Lib.itoa)
def celW (c : Int × Int) : List UInt8 := Lib.itoa c.1 ++ 44 :: Lib.itoa c.2
def prtN (p : Prt) : List Int := [p.l, p.a, p.fx, p.fy, p.x0, p.y0, p.x1, p.y1]
def prtW (p : Prt) : List UInt8 := jn 32 ((prtN p).map Lib.itoa)
def okT : List UInt8 := [111, 107]
def yesT : List UInt8 := [121, 101, 115]
def noT : List UInt8 := [110, 111]
def errT : List UInt8 := [101, 114, 114, 111, 114, 32]
/-- the words behind the first one -/
def ansW (kind : Int) (r : Rep) : List (List UInt8) :=
  if kind = 6 ∨ kind = 7 ∨ kind = 10 ∨ kind = 11 ∨ kind = 20 ∨ kind = 21 ∨ kind = 22 then [Lib.itoa r.n]
  else if kind = 8 ∨ kind = 9 then [Lib.itoa r.n, Lib.itoa r.ax, Lib.itoa r.ay]
  else if kind = 12 then (if r.yes then [yesT] else [noT, Lib.itoa r.ax, Lib.itoa r.ay])
  else if kind = 13 ∨ kind = 16 then Lib.itoa r.n :: r.cells.map celW
  else if kind = 14 then [Lib.itoa r.n]
  else if kind = 15 then r.cells.map celW
  else if kind = 17 then [Lib.itoa r.ax, Lib.itoa r.ay, listW r.vals]
  else if kind = 23 then [hexW r.byts]
  else []
/-- the lines behind the first one -/
def ansM (kind : Int) (r : Rep) : List (List UInt8) := if kind = 14 then r.parts.map prtW else if kind = 27 then r.lines else []
def ans (kind : Int) (r : Rep) : List (List UInt8) := if r.code ≠ 0 then [errT ++ Lib.itoa r.code] else jn 32 (okT :: ansW kind r) :: ansM kind r
theorem itoa_len20 {n : Int} (h : I64 n) : (Lib.itoa n).length ≤ 21 := Lib.itoa_length_le n h.1 h.2
theorem listW_split {l : List Int} (h : l ≠ []) : pcs 44 (listW l) = l.map Lib.itoa := by
  unfold listW
  rw [if_neg h]
  refine pcs_jn (by simpa using h) fun p hp => ?_
  obtain ⟨n, _, rfl⟩ := List.mem_map.1 hp
  exact itoa_comma n
theorem listW_dash {l : List Int} (hl : ∀ n ∈ l, I64 n) : listW l = [45] ↔ l = [] := by
  constructor
  · intro h
    by_cases c : l = []
    · exact c
    · exfalso
      have h2 := listW_split c
      rw [h] at h2
      have h3 : pcs 44 [45] = [[45]] := by
        have := pcs_jn (d := 44) (ws := [[45]]) (by simp) (fun p hp => by simp at hp; subst hp; decide)
        rwa [jn_one] at this
      rw [h3] at h2
      obtain ⟨n, m, rfl⟩ : ∃ n m, l = n :: m := by
        cases l with
        | nil => exact absurd rfl c
        | cons n m => exact ⟨n, m, rfl⟩
      simp only [List.map_cons, List.cons.injEq] at h2
      have h4 := read_itoa n (hl n (by simp)).1 (hl n (by simp)).2
      rw [← h2.1] at h4
      have : read [45] = (0, 12) := by decide +kernel
      rw [this] at h4
      simp at h4
  · rintro rfl
    rfl
theorem wds_len {c : UInt8} {ws : List (List UInt8)} {m : Nat} (h : ∀ w ∈ ws, w.length ≤ m) : (wds c ws).length ≤ ws.length * (m + 1) := by
  induction ws with
  | nil => simp [wds]
  | cons w ws ih =>
    rw [wds_cons]
    have h1 := ih fun x hx => h x (List.mem_cons_of_mem _ hx)
    have h2 := h w (by simp)
    simp only [List.length_cons, List.length_append, Nat.succ_mul]
    omega
theorem jn_len {c : UInt8} {ws : List (List UInt8)} {m : Nat} (h : ∀ w ∈ ws, w.length ≤ m) : (jn c ws).length ≤ ws.length * (m + 1) := by
  cases ws with
  | nil => simp [jn_nil]
  | cons w ws =>
    rw [jn_cons]
    have h1 := wds_len (c := c) fun x hx => h x (List.mem_cons_of_mem w hx)
    have h2 := h w (by simp)
    simp only [List.length_cons, List.length_append, Nat.succ_mul]
    omega
theorem listW_len {l : List Int} (hl : ∀ n ∈ l, I64 n) : (listW l).length ≤ l.length * 22 + 1 := by
  unfold listW
  split
  · simp
  · have := jn_len (c := 44) (ws := l.map Lib.itoa) (m := 21) fun w hw => by
      obtain ⟨n, hn, rfl⟩ := List.mem_map.1 hw
      exact itoa_len20 (hl n hn)
    rw [List.length_map] at this
    omega
end Go.Proofs.YtihkhomnhggifaaGreatDoor

/-
  A row's tail cleared.
-/
namespace Go.Proofs.YtihkhomnhggifaaGreatDoor
open Go.RowKit
namespace Sy
set_option linter.unusedVariables false
set_option linter.unusedSimpArgs false
set_option maxRecDepth 100000
set_option maxHeartbeats 4000000

/-- some cells of a part of the heap written by an operation that hands back u -/
theorem OpAt.write {G : Gl} {o : Oper} {st : St} {K : St → Prop} {A A' : HP} (b off : Nat) (ys : List Value) (u : Value) (rest : List HP) (hsel : notSel o.op = true) (hp : ∀ h, sepL st.h G.R h → sepL (A :: rest) G.R h) (hr : allR st o.op.operands.toList = true) (h1 : ∀ u ∈ ys, u.oneCell' = true)
    (hrun : ∀ w w', (storeCells ⟨b, off, none⟩ ys).run G.P w = .ok () w' → (execOp (evR st) o).run G.P w = .ok (.value u) w')
    (hA : ∀ h, A h → ∃ ty cs, h b = some (.cells cs ty (0, 0)) ∧ off + ys.length ≤ cs.size ∧ A' fun j => if j = b then some (.cells (putL cs.toList off ys).toArray ty (0, 0)) else h j)
    (k : putK G { st with h := A' :: rest } o.dst (.v u) none K) : OpAt G o st K := by
  refine .mk fun ρ a w m mm => ?_
  obtain ⟨h, s1, s2, d0, s3⟩ := mem_split mm
  obtain ⟨g1, g2, d, rfl, a1, a2⟩ := hp h s2
  obtain ⟨ty, cs, hb, hoff, hA'⟩ := hA g1 a1
  have hc : execOp a.eval o = execOp (evR st) o := execOp_congr o (fun cs b => notSel_spec hsel cs b) fun x hx => allR_sound m hr x (by simpa using hx)
  have hwb : w.heap[b]? = some (.cells cs ty (0, 0)) := s1.left b _ hb
  have hg2 : g2 b = none := by
    rcases d b with e | e
    · rw [hb] at e; cases e
    · exact e
  have hob : obj st ρ w b = none := by
    rcases d0 b with e | e
    · exact e
    · unfold un at e; rw [hb] at e; cases e
  have hst := run_storeCells_at (P := G.P) b off ty ys 0 cs w hwb (by omega) h1
  simp only [Nat.add_zero] at hst
  have hrun' : (execOp (evR st) o).run G.P w = .ok (.value u) (w.setRow b (putL cs.toList off ys).toArray) := hrun w _ (by simpa [putL] using hst)
  generalize hW : w.setRow b (putL cs.toList off ys).toArray = w' at hrun'
  have hh : w'.heap[b]? = some (.cells (putL cs.toList off ys).toArray ty (0, 0)) := by rw [← hW]; exact setRow_heap w b cs _ ty (0, 0) hwb
  have hne : ∀ j, j ≠ b → w'.heap[j]? = w.heap[j]? := fun j hj => by
    rw [← hW]
    simp only [World.setRow, Array.getElem?_modify]
    rw [if_neg (fun e => hj e.symm)]
  have hwd : Wd w w' := by
    rw [← hW]
    exact ⟨rfl, rfl, rfl, by simp [World.setRow]⟩
  have old : ∀ {g : Hl}, g b = none → Sub g w → Sub g w' := fun {g} hgb s j ob e => by
    have : j ≠ b := fun c => by subst c; rw [hgb] at e; cases e
    rw [hne j this]; exact s j ob e
  generalize hq : (fun j => if j = b then some (Obj.cells (putL cs.toList off ys).toArray ty (0, 0)) else g1 j) = g1' at hA'
  have dom : ∀ j, g1' j = none ↔ g1 j = none := fun j => by
    rw [← hq]
    simp only
    by_cases c : j = b
    · subst c; simp [hb]
    · simp [c]
  have sub1 : Sub g1' w' := fun j ob e => by
    rw [← hq] at e
    simp only at e
    by_cases c : j = b
    · subst c; rw [if_pos rfl] at e; rw [← e]; exact hh
    · rw [if_neg c] at e; rw [hne j c]; exact s1.left j ob e
  have mm' : Mem G { st with h := A' :: rest } ρ w' := by
    refine mem_join (g := un (obj st ρ w) (un g1' g2)) mm hwd ((old hob s3).un (sub1.un (old hg2 (s1.right d)))) ⟨un g1' g2, fun j => ?_, rfl, g1', g2, fun j => ?_, rfl, hA', a2⟩
    · rcases d0 j with e | e
      · exact .inl e
      · exact .inr (un_none.2 ⟨(dom j).2 (un_none.1 e).1, (un_none.1 e).2⟩)
    · rcases d j with e | e
      · exact .inl ((dom j).2 e)
      · exact .inr e
  obtain ⟨st', k', m', mm2⟩ := putK_go k (ρ := ρ) (v := u) rfl (m.same rfl) mm'
  unfold Oper.wp
  rw [hc, hrun']
  exact ⟨st', ρ, k', m', mm2, Ext.refl _⟩
/-- the tail of a row cleared -/
theorem OpAt.clear {G : Gl} {o : Oper} {st : St} {K : St → Prop} {t e : TypeId} {x : Operand} {i : TypeInfo} {z : Value} {A A' : HP} (b off n c : Nat) (rest : List HP) (ho : o.op = .call { callee := .builtin .clear, args := #[x], argTypes := #[t] }) (hp : ∀ h, sepL st.h G.R h → sepL (A :: rest) G.R h) (hx : evR st x = .slice (some ⟨b, off, none⟩) n c) (hn : 0 < n)
    (hr : allR st o.op.operands.toList = true) (hu : G.P.underlying t = some (.slice e)) (hi : G.P.info? e = some i) (hz : i.zero = some z) (h1 : ∀ u ∈ (Builtin.zeroCells z.cells n).toList, u.oneCell' = true)
    (hA : ∀ h, A h → ∃ ty cs, h b = some (.cells cs ty (0, 0)) ∧ off + (Builtin.zeroCells z.cells n).toList.length ≤ cs.size ∧ A' fun j => if j = b then some (.cells (putL cs.toList off (Builtin.zeroCells z.cells n).toList).toArray ty (0, 0)) else h j)
    (k : putK G { st with h := A' :: rest } o.dst (.v (.tuple #[])) none K) : OpAt G o st K := by
  refine OpAt.write b off _ (.tuple #[]) rest (by rw [ho]; rfl) hp hr h1 (fun w w' hs => ?_) hA k
  have hn' : n ≠ 0 := by omega
  simp [execOp, ho, resolve, invoke, builtin, hx, Builtin.clear_, underlying, zeroValue, typeInfo, hu, hi, hz, hn', hs]
/-- what is behind a place of a slice -/
theorem OpAt.from {G : Gl} {o : Oper} {st : St} {K : St → Prop} {t e : TypeId} {x l : Operand} {i : TypeInfo} (b off n c lo : Nat) (k : IntKind) (ho : o.op = .slice t x (some l) none none) (hx : evR st x = .slice (some ⟨b, off, none⟩) n c) (hl : evR st l = .int k (lo : Int)) (hr : allR st o.op.operands.toList = true)
    (hu : G.P.underlying t = some (.slice e)) (hi : G.P.info? e = some i) (h1 : lo ≤ n) (h2 : lo < c) (kk : putK G st o.dst (.v (.slice (some ⟨b, off + lo * i.size, none⟩) (n - lo) (c - lo))) none K) : OpAt G o st K := by
  refine OpAt.val _ (by rw [ho]; rfl) hr (fun w _ => ?_) kk
  have h3 : ¬ c = lo := by omega
  have h4 : (lo : Int) ≤ (n : Int) := by omega
  have hsz : (sizeOf e).run G.P w = .ok i.size w := by simp [sizeOf, typeInfo, hi]
  simp [execOp, ho, hx, hl, Instr.sliceAt, Instr.slice, run_underlying hu, Instr.sliceBounds, Instr.sliceBound, asIntOf, h1, hsz, h3, Addr.add]
/-- the front of a row -/
theorem row_cut {g n m cap size : Nat} {e : TypeId} {xs : List Value} (h : m ≤ n) {hl : Hl} (r : rowH (.slice (some ⟨g, 0, none⟩) n cap) n e size xs hl) : rowH (.slice (some ⟨g, 0, none⟩) m cap) m e size (xs.take (m * size)) hl := by
  obtain ⟨hx, r⟩ := r
  rcases r with ⟨c, _⟩ | ⟨g', cap', cur, h1, h2, h3, h4, h5, h6⟩
  · cases c
  injection h1 with e1 e2 e3
  injection e1 with e1
  injection e1 with e1
  subst e1 e3
  have hm : m * size ≤ n * size := Nat.mul_le_mul_right _ h
  refine ⟨by rw [List.length_take]; omega, .inr ⟨g, cap, cur, rfl, h2, by omega, h4, h5, ?_⟩⟩
  rw [← h6, List.take_take, Nat.min_eq_left hm]
end Sy
end Go.Proofs.YtihkhomnhggifaaGreatDoor

/-
  Symbolic runs: an object of the call's own comes to be a plain block ahead of a drawn region; what is behind a place of a slice, be it empty.
-/
namespace Go.Proofs.YtihkhomnhggifaaGreatDoor
open Go.RowKit
set_option linter.unusedVariables false
set_option linter.unusedSimpArgs false
set_option maxRecDepth 100000
set_option maxHeartbeats 4000000
namespace Sy

theorem RegAt.expose {G : Gl} {id : Nat} {os : Array Oper} {st : St} {K : St → Prop} (n : Nat) (h : Sy.expose G st n False fun _ st' => RegAt G id os st' K) : RegAt G id os st K := .mk fun ρ a w m mm => by
  rcases expose_sound h with h | ⟨t, vs, h, he⟩
  · exact h.elim
  · obtain ⟨b, e1, eb, m', mm'⟩ := he ρ a w m mm
    obtain ⟨q⟩ := h b eb
    exact q ρ a w m' mm'
/-- what is behind a place of a slice, be it empty -/
theorem OpAt.from2 {G : Gl} {o : Oper} {st : St} {K : St → Prop} {t e : TypeId} {x l : Operand} {i : TypeInfo} (b off n c lo : Nat) (k : IntKind) (ho : o.op = .slice t x (some l) none none) (hx : evR st x = .slice (some ⟨b, off, none⟩) n c) (hl : evR st l = .int k (lo : Int)) (hr : allR st o.op.operands.toList = true)
    (hu : G.P.underlying t = some (.slice e)) (hi : G.P.info? e = some i) (h1 : lo ≤ n) (h2 : n ≤ c) (kk : ∀ A, (A = some ⟨b, off + lo * i.size, none⟩ ∨ lo = n) → putK G st o.dst (.v (.slice A (n - lo) (c - lo))) none K) : OpAt G o st K := by
  by_cases h3 : lo < c
  · exact OpAt.from b off n c lo k ho hx hl hr hu hi h1 h3 (kk _ (.inl rfl))
  · refine OpAt.val _ (by rw [ho]; rfl) hr (fun w _ => ?_) (kk (some ⟨b, off, none⟩) (.inr (by omega)))
    have h3 : c = lo := by omega
    have h4 : (lo : Int) ≤ (n : Int) := by omega
    have hsz : (sizeOf e).run G.P w = .ok i.size w := by simp [sizeOf, typeInfo, hi]
    simp [execOp, ho, hx, hl, Instr.sliceAt, Instr.slice, run_underlying hu, Instr.sliceBounds, Instr.sliceBound, asIntOf, h1, hsz, h3, Addr.add]
/-- the rest of a slice that is only read -/
theorem Sl.behind {R : HP} {b off n lo size : Nat} {A : Option Addr} {xs : List Value} (h : Sl R (some ⟨b, off, none⟩) n size xs) (hl : lo ≤ n) (hA : A = some ⟨b, off + lo * size, none⟩ ∨ lo = n) : Sl R A (n - lo) size (xs.drop (lo * size)) := fun w s => by
  obtain ⟨h1, h2⟩ := h w s
  refine ⟨by rw [List.length_drop, h1, Nat.sub_mul], fun hn => ?_⟩
  obtain ⟨ad, e, hb, hc⟩ := h2 (by omega)
  injection e with e
  subst e
  rcases hA with rfl | hA
  · refine ⟨_, rfl, hb, fun j u hu => ?_⟩
    have := hc (lo * size + j) u (by rw [← hu, List.getElem?_drop])
    rw [add_plain] at this ⊢
    rw [← this, Nat.add_assoc]
  · omega
/-- an operation that hands back a value, in a drawn region -/
theorem RunQ.val {G : Gl} {o : Oper} {st : St} {K : SV → Prop} (v : Value) (hsel : notSel o.op = true) (hr : allR st o.op.operands.toList = true) (hrun : ∀ w, Sat (sepL st.h G.R) w → (execOp (evR st) o).run G.P w = .ok (.value v) w) (k : K (.v v)) : RunQ G o st K := .mk v (fun ρ a w m mm => by
  rw [execOp_congr o (fun cs b => notSel_spec hsel cs b) fun x hx => allR_sound m hr x (by simpa using hx)]
  exact hrun w mm.sat) k
/-- the parts that are left, seen in the memory in which the call ends -/
theorem FnR.seen {P : Program} {R : HP} {f : FuncId} {args : List Value} {pre : List HP} {p q : Value → List HP → Prop} (h : FnR P R f args pre p) (hq : ∀ v hs, p v hs → ∀ w, Sat (sepL hs R) w → ∃ hs', q v hs' ∧ Sat (sepL hs' R) w) : FnR P R f args pre q := by
  intro w s
  refine (h w s).mono ?_
  rintro e w' ⟨v, hs, rfl, hv, s', hw⟩
  obtain ⟨hs', h1, h2⟩ := hq v hs hv w' s'
  exact ⟨v, hs', rfl, h1, h2, hw⟩
/-- quiet operations first, then one for which all before it are done and all behind it wait, then groups -/
def qgB (l : List Oper) (b : Nat) (gs : List (List Stp × Nat)) : Bool := Region.noSelect l.toArray && (decide (b < l.length) && (decide (grpLen gs + (b + 1) = l.length) && (Region.sinkB .any l.toArray b && (chainW l.toArray b && (headW l.toArray b (Array.replicate l.toArray.size false) &&
  lexW l.toArray (fun ls' => decide (Region.ready .any l.toArray ls' = [b]) && grpsB l.toArray gs (ls'.setIfInBounds b true)) b 0 (Array.replicate l.toArray.size false))))))
def qgG (G : Gl) (l : List Oper) (b : Nat) (gs : List (List Stp × Nat)) (st : St) (K : St → Prop) : Prop := opsG (opQ G) G l (l.take b) st fun st => match l[b]? with
  | some o => match o.guard with
    | none => op1 G o st fun st => grpsG G l gs st K
    | some _ => False
  | none => False
theorem RegAt.quietGroups {G : Gl} {id : Nat} {l : List Oper} {st : St} {K : St → Prop} (b : Nat) (gs : List (List Stp × Nat)) (hm : G.P.follows .mixedOrders = true) (hB : qgB l b gs = true) (h : qgG G l b gs st K) (hax : axFree G.AX l = true := by rfl) : RegAt G id l.toArray st K := by
  simp only [qgB, Bool.and_eq_true, decide_eq_true_eq] at hB
  obtain ⟨hsel, hbl, hlen, hsink, hchain, hhead, hlex⟩ := hB
  refine .mk fun ρ a w m mm => ?_
  refine wp_region_any hm ?_
  have mm := mm.drew
  have hx : ∀ e a w, PXE G e a w → (fun e a' w' => (e = Exit.normal ∧ ∃ st' ρ', K st' ∧ Tm G st' ρ' a' ∧ Mem G st' ρ' w') ∨ PXE G e a' w') e a w := fun e a w hp => .inr hp
  have good : Good fun st => match l[b]? with
    | some o => match o.guard with
      | none => op1 G o st fun st => grpsG G l gs st K
      | some _ => False
    | none => False := fun st h => by
      split at h
      · split at h
        · exact (op1_sound h (grpsG_good gs)).1
        · exact h.elim
      · exact h.elim
  have hq := (opsQ_sound h good).2 ρ a _ m mm
  have htl : (l.take b).length = b := by rw [List.length_take]; omega
  have key := Firsts.lexW (C := Mem G st ρ) (F := fun ls' => decide (Region.ready .any l.toArray ls' = [b]) && grpsB l.toArray gs (ls'.setIfInBounds b true)) hsel hsink hchain (by simpa using hbl) (fun ls' h => by simp only [Bool.and_eq_true, decide_eq_true_eq] at h; exact h.1)
    (l.take b) 0 _ a (fun j hj => by
      rw [htl] at hj
      simp [hj]) (by rw [htl]; omega) (headW_spec hhead) (by rw [htl]; exact hlex) hq
  have key := Firsts.any (Q := fun e a' w' => (e = Exit.normal ∧ ∃ st' ρ', K st' ∧ Tm G st' ρ' a' ∧ Mem G st' ρ' w') ∨ PXE G e a' w') (g := grpLen gs + 1) (fun ls' a' w' mm' hL => by
    obtain ⟨hF, st', hs, hsame, m'⟩ := hL
    simp only [Bool.and_eq_true, decide_eq_true_eq] at hF
    refine ⟨(fun h1 => by rw [hF.1] at h1; cases h1), fun i hi => ?_⟩
    rw [hF.1] at hi
    have hib : i = b := by simpa using hi
    subst hib
    split at hs
    · rename_i o ho
      split at hs
      · rename_i hg
        have ho' : l.toArray[i]? = some o := by simpa using ho
        unfold wpOp
        simp only [ho']
        rw [if_pos (wanted_none hg _)]
        left
        refine Oper.wp_mono (fun a2 w2 ⟨st2, ρ2, k2, m2, mm2⟩ => ?_) ((op1_sound hs (grpsG_good gs)).2 ρ a' w' _ hx m' (hsame.mem.2 mm'))
        exact grps_sound hx hsel (fun o ho v c a w hq => by rcases hq with ⟨hq, _⟩ | hq; cases hq; exact .inr (hq.put (axFree_spec hax o ho))) (fun st ρ a w k m mm => .inl ⟨rfl, st, ρ, k, m, mm⟩) gs _ st2 ρ2 a2 w2 hF.2 k2 m2 mm2
      · exact hs.elim
    · exact hs.elim) _ _ _ _ mm key
  rw [htl] at key
  rw [show b + (grpLen gs + 1) = l.toArray.size by rw [List.size_toArray]; omega] at key
  exact key
end Sy
end Go.Proofs.YtihkhomnhggifaaGreatDoor

/-
  script: a line that is told (word, number, numbers, cell, rect).
-/
namespace Go.Proofs.YtihkhomnhggifaaGreatDoor
open Go.RowKit
open Sy
set_option linter.unusedVariables false
set_option linter.unusedSimpArgs false
set_option maxRecDepth 100000
set_option maxHeartbeats 4000000

abbrev strV (ws : List (List UInt8)) : List Value := ws.map fun z => .string (bs z)
def lnP (lb : Nat) (ws : List (List UInt8)) (x : Option Addr × Nat) : List HP := [blkH lb 51 #[.slice x.1 ws.length x.2, .bool false], rowH (.slice x.1 ws.length x.2) ws.length 9 1 (strV ws)]
/-- a line, and the words that it was told -/
def lnH (lb : Nat) (ws : List (List UInt8)) : HP := boxH (lnP lb ws)
theorem blk_cell {b : Nat} {t : TypeId} {cs : Array Value} {w : World} {k : Nat} {v : Value} (s : Sat (blkH b t cs) w) (h : cs[k]? = some v) : w.cell? ⟨b, k, none⟩ = some v := ((blk_sat s).cell k).trans h
theorem putL_same {cs : Array Value} {k : Nat} {v : Value} (h : cs[k]? = some v) : (putL cs.toList k [v]).toArray = cs := by
  obtain ⟨l⟩ := cs
  have h : l[k]? = some v := by simpa using h
  have hk := (List.getElem?_eq_some_iff.1 h).1
  congr 1
  apply List.ext_getElem?
  intro i
  rw [putL_get (by simp; omega)]
  split
  · rename_i c
    obtain rfl : i = k := by simp at c; omega
    simp [h]
  · rfl
theorem sWord {R : HP} {lb : Nat} {ws : List (List UInt8)} (s : List UInt8) (hl : ws.length ≤ 1000000) : FnR Tryz.prog R 45 [.pointer (some ⟨lb, 0, none⟩), .string (bs s)] [lnH lb ws] fun r hs => r = .string (bs s) ∧ hs = [lnH lb (ws ++ [s])] := by
  refine FnR.unbox fun ⟨A, c⟩ => ?_
  rw [List.append_nil]
  refine fn_of_run0 false Tryz.func45 rfl hmix rfl fun w0 => ?_
  conv => whnf
  refine ⟨trivial, LoadAt.cell (.bool false) rfl rfl (fun w hw => blk_cell (hw.in_ 0 rfl) rfl) ?_⟩
  conv => whnf
  refine iff_t rfl ?_
  conv => whnf
  refine ⟨trivial, LoadAt.cell (.slice A ws.length c) rfl rfl (fun w hw => blk_cell (hw.in_ 0 rfl) rfl) ?_⟩
  conv => whnf
  refine ⟨trivial, OpAt.lit [.string (bs s)] 1 rfl rfl rfl rfl rfl (by decide) rfl rfl rfl (by simp [Value.cells]) rfl (by decide) fun g => ?_⟩
  conv => whnf
  refine ⟨trivial, OpAt.append (.slice A ws.length c) ws.length 1 16 (strV ws) [.string (bs s)] (some ⟨g, 0, none⟩) 1 1 _ rfl (fun h s => sepL_pull 2 s) rfl rfl rfl rfl rfl rfl rfl rfl rfl (by decide) (fun w hw => rowH_reads rfl (hw.in_ 0 rfl)) (by simp [Value.oneCell']) (by simp only [maxLen]; omega) (by omega) fun A' c' => ?_⟩
  conv => whnf
  refine ⟨trivial, OpAt.store lb 0 (.slice A' (ws.length + 1) c') _ rfl (fun h s => sepL_pull 2 s) rfl rfl rfl rfl rfl (by simp [Value.cells, Value.oneCell']) (fun h r => blk_put (by show 0 + 1 ≤ 2; omega) r) ?_⟩
  conv => whnf
  refine ⟨trivial, .mk [lnH lb (ws ++ [s])] (fun w ⟨h, hs, s'⟩ => ?_) ⟨rfl, rfl⟩⟩
  obtain ⟨h', e, s2⟩ := sub_front (m := [blkH lb 51 #[.slice A' (ws.length + 1) c', .bool false], rowH (.slice A' (ws.length + 1) c') (ws.length + 1) 9 1 (strV ws ++ [.string (bs s)])]) s'
  refine ⟨h', hs.mono e, boxH_shut (parts := lnP lb (ws ++ [s])) (A', c') ?_⟩
  rw [List.append_nil]
  unfold lnP strV
  rw [List.length_append, List.map_append]
  exact s2
theorem sNumber {R : HP} (hN : ∀ w, Sat R w → NumW w) (n : Int) (h : I64 n) : PureR Tryz.prog R 49 [.string (bs (Lib.itoa n))] (.int .i64 n) := by
  have hr := fun R' (h' : ∀ w, Sat R' w → Sat R w) => sRead (R := R') (fun w s => hN w (h' w s)) (Lib.itoa n) (by have := itoa_len20 h; omega)
  rw [read_itoa n h.1 h.2] at hr
  refine fn_of_run0 false Tryz.func49 rfl hmix rfl fun w0 => ?_
  conv => whnf
  refine ⟨trivial, CallAt.pure (fun R' hR' => hr R' hR') ?_⟩
  conv => whnf
  refine iff_f rfl ?_
  conv => whnf
  exact ⟨trivial, fin_pure rfl rfl⟩
abbrev ptrV (b : Nat) (ps : List (Nat × Int)) : List Value := ps.map fun p => .pointer (some ⟨b, p.1, none⟩)
abbrev itoas (ps : List (Nat × Int)) : List (List UInt8) := ps.map fun p => Lib.itoa p.2
theorem sNumbers {R : HP} {lb b : Nat} {tb : TypeId} {cs : Array Value} {A : Option Addr} {m c : Nat} (hN : ∀ w, Sat R w → NumW w) (ws : List (List UInt8)) (ps : List (Nat × Int)) (hm : ps.length = m) (hm2 : m ≤ 100) (hw : ws.length ≤ 100000) (ha : Sl R A m 1 (ptrV b ps)) (hp : ∀ p ∈ ps, cs[p.1]? = some (.int .i64 p.2) ∧ I64 p.2) :
    FnR Tryz.prog R 31 [.pointer (some ⟨lb, 0, none⟩), .slice A m c] [lnH lb ws, blkH b tb cs] fun r hs => r = .tuple #[] ∧ hs = [lnH lb (ws ++ itoas ps), blkH b tb cs] := by
  refine FnR.of_sat fun wS hS => ?_
  obtain ⟨_, sa⟩ := ha.spot (by omega) (Sat.rest hS)
  refine fn_of_run0 false Tryz.func31 rfl hmix rfl fun w0 => ?_
  conv => whnf
  refine ⟨trivial, LoopAt.heap (α := Nat) [0, 6, 7] (fun i => [(8, .v (.int .i64 (i : Int)))]) (fun i => [lnH lb (ws ++ itoas (ps.take i)), blkH b tb cs]) (fun i => i ≤ m) (fun i => m - i) 0 (Nat.zero_le _) rfl ⟨⟨rfl, rfl⟩, trivial⟩ ⟨⟨rfl, rfl⟩, ⟨rfl, rfl⟩, ⟨rfl, rfl⟩, trivial⟩ trivial (fun h s => sub_same (by simpa using s)) ?_⟩
  intro i hi
  conv => whnf
  refine ⟨fun h => ?_, fun h => ?_⟩
  · have hi2 : i < m := by simpa using h
    rcases sa with sa | ⟨ab, off, rfl, sa⟩
    · omega
    have hil : i < ps.length := by omega
    obtain ⟨hk, hr⟩ := hp _ (List.getElem_mem hil)
    have f1 : (ptrV b ps)[i]? = some (.pointer (some ⟨b, (ps[i]).1, none⟩)) := by simp [hil]
    have f2 : itoas (ps.take (i + 1)) = itoas (ps.take i) ++ [Lib.itoa (ps[i]).2] := by show (ps.take (i + 1)).map _ = _; rw [List.take_succ_eq_append_getElem hil, List.map_append]; rfl
    have f3 : (itoas (ps.take i)).length ≤ 100 := by simp; omega
    generalize ps[i] = p at *
    obtain ⟨k, z⟩ := p
    simp only at hk hr f1 f2
    generalize itoas (ps.take i) = us at *
    conv => whnf
    refine ⟨⟨trivial, by omega⟩, LoadAt.cell (.pointer (some ⟨b, k, none⟩)) rfl rfl (fun w hw => ?_) ?_⟩
    · simp only [Int.toNat_natCast, Nat.mul_one]
      exact sa w (Sat.rest hw) _ _ f1
    conv => whnf
    refine ⟨trivial, LoadAt.cell (.int .i64 z) rfl rfl (fun w hw => blk_cell (hw.in_ 1 rfl) hk) ?_⟩
    conv => whnf
    refine ⟨trivial, CallAt.pure (fun R' hR' => sPrint (fun w s => hN w (Sat.rest (hR' w s))) z hr.1 hr.2) ?_⟩
    conv => whnf
    refine ⟨trivial, CallAt.fn (pre := [lnH lb (ws ++ us)]) _ (fun h s => s) (fun R' hR' => sWord (Lib.itoa z) (by simp; omega)) ?_⟩
    rintro r hs ⟨rfl, rfl⟩
    conv => whnf
    refine ⟨trivial, CallAt.pure (fun R' hR' => sNumber (fun w s => hN w (Sat.rest (hR' w s))) z hr) ?_⟩
    conv => whnf
    refine ⟨trivial, OpAt.store (A' := blkH b tb cs) b k (.int .i64 z) _ rfl (fun h s => sepL_pull 1 s) rfl rfl rfl rfl rfl (by simp [Value.cells, Value.oneCell']) (fun h r => ?_) ?_⟩
    · have hb := blk_put (off := k) (ys := [.int .i64 z]) (by have := (Array.getElem?_eq_some_iff.1 hk).1; simp; omega) r
      rw [putL_same hk] at hb
      exact hb
    conv => whnf
    refine ⟨(by (repeat' apply And.intro) <;> first | exact True.intro | (unfold rng; omega) | omega), Next.heap (i + 1) (by omega) (by omega) ⟨⟨rfl, rfl⟩, trivial⟩ ⟨⟨rfl, rfl⟩, ⟨rfl, rfl⟩, ⟨rfl, rfl⟩, trivial⟩ trivial rfl rfl fun h s => sub_same ?_⟩
    rw [f2, ← List.append_assoc]
    exact sepL_pull 1 s
  · have hi3 : i = m := by simp at h; omega
    subst hi3
    conv => whnf
    refine ⟨trivial, .mk _ (fun w s => s) ⟨rfl, ?_⟩⟩
    rw [List.take_of_length_le (by omega)]
theorem sCell {R : HP} {lb b : Nat} {tb : TypeId} {cs : Array Value} (hN : ∀ w, Sat R w → NumW w) (ws : List (List UInt8)) (k : Nat) (x y : Int) (hw : ws.length ≤ 100000) (hx : cs[k]? = some (.int .i64 x)) (hy : cs[k + 1]? = some (.int .i64 y)) (bx : I64 x) (by' : I64 y) :
    FnR Tryz.prog R 32 [.pointer (some ⟨lb, 0, none⟩), .pointer (some ⟨b, k, none⟩)] [lnH lb ws, blkH b tb cs] fun r hs => r = .tuple #[] ∧ hs = [lnH lb (ws ++ [Lib.itoa x, Lib.itoa y]), blkH b tb cs] := by
  refine fn_of_run0 false Tryz.func32 rfl hmix rfl fun w0 => ?_
  conv => whnf
  refine ⟨trivial, RegAt.groups [([.T 0, .T 1, .T 2, .T 3, .T 4, .T 5, .T 6, .H 7], 8), ([.H 8], 9)] hmix (by kernel_rfl) ?_⟩
  conv => whnf
  refine ⟨trivial, OpAt.lit (ptrV b [(k, x), (k + 1, y)]) 1 rfl rfl rfl rfl rfl (by decide) rfl rfl rfl (by simp [Value.cells]) rfl (by decide) fun g => ?_⟩
  conv => whnf
  refine ⟨trivial, ⟨⟨rfl, rfl⟩, fun h s => sub_tail s⟩, ?_⟩
  conv => whnf
  refine ⟨trivial, CallAt.fn (pre := [lnH lb ws, blkH b tb cs]) _ (fun h s => sepL_perm (List.Perm.trans (List.Perm.swap _ _ _) ((List.Perm.swap _ _ _).cons _)) s) (fun R' hR' => sNumbers (fun w s => hN w (Sat.rest (hR' w s))) ws [(k, x), (k + 1, y)] rfl (by decide) hw (Sl.row fun w s => (hR' w s).in_ 0 rfl) (fun p hp => ?_)) ?_⟩
  · simp only [List.mem_cons, List.not_mem_nil, or_false] at hp
    rcases hp with rfl | rfl
    · exact ⟨hx, bx⟩
    · exact ⟨hy, by'⟩
  rintro r hs ⟨rfl, rfl⟩
  conv => whnf
  refine ⟨trivial, ?_⟩
  conv => whnf
  exact ⟨trivial, .mk [lnH lb (ws ++ [Lib.itoa x, Lib.itoa y]), blkH b tb cs] (fun w ⟨h, hs, s⟩ => by obtain ⟨h', e, s2⟩ := sub_front (m := [lnH lb (ws ++ [Lib.itoa x, Lib.itoa y]), blkH b tb cs]) s; exact ⟨h', hs.mono e, s2⟩) ⟨rfl, rfl⟩⟩
theorem sRect {R : HP} {lb b : Nat} {tb : TypeId} {cs : Array Value} (hN : ∀ w, Sat R w → NumW w) (ws : List (List UInt8)) (k : Nat) (x y z u : Int) (hw : ws.length ≤ 100000) (hx : cs[k]? = some (.int .i64 x)) (hy : cs[k + 1]? = some (.int .i64 y)) (hz : cs[k + 2]? = some (.int .i64 z)) (hu : cs[k + 3]? = some (.int .i64 u)) (bx : I64 x) (by' : I64 y) (bz : I64 z) (bu : I64 u) :
    FnR Tryz.prog R 33 [.pointer (some ⟨lb, 0, none⟩), .pointer (some ⟨b, k, none⟩)] [lnH lb ws, blkH b tb cs] fun r hs => r = .tuple #[] ∧ hs = [lnH lb (ws ++ [Lib.itoa x, Lib.itoa y, Lib.itoa z, Lib.itoa u]), blkH b tb cs] := by
  refine fn_of_run0 false Tryz.func33 rfl hmix rfl fun w0 => ?_
  conv => whnf
  refine ⟨trivial, RegAt.groups [([.T 0, .T 1, .T 2, .T 3, .T 4, .T 5, .T 6, .T 7, .T 8, .T 9, .T 10, .T 11, .T 12, .H 13], 14), ([.H 14], 15)] hmix (by kernel_rfl) ?_⟩
  conv => whnf
  refine ⟨trivial, OpAt.lit (ptrV b [(k, x), (k + 1, y), (k + 2, z), (k + 3, u)]) 1 rfl rfl rfl rfl rfl (by decide) rfl rfl rfl (by simp [Value.cells]) rfl (by decide) fun g => ?_⟩
  conv => whnf
  refine ⟨trivial, ⟨⟨rfl, rfl⟩, fun h s => sub_tail s⟩, ?_⟩
  conv => whnf
  refine ⟨trivial, CallAt.fn (pre := [lnH lb ws, blkH b tb cs]) _ (fun h s => sepL_perm (List.Perm.trans (List.Perm.swap _ _ _) ((List.Perm.swap _ _ _).cons _)) s) (fun R' hR' => sNumbers (fun w s => hN w (Sat.rest (hR' w s))) ws [(k, x), (k + 1, y), (k + 2, z), (k + 3, u)] rfl (by decide) hw (Sl.row fun w s => (hR' w s).in_ 0 rfl) (fun p hp => ?_)) ?_⟩
  · simp only [List.mem_cons, List.not_mem_nil, or_false] at hp
    rcases hp with rfl | rfl | rfl | rfl
    · exact ⟨hx, bx⟩
    · exact ⟨hy, by'⟩
    · exact ⟨hz, bz⟩
    · exact ⟨hu, bu⟩
  rintro r hs ⟨rfl, rfl⟩
  conv => whnf
  refine ⟨trivial, ?_⟩
  conv => whnf
  exact ⟨trivial, .mk [lnH lb (ws ++ [Lib.itoa x, Lib.itoa y, Lib.itoa z, Lib.itoa u]), blkH b tb cs] (fun w ⟨h, hs, s⟩ => by obtain ⟨h', e, s2⟩ := sub_front (m := [lnH lb (ws ++ [Lib.itoa x, Lib.itoa y, Lib.itoa z, Lib.itoa u]), blkH b tb cs]) s; exact ⟨h', hs.mono e, s2⟩) ⟨rfl, rfl⟩⟩
end Go.Proofs.YtihkhomnhggifaaGreatDoor

