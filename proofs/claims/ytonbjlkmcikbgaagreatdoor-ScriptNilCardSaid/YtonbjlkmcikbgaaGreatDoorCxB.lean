/-
  Closed runs: the operations, one by one.
-/
import Derived.Test.YtonbjlkmcikbgaaGreatDoorCxA
import Derived.Great.FillDense
import Derived.Great.BuildSlice
import Derived.Laws.MakeOwn
namespace Go.Proofs.YtonbjlkmcikbgaaGreatDoor
open Go.RowKit
namespace Cx
set_option linter.unusedVariables false
set_option linter.unusedSimpArgs false

mutual
theorem Den.flat_eq {ρ : Rn} : ∀ {v u : Value}, Den ρ v u → Cx.flat v = true → u = v
  | _, _, .flat _, _ => rfl
  | _, _, .ptr _, hf => by cases hf
  | _, _, .slc _ _, hf => by cases hf
  | _, _, .grown _ _ _ _, hf => by cases hf
  | _, _, .fn h, hf => by rw [DenL.flat_eq h (by simpa [Cx.flat] using hf)]
  | _, _, .ifc h, hf => by rw [Den.flat_eq h (by simpa [Cx.flat] using hf)]
  | _, _, .agg h, hf => by rw [DenL.flat_eq h (by simpa [Cx.flat] using hf)]
  | _, _, .tup h, hf => by rw [DenL.flat_eq h (by simpa [Cx.flat] using hf)]
theorem DenL.flat_eq {ρ : Rn} : ∀ {l m : List Value}, DenL ρ l m → Cx.flats l = true → m = l
  | _, _, .nil, _ => rfl
  | _, _, .cons (x := x) (l := l) h t, hf => by
    unfold Cx.flats at hf
    split at hf
    · rename_i e
      rw [Den.flat_eq h e, DenL.flat_eq t hf]
    · cases hf
end
/-- what an evaluator must be -/
def EvOK (ρ : Rn) (t : Tm) (ev : Operand → Value) (l : List Operand) : Prop := ∀ x ∈ l, ∀ v, evl t x = some v → Den ρ v (ev x)
theorem EvOK.tail {ρ : Rn} {t : Tm} {ev : Operand → Value} {x : Operand} {l : List Operand} (h : EvOK ρ t ev (x :: l)) : EvOK ρ t ev l := fun y hy => h y (List.mem_cons_of_mem _ hy)
theorem evls_sound {ρ : Rn} {t : Tm} {ev : Operand → Value} : ∀ {l : List Operand} {vs : List Value}, EvOK ρ t ev l → evls t l = some vs → DenL ρ vs (l.map ev)
  | [], vs, _, h => by simp [evls] at h; subst h; exact .nil
  | x :: l, vs, m, h => by
    simp only [evls, bd_some, Option.some.injEq] at h
    obtain ⟨v, hv, r, hr, rfl⟩ := h
    exact .cons (m x List.mem_cons_self v hv) (evls_sound m.tail hr)
/-- what an operation comes to -/
def OpOK (P : Program) (t : Tm) (h : Hp) (c : Nat) (o : Oper) : OR → Prop
  | .val v h' c' => c ≤ c' ∧ ∀ ρ w ev, EvOK ρ t ev o.op.operands.toList → Lay ρ h w → Free ρ c c' → ∃ n u w' ρ', (execOp ev o).run P w = .ok n w' ∧ (n = .value u ∨ (n = .skip ∧ u = undef)) ∧ Den ρ' v u ∧ Ran ρ h c w ρ' h' c' w'
  | .ent f args => ∀ ρ w ev, EvOK ρ t ev o.op.operands.toList → Lay ρ h w → ∃ us : List Value, (execOp ev o).run P w = .ok (.enter f us.toArray) w ∧ DenL ρ args us
/-- an operation that touches no memory -/
theorem OpOK.pure {P : Program} {t : Tm} {h : Hp} {c : Nat} {o : Oper} {v : Value} (H : ∀ ρ w ev, EvOK ρ t ev o.op.operands.toList → Lay ρ h w → ∃ u, (execOp ev o).run P w = .ok (.value u) w ∧ Den ρ v u) : OpOK P t h c o (.val v h c) :=
  ⟨Nat.le_refl _, fun ρ w ev m l _ => by
    obtain ⟨u, h1, h2⟩ := H ρ w ev m l
    exact ⟨_, u, w, ρ, h1, .inl rfl, h2, .refl l⟩⟩

/-! what values are -/
section
variable {ρ : Rn} {v u : Value}
theorem Den.ptr_inv {a : Addr} (h : Den ρ (.pointer (some a)) u) : ∃ x, ρ a.block = some x ∧ a.spot = none ∧ u = .pointer (some ⟨x.b, a.off, none⟩) := by
  cases h with
  | flat h => cases h
  | ptr h => exact ⟨_, h, rfl, rfl⟩
theorem ptrV_some {x : Option Value} {a : Addr} (h : ptrV x = some a) : x = some (.pointer (some a)) := by
  unfold ptrV at h; split at h
  · injection h with h; subst h; rfl
  · cases h
theorem natV_some {x : Option Value} {i : Nat} (h : natV x = some i) : ∃ k, x = some (.int k (.ofNat i)) := by
  unfold natV at h; split at h
  · injection h with h; subst h; exact ⟨_, rfl⟩
  · cases h
theorem aggV_some {x : Option Value} {l : List Value} (h : aggV x = some l) : x = some (.agg ⟨l⟩) := by
  unfold aggV at h; split at h
  · injection h with h; subst h; rfl
  · cases h
theorem tupV_some {x : Option Value} {l : List Value} (h : tupV x = some l) : x = some (.tuple ⟨l⟩) := by
  unfold tupV at h; split at h
  · injection h with h; subst h; rfl
  · cases h
theorem funV_some {x : Option Value} {q : FuncId × List Value} (h : funV x = some q) : x = some (.func (.func q.1) ⟨[]⟩ ⟨q.2⟩) := by
  unfold funV at h; split at h
  · injection h with h; subst h; rfl
  · cases h
theorem ifcV_some {x : Option Value} {q : TypeId × Value} (h : ifcV x = some q) : x = some (.iface q.1 q.2) := by
  unfold ifcV at h; split at h
  · injection h with h; subst h; rfl
  · cases h
theorem boolV_some {x : Option Value} {b : Bool} (h : boolV x = some b) : x = some (.bool b) := by
  unfold boolV at h; split at h
  · injection h with h; subst h; rfl
  · cases h
theorem Den.int_inv {k : IntKind} {i : Int} (h : Den ρ (.int k i) u) : u = .int k i := by cases h; rfl
theorem Den.bool_inv {b : Bool} (h : Den ρ (.bool b) u) : u = .bool b := by cases h; rfl
theorem Den.str_inv {s : ByteArray} (h : Den ρ (.string s) u) : u = .string s := by cases h; rfl
theorem Den.agg_inv {l : List Value} (h : Den ρ (.agg ⟨l⟩) u) : ∃ m, u = .agg ⟨m⟩ ∧ DenL ρ l m := by
  cases h with
  | flat h => exact ⟨l, rfl, DenL.flat (by simpa [Cx.flat] using h)⟩
  | agg h => exact ⟨_, rfl, h⟩
theorem Den.tup_inv {l : List Value} (h : Den ρ (.tuple ⟨l⟩) u) : ∃ m, u = .tuple ⟨m⟩ ∧ DenL ρ l m := by
  cases h with
  | flat h => exact ⟨l, rfl, DenL.flat (by simpa [Cx.flat] using h)⟩
  | tup h => exact ⟨_, rfl, h⟩
theorem Den.ifc_inv {t : TypeId} (h : Den ρ (.iface t v) u) : ∃ x, u = .iface t x ∧ Den ρ v x := by
  cases h with
  | flat h => exact ⟨v, rfl, .flat (by simpa [Cx.flat] using h)⟩
  | ifc h => exact ⟨_, rfl, h⟩
theorem Den.fn_inv {f : FuncId} {l : List Value} (h : Den ρ (.func (.func f) ⟨[]⟩ ⟨l⟩) u) : ∃ m, u = .func (.func f) ⟨[]⟩ ⟨m⟩ ∧ DenL ρ l m := by
  cases h with
  | flat h => exact ⟨l, rfl, DenL.flat (by simpa [Cx.flat] using h)⟩
  | fn h => exact ⟨_, rfl, h⟩
theorem Den.slc_inv {a : Addr} {len cap : Nat} (h : Den ρ (.slice (some a) len cap) u) : ∃ x q, ρ a.block = some x ∧ a.spot = none ∧ u = .slice (some ⟨x.b, a.off, none⟩) len q ∧ ((cap ≠ unk ∧ q = cap) ∨ (cap = unk ∧ len ≤ q ∧ q < unk ∧ a.off + q * x.k ≤ x.sz)) := by
  cases h with
  | flat h => cases h
  | slc h hc => exact ⟨_, _, h, rfl, rfl, .inl ⟨hc, rfl⟩⟩
  | grown h h1 h2 h3 => exact ⟨_, _, h, rfl, rfl, .inr ⟨rfl, h1, h2, h3⟩⟩
theorem Den.nil_slc_inv {len cap : Nat} (h : Den ρ (.slice none len cap) u) : u = .slice none len cap := by cases h; rfl
theorem Den.nil_ptr_inv (h : Den ρ (.pointer none) u) : u = .pointer none := by cases h; rfl
end

/-! the operations -/
section
variable {P : Program} {t : Tm} {h : Hp} {c : Nat} {o : Oper} {r : OR}
theorem evl_at {ρ : Rn} {ev : Operand → Value} {l : List Operand} (m : EvOK ρ t ev l) {x : Operand} (hx : x ∈ l) {v : Value} (e : evl t x = some v) : Den ρ v (ev x) := m x hx v e
theorem opMove_sound {x : Operand} (ho : o.op = .move x ∨ o.op = .assign x) (e : opMove t h c x = some r) : OpOK P t h c o r := by
  simp only [opMove, bd_some, Option.some.injEq] at e
  obtain ⟨v, hv, rfl⟩ := e
  refine .pure fun ρ w ev m _ => ?_
  rcases ho with ho | ho
  · exact ⟨ev x, by simp [execOp, ho], m x (by simp [ho, Op.operands]) v hv⟩
  · exact ⟨ev x, by simp [execOp, ho], m x (by simp [ho, Op.operands]) v hv⟩
theorem opPick_sound {x a b : Operand} (ho : o.op = .pick x a b) (e : opPick t h c x a b = some r) : OpOK P t h c o r := by
  simp only [opPick, bd_some] at e
  obtain ⟨q, hq, e⟩ := e
  have hx := boolV_some hq
  cases q with
  | true =>
    simp only [opMove, bd_some, Option.some.injEq] at e
    obtain ⟨v, hv, rfl⟩ := e
    refine .pure fun ρ w ev m _ => ⟨ev a, ?_, m a (by simp [ho, Op.operands]) v hv⟩
    have := (m x (by simp [ho, Op.operands]) _ hx).bool_inv
    simp [execOp, ho, this, asBool]
  | false =>
    simp only [opMove, bd_some, Option.some.injEq] at e
    obtain ⟨v, hv, rfl⟩ := e
    refine .pure fun ρ w ev m _ => ⟨ev b, ?_, m b (by simp [ho, Op.operands]) v hv⟩
    have := (m x (by simp [ho, Op.operands]) _ hx).bool_inv
    simp [execOp, ho, this, asBool]
theorem zeroV_some {e : TypeId} {z : Value} (hz : zeroV P e = some z) : flat z = true ∧ ∃ i, P.info? e = some i ∧ i.zero = some z := by
  simp only [zeroV, bd_some, gd_some, Option.some.injEq] at hz
  obtain ⟨i, hi, z', hz, hf, rfl⟩ := hz
  exact ⟨hf, i, hi, hz⟩
theorem newV_some {o : Ob} {q : Hp × Nat} (e : newV h c o = some q) : c < cap0 ∧ q = (Tr.set (some o) 24 h c, c + 1) := by
  simp only [newV, gd_some, Tr.setK_eq, Option.some.injEq] at e
  exact ⟨blt_of e.1, e.2.symm⟩
/-- a new object of just these cells -/
theorem newV_sound {b : Ob} {q : Hp × Nat} (e : newV h c b = some q) {o : Oper}
    (H : ∀ ρ w ev, EvOK ρ t ev o.op.operands.toList → Lay ρ h w → ∃ us : Array Value, DenL ρ b.cs us.toList ∧ (execOp ev o).run P w = .ok (.value (.pointer (some ⟨w.heap.size, 0, none⟩))) (w.alloc (.cells us b.ty))) : OpOK P t h c o (.val (.pointer (some ⟨c, 0, none⟩)) q.1 q.2) := by
  obtain ⟨hc, rfl⟩ := newV_some e
  refine ⟨Nat.le_succ _, fun ρ w ev m l f => ?_⟩
  obtain ⟨us, hd, hr⟩ := H ρ w ev m l
  have hl := hd.len
  have rn := Ran.new l hc f b us (by rw [← hl]; simp) (by rw [List.take_of_length_le (by rw [hl]; exact Nat.le_refl _)]; exact hd)
  exact ⟨_, _, _, _, hr, .inl rfl, .ptr (x := ⟨w.heap.size, us.size, b.k⟩) (by simp [upd]), rn⟩
theorem cells_flat {ρ : Rn} {z : Value} (hf : flat z = true) : DenL ρ (cellsOf z) z.cells.toList := (Den.flat hf).cells
theorem opAlloc_sound {e : TypeId} (ho : o.op = .alloc e) (hr : opAlloc P t h c e = some r) : OpOK P t h c o r := by
  simp only [opAlloc, bd_some, Option.some.injEq] at hr
  obtain ⟨z, hz, q, hq, rfl⟩ := hr
  obtain ⟨hf, i, hi, hz⟩ := zeroV_some hz
  refine newV_sound hq fun ρ w ev m l => ⟨z.cells, cells_flat hf, ?_⟩
  simp [execOp, ho, Instr.alloc, zeroValue, typeInfo, hi, hz, newVar, newRow, newObj]
  rfl
theorem opBox_sound {e : TypeId} {x : Operand} (ho : o.op = .box e x) (hr : opBox t h c e x = some r) : OpOK P t h c o r := by
  simp only [opBox, bd_some, Option.some.injEq] at hr
  obtain ⟨v, hv, q, hq, rfl⟩ := hr
  refine newV_sound hq fun ρ w ev m l => ⟨(ev x).cells, (m x (by simp [ho, Op.operands]) v hv).cells, ?_⟩
  simp [execOp, ho, Instr.box, newVar, newRow, newObj]
  rfl

theorem structD_some {d : Option TypeDesc} {l : List Field} (e : structD d = some l) : ∃ fs, d = some (.struct fs) ∧ l = fs.toList := by
  unfold structD at e; split at e
  · injection e with e; exact ⟨_, rfl, e.symm⟩
  · cases e
theorem sliceD_some {d : Option TypeDesc} {l : TypeId} (e : sliceD d = some l) : d = some (.slice l) := by
  unfold sliceD at e; split at e
  · injection e with e; subst e; rfl
  · cases e
theorem arrayD_some {d : Option TypeDesc} {l : Nat × TypeId} (e : arrayD d = some l) : d = some (.array l.1 l.2) := by
  unfold arrayD at e; split at e
  · injection e with e; subst e; rfl
  · cases e
theorem isAgg_run {e : TypeId} {d : TypeDesc} (hd : P.underlying e = some d) (w : World) : (isAgg e).run P w = .ok (isRowD d) w := by
  simp only [isAgg, Sem.run_bind, run_underlying hd, Result.andThen_ok]
  cases d <;> rfl
theorem partV_some {e : TypeId} {cs : List Value} {off : Nat} {v : Value} (hv : partV P e cs off = some v) : ∃ d, P.underlying e = some d ∧
    ((isRowD d = true ∧ ∃ i, P.info? e = some i ∧ ((cs.drop off).take i.size).length = i.size ∧ v = .agg ⟨(cs.drop off).take i.size⟩) ∨ (isRowD d = false ∧ cs[off]? = some v)) := by
  simp only [partV, bd_some] at hv
  obtain ⟨d, hd, hv⟩ := hv
  refine ⟨d, hd, ?_⟩
  split at hv
  · rename_i hr
    simp only [bd_some, forceL_eq, gd_some, Option.some.injEq] at hv
    obtain ⟨i, hi, hl, rfl⟩ := hv
    exact .inl ⟨hr, i, hi, beq_of hl, rfl⟩
  · rename_i hr
    rw [nth_eq] at hv
    exact .inr ⟨hr, hv⟩
theorem part_sound {ρ : Rn} {e : TypeId} {cs us : List Value} {off : Nat} {v : Value} (hv : partV P e cs off = some v) (hd : DenL ρ cs us) : ∃ u, Den ρ v u ∧ ∀ w, (part e ⟨us⟩ off).run P w = .ok u w := by
  obtain ⟨d, hu, ⟨hr, i, hi, hl, rfl⟩ | ⟨hr, hc⟩⟩ := partV_some hv
  · refine ⟨.agg ⟨(us.drop off).take i.size⟩, .agg ((hd.drop off).take i.size), fun w => ?_⟩
    have hx : (⟨us⟩ : Array Value).extract off (off + i.size) = ⟨(us.drop off).take i.size⟩ := by
      apply Array.ext'
      simp [List.extract_eq_take_drop, List.take_drop, Nat.add_comm]
    simp [part, isAgg_run hu, hr, sizeOf, typeInfo, hi, hx]
  · obtain ⟨u, h1, h2⟩ := hd.at hc
    refine ⟨u, h2, fun w => ?_⟩
    have : (⟨us⟩ : Array Value)[off]? = some u := by simpa using h1
    simp [part, Sem.run_bind, isAgg_run hu, hr, this]
/-- a load -/
theorem load_sound {ρ : Rn} {w : World} {e : TypeId} {cs : List Value} {off : Nat} {v : Value} (hv : partV P e cs off = some v) {b : Nat} {us : Array Value} {ty : TypeId} (hw : w.heap[b]? = some (.cells us ty (0, 0))) (hd : DenL ρ cs (us.toList.take cs.length)) :
    ∃ u, Den ρ v u ∧ (Instr.loadAt e (.pointer (some ⟨b, off, none⟩))).run P w = .ok u w := by
  have at_ : ∀ j u, (us.toList.take cs.length)[j]? = some u → w.cell? ⟨b, j, none⟩ = some u := fun j u hj => by
    rw [cell_of_row w b j us ty (0, 0) hw]
    rw [List.getElem?_take] at hj
    split at hj
    · simpa using hj
    · cases hj
  obtain ⟨d, hu, ⟨hr, i, hi, hl, rfl⟩ | ⟨hr, hc⟩⟩ := partV_some hv
  · refine ⟨_, .agg ((hd.drop off).take i.size), ?_⟩
    have hl' := ((hd.drop off).take i.size).len
    refine run_loadAt_mid w b off e _ d (fun j u hj => ?_) hu (by cases d <;> first | rfl | cases hr) (by rw [hl', hl, hi]; rfl)
    rw [List.getElem?_take] at hj
    split at hj
    · rw [List.getElem?_drop] at hj
      exact at_ _ _ hj
    · cases hj
  · obtain ⟨u, h1, h2⟩ := hd.at hc
    refine ⟨u, h2, ?_⟩
    have hc := at_ _ _ h1
    simp [Instr.loadAt, Instr.sureAddr, loadVar, isAgg_run hu, hr, load, Sem.run, hc]
theorem opLoad_sound {e : TypeId} {x : Operand} (ho : o.op = .load e x) (hr : opLoad P t h c e x = some r) : OpOK P t h c o r := by
  simp only [opLoad, bd_some, Option.some.injEq] at hr
  obtain ⟨a, ha, ob, hb, v, hv, rfl⟩ := hr
  refine .pure fun ρ w ev m l => ?_
  obtain ⟨bk, h1, h2, h3⟩ := (m x (by simp [ho, Op.operands]) _ (ptrV_some ha)).ptr_inv
  obtain ⟨bk', us, f1, f2, f3, f4, f5, f6⟩ := l.ob _ _ hb
  rw [h1] at f1
  injection f1 with f1
  subst f1
  obtain ⟨u, g1, g2⟩ := load_sound hv f4 f6
  exact ⟨u, by simp [execOp, ho, h3, g2], g1⟩
theorem opField_sound {e : TypeId} {x : Operand} {f : Nat} (ho : o.op = .field e x f) (hr : opField P t h c e x f = some r) : OpOK P t h c o r := by
  simp only [opField, bd_some, nth_eq, Option.some.injEq] at hr
  obtain ⟨cs, hc, fs, hf, fd, hfd, v, hv, rfl⟩ := hr
  refine .pure fun ρ w ev m l => ?_
  obtain ⟨us, h1, h2⟩ := (m x (by simp [ho, Op.operands]) _ (aggV_some hc)).agg_inv
  obtain ⟨u, g1, g2⟩ := part_sound hv h2
  obtain ⟨fs', hu, rfl⟩ := structD_some hf
  have : fs'[f]? = some fd := by simpa using hfd
  exact ⟨u, by simp [execOp, ho, h1, Instr.field, run_underlying hu, this, asAgg, g2], g1⟩
theorem opIndex_sound {e : TypeId} {x y : Operand} (ho : o.op = .index e x y) (hr : opIndex P t h c e x y = some r) : OpOK P t h c o r := by
  simp only [opIndex, bd_some, gd_some, Option.some.injEq] at hr
  obtain ⟨cs, hc, i, hi, q, hq, hlt, ie, hie, v, hv, rfl⟩ := hr
  refine .pure fun ρ w ev m l => ?_
  obtain ⟨us, h1, h2⟩ := (m x (by simp [ho, Op.operands]) _ (aggV_some hc)).agg_inv
  obtain ⟨k, hk⟩ := natV_some hi
  have h3 := (m y (by simp [ho, Op.operands]) _ hk).int_inv
  obtain ⟨u, g1, g2⟩ := part_sound hv h2
  have hu := arrayD_some hq
  have hlt := blt_of hlt
  have hs : ∀ w, (sizeOf q.2).run P w = .ok ie.size w := fun w => by simp [sizeOf, typeInfo, hie]
  refine ⟨u, ?_, g1⟩
  simp [execOp, ho, h1, h3, Instr.index, run_underlying hu, asIntOf, hlt, hs, g2]
theorem opExtract_sound {x : Operand} {i : Nat} (ho : o.op = .extract x i) (hr : opExtract t h c x i = some r) : OpOK P t h c o r := by
  simp only [opExtract, bd_some, nth_eq, Option.some.injEq] at hr
  obtain ⟨cs, hc, v, hv, rfl⟩ := hr
  refine .pure fun ρ w ev m l => ?_
  obtain ⟨us, h1, h2⟩ := (m x (by simp [ho, Op.operands]) _ (tupV_some hc)).tup_inv
  obtain ⟨u, g1, g2⟩ := h2.at hv
  have : (⟨us⟩ : Array Value)[i]? = some u := by simpa using g1
  exact ⟨u, by simp [execOp, ho, h1, Instr.extract, this], g2⟩
theorem opFunc_sound {fn : Fn} {a b : Array Operand} (ho : o.op = .makeFunc fn a b) (hr : opFunc t h c fn a.toList b.toList = some r) : OpOK P t h c o r := by
  unfold opFunc at hr
  split at hr
  · rename_i _ _ f ha
    simp only [bd_some, Option.some.injEq] at hr
    obtain ⟨l, hl, rfl⟩ := hr
    have ha : a = #[] := by apply Array.ext'; simpa using ha
    refine .pure fun ρ w ev m _ => ?_
    have hd := evls_sound (ev := ev) (ρ := ρ) (fun y hy v hv => m y (by simp [ho, Op.operands]; exact .inr (by simpa using hy)) v hv) hl
    refine ⟨.func (.func f) ⟨[]⟩ ⟨b.toList.map ev⟩, ?_, .fn hd⟩
    simp [execOp, ho, Instr.makeFunc, ha]
    apply Array.ext'
    simp
  · cases hr
theorem opIface_sound {e : TypeId} {x : Operand} (ho : o.op = .makeInterface e x) (hr : opIface P t h c e x = some r) : OpOK P t h c o r := by
  simp only [opIface, bd_some] at hr
  obtain ⟨v, hv, hr⟩ := hr
  split at hr
  · cases hr
  · rename_i d hne hd
    injection hr with hr
    subst hr
    refine .pure fun ρ w ev m _ => ⟨.iface e (ev x), ?_, .ifc (m x (by simp [ho, Op.operands]) v hv)⟩
    simp only [execOp, ho, Instr.makeInterface, Sem.run_bind, run_underlying hd, Result.andThen_ok]
    cases d <;> first | rfl | exact absurd rfl (hne _)
  · cases hr
theorem opNil_sound {x : Operand} (ho : o.op = .nilCheck x) (hr : opNil t h c x = some r) : OpOK P t h c o r := by
  unfold opNil at hr
  split at hr
  · rename_i a hx
    injection hr with hr
    subst hr
    refine .pure fun ρ w ev m _ => ?_
    have d := m x (by simp [ho, Op.operands]) _ hx
    obtain ⟨bk, h1, h2, h3⟩ := d.ptr_inv
    exact ⟨ev x, by simp [execOp, ho, h3], d⟩
  · rename_i e v hx
    injection hr with hr
    subst hr
    refine .pure fun ρ w ev m _ => ?_
    have d := m x (by simp [ho, Op.operands]) _ hx
    obtain ⟨u, h1, h2⟩ := d.ifc_inv
    exact ⟨ev x, by simp [execOp, ho, h1], d⟩
  · rename_i f b hx
    injection hr with hr
    subst hr
    obtain ⟨b⟩ := b
    refine .pure fun ρ w ev m _ => ?_
    have d := m x (by simp [ho, Op.operands]) _ hx
    obtain ⟨u, h1, h2⟩ := d.fn_inv
    exact ⟨ev x, by simp [execOp, ho, h1], d⟩
  · cases hr
theorem opFieldAddr_sound {e : TypeId} {x : Operand} {f : Nat} (ho : o.op = .fieldAddr e x f) (hr : opFieldAddr P t h c e x f = some r) : OpOK P t h c o r := by
  simp only [opFieldAddr, bd_some, gd_some, nth_eq, Option.some.injEq] at hr
  obtain ⟨a, ha, fs, hf, fd, hfd, i, hi, hp, rfl⟩ := hr
  refine .pure fun ρ w ev m l => ?_
  obtain ⟨bk, h1, h2, h3⟩ := (m x (by simp [ho, Op.operands]) _ (ptrV_some ha)).ptr_inv
  obtain ⟨fs', hu, rfl⟩ := structD_some hf
  have hfd' : fs'[f]? = some fd := by simpa using hfd
  have hp : i.size ≠ 0 := by have := blt_of hp; omega
  refine ⟨_, ?_, .ptr h1⟩
  simp [execOp, ho, h3, Instr.fieldAt, run_underlying hu, hfd', Instr.sureAddr, fieldPlace, sizeOf, typeInfo, hi, hp, Addr.add_mid]
theorem opIndexAddr_sound {e : TypeId} {x y : Operand} (ho : o.op = .indexAddr e x y) (hr : opIndexAddr P t h c e x y = some r) : OpOK P t h c o r := by
  simp only [opIndexAddr, bd_some] at hr
  obtain ⟨i, hi, hr⟩ := hr
  obtain ⟨k, hk⟩ := natV_some hi
  split at hr
  · rename_i len el a hu hx
    simp only [gd_some, bd_some, Option.some.injEq] at hr
    obtain ⟨hlt, ie, hie, rfl⟩ := hr
    refine .pure fun ρ w ev m l => ?_
    obtain ⟨bk, h1, h2, h3⟩ := (m x (by simp [ho, Op.operands]) _ hx).ptr_inv
    have h4 := (m y (by simp [ho, Op.operands]) _ hk).int_inv
    have hlt := blt_of hlt
    refine ⟨_, ?_, .ptr h1⟩
    simp [execOp, ho, h3, h4, Instr.indexAt, run_underlying hu, Instr.sureAddr, asIntOf, hlt, sizeOf, typeInfo, hie, Addr.add_mid]
  · rename_i el a len cap hu hx
    simp only [gd_some, bd_some, Option.some.injEq] at hr
    obtain ⟨hlt, ie, hie, rfl⟩ := hr
    refine .pure fun ρ w ev m l => ?_
    obtain ⟨bk, q, h1, h2, h3, _⟩ := (m x (by simp [ho, Op.operands]) _ hx).slc_inv
    have h4 := (m y (by simp [ho, Op.operands]) _ hk).int_inv
    have hlt := blt_of hlt
    refine ⟨_, ?_, .ptr h1⟩
    simp [execOp, ho, h3, h4, Instr.indexAt, run_underlying hu, Instr.sureAddr, asIntOf, hlt, sizeOf, typeInfo, hie, Addr.add_mid]
  · cases hr
end
end Cx
end Go.Proofs.YtonbjlkmcikbgaaGreatDoor
