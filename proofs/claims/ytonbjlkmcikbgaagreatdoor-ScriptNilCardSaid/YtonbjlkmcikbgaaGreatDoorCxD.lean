/-
  Closed runs: the operations, the rest: literals, what is made, compared, cut, asserted, appended, copied; calls.
-/
import Derived.Test.YtonbjlkmcikbgaaGreatDoorCxC
import Derived.Deep.AppendSrc
namespace Go.Proofs.YtonbjlkmcikbgaaGreatDoor
open Go.RowKit
namespace Cx
set_option linter.unusedVariables false
set_option linter.unusedSimpArgs false
section
variable {P : Program} {t : Tm} {h : Hp} {c : Nat} {o : Oper} {r : OR}

theorem rep_len (z : List Value) : ∀ n, (rep z n).length = n * z.length
  | 0 => by simp [rep]
  | n + 1 => by simp [rep, rep_len z n, Nat.add_mul]; omega
theorem rep_get (z : List Value) : ∀ (n i : Nat), i < n * z.length → (rep z n)[i]? = z[i % z.length]?
  | 0, i, h => by simp at h
  | n + 1, i, h => by
    have hz : 0 < z.length := by
      rcases Nat.eq_zero_or_pos z.length with e | e
      · rw [e] at h; simp at h
      · exact e
    simp only [rep, List.getElem?_append]
    split
    · rename_i hi
      rw [Nat.mod_eq_of_lt hi]
    · rename_i hi
      rw [rep_get z n (i - z.length) (by rw [Nat.add_mul] at h; omega)]
      congr 1
      have : i = (i - z.length) + z.length := by omega
      rw [this, Nat.add_mod_right]
      simp
theorem rep_made {z : Value} (n : Nat) : madeCells z.cells (n * z.cells.size) = ⟨rep z.cells.toList n⟩ := by
  apply Array.ext'
  apply List.ext_getElem?
  intro i
  simp only [madeCells, Array.toList_map, Array.toList_range, List.getElem?_map]
  have hl : (rep z.cells.toList n).length = n * z.cells.size := by rw [rep_len]; simp
  by_cases hi : i < n * z.cells.size
  · rw [List.getElem?_range hi, rep_get _ _ _ (by simpa using hi)]
    have hz : 0 < z.cells.size := by
      rcases Nat.eq_zero_or_pos z.cells.size with e | e
      · rw [e] at hi; simp at hi
      · exact e
    have hm := Nat.mod_lt i hz
    simp [hm, getElem!_pos]
  · rw [List.getElem?_eq_none (by simpa using Nat.le_of_not_lt hi), List.getElem?_eq_none (by rw [hl]; omega)]
    rfl
theorem rep_den {ρ : Rn} {z : List Value} {u : List Value} (d : DenL ρ z u) : ∀ n, DenL ρ (rep z n) (rep u n)
  | 0 => .nil
  | n + 1 => d.append (rep_den d n)
theorem cells_len {ρ : Rn} {z : Value} (hf : flat z = true) : z.cells.size = (cellsOf z).length := by
  have := (cells_flat (ρ := ρ) hf).len
  simpa using this
theorem opMake_sound {s : TypeId} {x y : Operand} (ho : o.op = .makeSlice s x y) (hr : opMake P t h c s x y = some r) : OpOK P t h c o r := by
  simp only [opMake, bd_some, gd_some, forceL_eq, Bool.and_eq_true, Option.some.injEq] at hr
  obtain ⟨n, hn, cap, hcap, e, he, ie, hie, z, hz, ⟨h1, h2, h3, h4, h5⟩, q, hq, rfl⟩ := hr
  obtain ⟨hc, rfl⟩ := newV_some hq
  obtain ⟨hf, i, hi, hz⟩ := zeroV_some hz
  rw [hie] at hi
  injection hi with hi
  subst hi
  obtain ⟨kn, hn⟩ := natV_some hn
  obtain ⟨kc, hcap⟩ := natV_some hcap
  have hu := sliceD_some he
  have h1 := ble_of h1
  have h2 := ble_of h2
  have h3 := ble_of h3
  have h5 := beq_of h5
  refine ⟨Nat.le_succ _, fun ρ w ev m l f => ?_⟩
  have e1 := (m x (by simp [ho, Op.operands]) _ hn).int_inv
  have e2 := (m y (by simp [ho, Op.operands]) _ hcap).int_inv
  have hzc := cells_len (ρ := ρ) hf
  have hrun := run_make (P := P) w s e ie z hu hie hz kn kc (n : Int) (cap : Int) (by omega) (by omega) (by rw [← Int.natCast_mul]; unfold cap0 at h2; omega) (by unfold cap0 at h2; omega)
  simp only [Int.toNat_natCast] at hrun
  rw [← h5, ← hzc, rep_made] at hrun
  have hd := rep_den (cells_flat (ρ := ρ) hf) cap
  have hl := hd.len
  have rn := Ran.new l hc f ⟨e, ie.size, rep (cellsOf z) cap⟩ ⟨rep z.cells.toList cap⟩ (by simp only [← hl]; simp) (by simp only; rw [List.take_of_length_le (by rw [hl]; exact Nat.le_refl _)]; exact hd)
  refine ⟨_, _, _, _, ?_, .inl rfl, .slc (x := ⟨w.heap.size, (⟨rep z.cells.toList cap⟩ : Array Value).size, ie.size⟩) (by simp [upd]) (by unfold unk; unfold cap0 at h2; omega), rn⟩
  simp only [execOp, ho, e1, e2, Int.ofNat_eq_natCast, hrun, Sem.run_bind, Result.andThen_ok, Sem.run_pure, Sem.run_map]
theorem opLit_sound {s : TypeId} {len : Nat} {ps : Array (Nat × Operand)} (ho : o.op = .buildSlice s len ps) (hr : opLit P t h c s len ps.toList = some r) : OpOK P t h c o r := by
  simp only [opLit, bd_some, gd_some, forceL_eq, Bool.and_eq_true, Option.some.injEq] at hr
  obtain ⟨e, he, ie, hie, z, hz, l, hl, ⟨h1, h2, h3, h5⟩, cs, hcs, q, hq, rfl⟩ := hr
  obtain ⟨hc, rfl⟩ := newV_some hq
  obtain ⟨hf, i, hi, hz⟩ := zeroV_some hz
  rw [hie] at hi
  injection hi with hi
  subst hi
  have hu := sliceD_some he
  have h1 := ble_of h1
  have h2 := blt_of h2
  have h3 := ble_of h3
  have h5 := beq_of h5
  refine ⟨Nat.le_succ _, fun ρ w ev m ly f => ?_⟩
  have hzc := cells_len (ρ := ρ) hf
  have mm : EvOK ρ t ev (ps.toList.map (·.2)) := fun x hx => m x (by simpa [ho, Op.operands] using hx)
  obtain ⟨us, g1, g2⟩ := fillV_sound (evps_sound mm hl) hcs (rep_den (cells_flat hf) len)
  have hcl := g1.len
  have rn := Ran.new ly hc f ⟨e, ie.size, cs⟩ ⟨us⟩ (by simp only [← hcl]; simp) (by simp only; rw [List.take_of_length_le (by rw [hcl]; exact Nat.le_refl _)]; exact g1)
  refine ⟨_, _, _, _, ?_, .inl rfl, .slc (x := ⟨w.heap.size, (⟨us⟩ : Array Value).size, ie.size⟩) (by simp [upd]) (by unfold unk; unfold cap0 at h1; omega), rn⟩
  have hz' : (Array.range (len * ie.size)).map (z.cells[· % z.cells.size]!) = ⟨rep z.cells.toList len⟩ := by
    rw [← rep_made, ← h5, ← hzc]; rfl
  have g2' : Instr.fill (fun i => some (i * ie.size, ie.size)) ((Array.range (len * ie.size)).map (z.cells[· % z.cells.size]!)) (ps.map fun (i, x) => (i, ev x)).toList = some ⟨us⟩ := by
    rw [hz', Array.toList_map]; exact g2
  simp only [execOp, ho, Sem.run_bind]
  by_cases h0 : len = 0
  · subst h0
    rw [hz'] at g2'
    simp only [rep] at g2'
    simp [Instr.buildSlice, run_underlying hu, sizeOf, typeInfo, hie, newRow, newObj]
    rw [show Array.map (fun _ => (default : Value)) (Array.range 0) = #[] from by apply Array.ext'; simp]
    have g3 : Instr.fill (fun i => some (i * ie.size, ie.size)) #[] (List.map (fun x => (x.1, ev x.2)) ps.toList) = some ⟨us⟩ := by simpa using g2'
    rw [g3]
    rfl
  · rw [run_buildSlice w s e len _ ⟨us⟩ ie z hu hie hz (by omega) (Nat.mul_ne_zero h0 (by omega)) g2']
    simp

theorem pureVal_sound {α : Type} : ∀ {s : Sem α} {a : α}, pureVal P s = some a → ∀ w, s.run P w = .ok a w
  | .pure a, b, h, w => by
    simp only [pureVal, Option.some.injEq] at h
    subst h; rfl
  | .program k, b, h, w => pureVal_sound (s := k P) h w
  | .mark _ k, b, h, w => pureVal_sound (s := k) h w
  | .load .., _, h, _ => by cases h
  | .store .., _, h, _ => by cases h
  | .new .., _, h, _ => by cases h
  | .shape .., _, h, _ => by cases h
  | .freeze .., _, h, _ => by cases h
  | .frozen .., _, h, _ => by cases h
  | .getObj .., _, h, _ => by cases h
  | .setObj .., _, h, _ => by cases h
  | .choose .., _, h, _ => by cases h
  | .sys .., _, h, _ => by cases h
  | .halt .., _, h, _ => by cases h
theorem allFlat_eq {ρ : Rn} {ev : Operand → Value} : ∀ {l : List Operand}, allFlat t l = true → EvOK ρ t ev l → ∀ x ∈ l, ev x = evD t x
  | [], _, _, x, hx => by cases hx
  | y :: l, h, m, x, hx => by
    unfold allFlat at h
    split at h
    · rename_i v hv
      split at h
      · rename_i hf
        rcases List.mem_cons.1 hx with rfl | hx
        · rw [(m x List.mem_cons_self v hv).flat_eq hf]
          simp [evD, hv]
        · exact allFlat_eq h m.tail x hx
      · cases h
    · cases h
theorem modelV_sound (hr : modelV P t h c o = some r) : OpOK P t h c o r := by
  simp only [modelV, gd_some, Bool.and_eq_true] at hr
  obtain ⟨⟨hns, hall⟩, hr⟩ := hr
  split at hr
  · rename_i v hv
    simp only [gd_some, Option.some.injEq] at hr
    obtain ⟨hf, rfl⟩ := hr
    refine .pure fun ρ w ev m _ => ⟨v, ?_, .flat hf⟩
    have hc : execOp ev o = execOp (evD t) o := execOp_congr o (fun cs b e => by rw [e] at hns; cases hns) fun x hx => allFlat_eq hall m x (by simpa using hx)
    rw [hc]
    exact pureVal_sound hv w
  · cases hr

/-! two values compared -/
theorem eqV_sound {ρ : Rn} {e : TypeId} {x y u v : Value} {b : Bool} (hr : eqV P e h x y = some b) (hx : Den ρ x u) (hy : Den ρ y v) (w : World) (z z' : Operand) :
    (binOp .eql e u v).run P w = .ok (.bool b) w ∧ (binOp .neq e u v).run P w = .ok (.bool (!b)) w ∧ ∀ op, (eqGuard op e z z' u v).run P w = .ok () w := by
  have fin : ∀ {u v : Value}, (Op.equal e u v).run P w = .ok b w → (binOp .eql e u v = do pure (.bool (← Op.equal e u v))) → (binOp .neq e u v = do pure (.bool (!(← Op.equal e u v)))) → (∀ op, eqGuard op e z z' u v = if !(op matches .eql | .neq) then pure () else pure ()) →
      (binOp .eql e u v).run P w = .ok (.bool b) w ∧ (binOp .neq e u v).run P w = .ok (.bool (!b)) w ∧ ∀ op, (eqGuard op e z z' u v).run P w = .ok () w := by
    intro u v h1 h2 h3 h4
    refine ⟨by rw [h2]; simp [h1], by rw [h3]; simp [h1], fun op => by rw [h4]; split <;> rfl⟩
  have go : ∀ {u v : Value} {q : Bool}, (Op.equalIn (9999 + 1) e u v).run P w = .ok q w → (Op.equal e u v).run P w = .ok q w := fun h => h
  unfold eqV at hr
  split at hr
  · rename_i el hu
    split at hr
    · rename_i c
      injection hr with hr
      have := hx.nil_ptr_inv
      subst this
      cases c with
      | none =>
        have := hy.nil_ptr_inv
        subst this hr
        exact fin (go (by unfold Op.equalIn; simp [run_underlying hu])) rfl rfl (fun op => rfl)
      | some a =>
        obtain ⟨bk, h1, h2, rfl⟩ := hy.ptr_inv
        subst hr
        exact fin (go (by unfold Op.equalIn; simp [run_underlying hu])) rfl rfl (fun op => rfl)
    · injection hr with hr
      obtain ⟨bk, h1, h2, rfl⟩ := hx.ptr_inv
      have := hy.nil_ptr_inv
      subst this hr
      exact fin (go (by unfold Op.equalIn; simp [run_underlying hu])) rfl rfl (fun op => rfl)
    · rename_i a' b'
      simp only [bd_some, gd_some, Bool.and_eq_true, Option.some.injEq] at hr
      obtain ⟨i, hi, ⟨hs, hbl⟩, rfl⟩ := hr
      obtain ⟨bk, h1, h2, rfl⟩ := hx.ptr_inv
      obtain ⟨bk', h3, h4, rfl⟩ := hy.ptr_inv
      rw [← beq_of hbl, h1] at h3
      injection h3 with h3
      subst h3
      have hs : i.size ≠ 0 := by have := blt_of hs; omega
      refine fin (go ?_) rfl rfl (fun op => rfl)
      unfold Op.equalIn
      simp [run_underlying hu, sizeOf, typeInfo, hi, hs, sameAddr]
      cases hq : Nat.beq a'.off b'.off with
      | true => simp [beq_of hq]
      | false => simp [beq_no hq]
    · cases hr
  · rename_i ms hu
    split at hr
    · cases hr
    · injection hr with hr
      subst hr
      obtain ⟨q, rfl, _⟩ := hy.ifc_inv
      cases hx
      exact fin (go (by unfold Op.equalIn; simp [run_underlying hu])) rfl rfl (fun op => rfl)
    · injection hr with hr
      subst hr
      obtain ⟨q, rfl, _⟩ := hx.ifc_inv
      cases hy
      exact fin (go (by unfold Op.equalIn; simp [run_underlying hu])) rfl rfl (fun op => rfl)
    · cases hr
  · rename_i el hu
    split at hr
    · rename_i c _ _
      injection hr with hr
      have := hx.nil_slc_inv
      subst this
      cases c with
      | none =>
        have := hy.nil_slc_inv
        subst this hr
        exact fin (go (by unfold Op.equalIn; simp [run_underlying hu])) rfl rfl (fun op => rfl)
      | some a =>
        obtain ⟨bk, q, h1, h2, rfl, _⟩ := hy.slc_inv
        subst hr
        exact fin (go (by unfold Op.equalIn; simp [run_underlying hu])) rfl rfl (fun op => rfl)
    · injection hr with hr
      obtain ⟨bk, q, h1, h2, rfl, _⟩ := hx.slc_inv
      have := hy.nil_slc_inv
      subst this hr
      exact fin (go (by unfold Op.equalIn; simp [run_underlying hu])) rfl rfl (fun op => rfl)
    · cases hr
  · rename_i a1 a2 a3 hu
    split at hr
    · injection hr with hr
      subst hr
      cases hx
      cases hy
      exact fin (go (by unfold Op.equalIn; simp [run_underlying hu])) rfl rfl (fun op => rfl)
    · injection hr with hr
      subst hr
      cases hx
      cases hy <;> exact fin (go (by unfold Op.equalIn; simp [run_underlying hu])) rfl rfl (fun op => rfl)
    · injection hr with hr
      subst hr
      cases hy
      cases hx <;> exact fin (go (by unfold Op.equalIn; simp [run_underlying hu])) rfl rfl (fun op => rfl)
    · cases hr
  · rename_i hu
    split at hr
    · injection hr with hr
      subst hr
      cases hx
      cases hy
      exact fin (go (by unfold Op.equalIn; simp [run_underlying hu])) rfl rfl (fun op => rfl)
    · cases hr
  · cases hr
theorem opEq_sound {neg : Bool} {e ye : TypeId} {x y : Operand} (ho : o.op = .binOp (if neg then .neq else .eql) e x y ye) (hr : opEq P t h c neg o e x y = some r) : OpOK P t h c o r := by
  simp only [opEq, bd_some] at hr
  obtain ⟨vx, hx, vy, hy, hr⟩ := hr
  split at hr
  · rename_i b hb
    injection hr with hr
    subst hr
    refine .pure fun ρ w ev m _ => ⟨.bool (xor neg b), ?_, .flat rfl⟩
    obtain ⟨e1, e2, e3⟩ := eqV_sound hb (m x (by simp [ho, Op.operands]) _ hx) (m y (by simp [ho, Op.operands]) _ hy) w x y
    cases neg with
    | true => simp [execOp, ho, e2, e3]
    | false => simp [execOp, ho, e1, e3]
  · exact modelV_sound hr
end
end Cx
end Go.Proofs.YtonbjlkmcikbgaaGreatDoor
