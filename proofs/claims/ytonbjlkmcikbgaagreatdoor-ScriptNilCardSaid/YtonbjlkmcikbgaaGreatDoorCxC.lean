/-
  Closed runs: the operations, more of them: what writes, builds, compares, calls.
-/
import Derived.Test.YtonbjlkmcikbgaaGreatDoorCxB
namespace Go.Proofs.YtonbjlkmcikbgaaGreatDoor
open Go.RowKit
namespace Cx
set_option linter.unusedVariables false
set_option linter.unusedSimpArgs false
section
variable {P : Program} {t : Tm} {h : Hp} {c : Nat} {o : Oper} {r : OR}

theorem one_den {ρ : Rn} : ∀ {l m : List Value}, DenL ρ l m → ones l = true → ∀ v ∈ m, v.oneCell' = true
  | _, _, .nil, _, v, hv => by cases hv
  | _, _, .cons (x := x) (y := y) (l := l) hd tl, ho, v, hv => by
    have hx : ones l = true ∧ (∀ q, x ≠ .agg q) ∧ ∀ q, x ≠ .tuple q := by
      cases x <;> first | exact ⟨ho, (fun q e => by cases e), fun q e => by cases e⟩ | cases ho
    rcases List.mem_cons.1 hv with rfl | hv
    · cases hd with
      | flat _ => cases x <;> first | rfl | exact absurd rfl (hx.2.1 _) | exact absurd rfl (hx.2.2 _)
      | agg _ => exact absurd rfl (hx.2.1 _)
      | tup _ => exact absurd rfl (hx.2.2 _)
      | _ => rfl
    · exact one_den tl hx.1 v hv
theorem putL_some {cs : List Value} {off : Nat} {l r : List Value} (e : putL cs off l = some r) : off + l.length ≤ cs.length ∧ r = cs.take off ++ (l ++ cs.drop (off + l.length)) := by
  simp only [putL, gd_some, forceL_eq, Option.some.injEq] at e
  exact ⟨ble_of e.1, e.2.symm⟩
/-- cells are written -/
theorem setV_sound {h' : Hp} {a : Addr} {l : List Value} (e : setV h a l = some h') {ρ : Rn} {w : World} (ly : Lay ρ h w) {ls : List Value} (hd : DenL ρ l ls) {x : Bk} (hx : ρ a.block = some x) :
    ∃ w', (storeCells ⟨x.b, a.off, none⟩ ls).run P w = .ok () w' ∧ Ran ρ h c w ρ h' c w' := by
  simp only [setV, bd_some, gd_some, Tr.setK_eq, Bool.and_eq_true, Option.some.injEq] at e
  obtain ⟨ob, hob, ⟨hlt, hone⟩, cs, hcs, rfl⟩ := e
  obtain ⟨hle, rfl⟩ := putL_some hcs
  obtain ⟨x', us, f1, f2, f3, f4, f5, f6⟩ := ly.ob _ _ hob
  rw [hx] at f1
  injection f1 with f1
  subst f1
  have ll := hd.len
  have hrun := run_storeCells_at (P := P) x.b a.off ob.ty ls 0 us w f4 (by rw [ll]; omega) (one_den hd hone)
  simp only [Nat.add_zero] at hrun
  refine ⟨_, hrun, ?_⟩
  have hlen : (ob.cs.take a.off ++ (l ++ ob.cs.drop (a.off + l.length))).length = ob.cs.length := by simp; omega
  refine Ran.turn ly (blt_of hlt) hob hx _ (us.toList.take a.off ++ ls ++ us.toList.drop (a.off + ls.length)).toArray ?_ ?_ ?_ (setRow_heap w x.b us _ ob.ty (0, 0) f4) (fun i hi => ?_) (by simp [World.setRow]) rfl rfl rfl
  · rw [← f3]; simp; omega
  · rw [hlen]; simp; omega
  · rw [hlen]
    have e1 : ((us.toList.take a.off ++ ls ++ us.toList.drop (a.off + ls.length)).toArray.toList).take ob.cs.length = (us.toList.take ob.cs.length).take a.off ++ (ls ++ (us.toList.take ob.cs.length).drop (a.off + ls.length)) := by
      simp only [List.append_assoc]
      rw [List.take_append, List.take_append, List.take_take, List.take_take, List.drop_take]
      have h1 : (us.toList.take a.off).length = a.off := by simp; omega
      rw [h1, Nat.min_eq_right (by omega), Nat.min_eq_left (by omega), List.take_of_length_le (l := ls) (by omega), Nat.sub_sub]
    rw [e1]
    have := (f6.take a.off).append (hd.append (f6.drop (a.off + ls.length)))
    rw [← ll]
    exact this
  · simp only [World.setRow, Array.getElem?_modify]
    rw [if_neg (fun e => hi e.symm)]
theorem opStore_sound {e : TypeId} {x y : Operand} (ho : o.op = .store e x y) (hr : opStore P t h c e x y = some r) : OpOK P t h c o r := by
  simp only [opStore, bd_some, gd_some, Option.some.injEq] at hr
  obtain ⟨a, ha, v, hv, i, hi, hl, h', hs, rfl⟩ := hr
  refine ⟨Nat.le_refl _, fun ρ w ev m l _ => ?_⟩
  obtain ⟨bk, h1, h2, h3⟩ := (m x (by simp [ho, Op.operands]) _ (ptrV_some ha)).ptr_inv
  have dv := m y (by simp [ho, Op.operands]) _ hv
  obtain ⟨w', hrun, rn⟩ := setV_sound (P := P) (c := c) hs l dv.cells h1
  have hsz : (ev y).cells.size = i.size := by
    have := dv.cells.len
    rw [beq_of hl] at this
    simpa using this
  refine ⟨.skip, undef, w', ρ, ?_, .inr ⟨rfl, rfl⟩, .flat rfl, rn⟩
  simp only [execOp, ho, h3, Instr.storeAt, Instr.sureAddr, Sem.run_bind, Sem.run_pure, Result.andThen_ok, storeVar, sizeOf, typeInfo]
  simp [hi, hsz, program, Sem.run, hrun]

def pf (f : Field) : Sem (Nat × Nat) := do pure (f.offset, ← sizeOf f.type)
theorem plcs_sound {w : World} : ∀ {l : List Field} {r : List (Nat × Nat)}, plcs P l = some r → Sem.run P (l.mapM pf) w = Result.ok r w
  | [], r, h => by simp [plcs] at h; subst h; rfl
  | f :: l, r, h => by
    simp only [plcs, bd_some, Option.some.injEq] at h
    obtain ⟨i, hi, r', hr, rfl⟩ := h
    have h1 := plcs_sound (w := w) hr
    have h2 : Sem.run P (pf f) w = .ok (f.offset, i.size) w := by simp [pf, sizeOf, typeInfo, hi]
    rw [List.mapM_cons]
    simp only [Sem.run_bind, h1, h2, Result.andThen_ok, Sem.run_pure]
inductive DenP (ρ : Rn) : List (Nat × Value) → List (Nat × Value) → Prop
  | nil : DenP ρ [] []
  | cons {i : Nat} {x y : Value} {l m : List (Nat × Value)} (h : Den ρ x y) (t : DenP ρ l m) : DenP ρ ((i, x) :: l) ((i, y) :: m)
theorem evps_sound {ρ : Rn} {ev : Operand → Value} : ∀ {l : List (Nat × Operand)} {vs : List (Nat × Value)}, EvOK ρ t ev (l.map (·.2)) → evps t l = some vs → DenP ρ vs (l.map fun p => (p.1, ev p.2))
  | [], vs, _, h => by simp [evps] at h; subst h; exact .nil
  | (i, x) :: l, vs, m, h => by
    simp only [evps, bd_some, Option.some.injEq] at h
    obtain ⟨v, hv, r, hr, rfl⟩ := h
    exact .cons (m x (by simp) v hv) (evps_sound m.tail hr)
theorem fold_put : ∀ (vs : List Value) (cs : List Value) (off k : Nat), off + k + vs.length ≤ cs.length → ((vs.zipIdx k).foldl (fun (cs : Array Value) (x : Value × Nat) => cs.setIfInBounds (off + x.2) x.1) cs.toArray) = (cs.take (off + k) ++ (vs ++ cs.drop (off + k + vs.length))).toArray
  | [], cs, off, k, h => by simp
  | v :: vs, cs, off, k, h => by
    simp only [List.length_cons] at h
    rw [List.zipIdx_cons, List.foldl_cons]
    have e : cs.toArray.setIfInBounds (off + k) v = (cs.set (off + k) v).toArray := by simp
    rw [e, fold_put vs _ off (k + 1) (by simp; omega)]
    have hlt : off + k < cs.length := by omega
    have t1 : (cs.set (off + k) v).take (off + (k + 1)) = cs.take (off + k) ++ [v] := by
      rw [List.set_eq_take_append_cons_drop, if_pos hlt, List.take_append, List.take_of_length_le (by simp; omega)]
      have : (cs.take (off + k)).length = off + k := by simp; omega
      rw [this, show off + (k + 1) - (off + k) = 1 by omega]
      rfl
    have t2 : (cs.set (off + k) v).drop (off + (k + 1) + vs.length) = cs.drop (off + k + (vs.length + 1)) := by
      rw [List.drop_set_of_lt (by omega)]
      congr 1
      omega
    rw [t1, t2]
    simp
theorem fillV_sound {ρ : Rn} {pl : Nat → Option (Nat × Nat)} : ∀ {ps qs : List (Nat × Value)} {cs us r : List Value}, DenP ρ ps qs → fillV pl ps cs = some r → DenL ρ cs us → ∃ m : List Value, DenL ρ r m ∧ Instr.fill pl ⟨us⟩ qs = some ⟨m⟩
  | _, _, cs, us, r, .nil, h, hd => by
    simp [fillV] at h; subst h; exact ⟨us, hd, rfl⟩
  | _, _, cs, us, r, .cons (i := i) (x := x) (y := y) hx tl, h, hd => by
    simp only [fillV, bd_some, gd_some] at h
    obtain ⟨p, hp, hl, cs', hput, h⟩ := h
    obtain ⟨hle, rfl⟩ := putL_some hput
    have hc := hx.cells
    have hcl := hc.len
    have hdl := hd.len
    have hl := beq_of hl
    have hd' : DenL ρ (cs.take p.1 ++ (cellsOf x ++ cs.drop (p.1 + (cellsOf x).length))) (us.take p.1 ++ (y.cells.toList ++ us.drop (p.1 + y.cells.toList.length))) := by
      rw [hcl]
      exact (hd.take _).append (hc.append (hd.drop _))
    obtain ⟨m, g1, g2⟩ := fillV_sound tl h hd'
    refine ⟨m, g1, ?_⟩
    unfold Instr.fill
    simp only [hp]
    have hsz : y.cells.size = p.2 := by rw [← hl, ← hcl]; simp
    rw [if_neg (by simp only [Bool.or_eq_true, decide_eq_true_eq]; rw [← hcl] at hle; simp at hle; simp; omega)]
    have hf := fold_put y.cells.toList us p.1 0 (by rw [hcl]; omega)
    rw [Nat.add_zero] at hf
    have hz : y.cells.zipIdx.foldl (fun (cs : Array Value) (x : Value × Nat) => cs.setIfInBounds (p.1 + x.2) x.1) ⟨us⟩ = ⟨us.take p.1 ++ (y.cells.toList ++ us.drop (p.1 + y.cells.toList.length))⟩ := by
      rw [show (⟨us⟩ : Array Value) = us.toArray from rfl, ← Array.foldl_toList, Array.toList_zipIdx]
      exact hf
    rw [← g2]
    congr 1
theorem opBuild_sound {e : TypeId} {ps : Array (Nat × Operand)} (ho : o.op = .build e ps) (hr : opBuild P t h c e ps.toList = some r) : OpOK P t h c o r := by
  simp only [opBuild, bd_some] at hr
  obtain ⟨z, hz, l, hl, hr⟩ := hr
  obtain ⟨hf, i, hi, hz⟩ := zeroV_some hz
  have mm : ∀ {ρ ev}, EvOK ρ t ev o.op.operands.toList → EvOK ρ t ev (ps.toList.map (·.2)) := fun m x hx => m x (by simpa [ho, Op.operands] using hx)
  have hz' : ∀ w, (zeroValue e).run P w = .ok z w := fun w => by simp [zeroValue, typeInfo, hi, hz]
  split at hr
  · rename_i fs hu
    simp only [bd_some, Option.some.injEq] at hr
    obtain ⟨pl, hpl, cs, hcs, rfl⟩ := hr
    have hpe : (fun i => nth pl i) = (fun i : Nat => pl[i]?) := by funext i; exact nth_eq pl i
    rw [hpe] at hcs
    refine .pure fun ρ w ev m _ => ?_
    obtain ⟨us, g1, g2⟩ := fillV_sound (evps_sound (mm m) hl) hcs (cells_flat hf)
    refine ⟨.agg ⟨us⟩, ?_, .agg g1⟩
    have hp := plcs_sound (w := w) hpl
    have hmm : Sem.run P (fs.mapM pf) w = .ok pl.toArray w := by rw [Array.mapM_eq_mapM_toList, Sem.run_map, hp]; rfl
    have hfun : (fun i : Nat => (pl.toArray)[i]?) = (fun i : Nat => pl[i]?) := by funext i; simp
    have hb : (Instr.build e (ps.map fun (i, x) => (i, ev x))).run P w = .ok (.agg ⟨us⟩) w := by
      unfold Instr.build
      simp only [Sem.run_bind, hz', Result.andThen_ok, run_underlying hu]
      erw [hmm]
      have g2' : Instr.fill (fun i : Nat => pl[i]?) z.cells (ps.toList.map fun p => (p.1, ev p.2)) = some ⟨us⟩ := g2
      simp only [Result.andThen_ok, Array.toList_map, hfun, g2', Sem.run_pure]
    simp only [execOp, ho, Sem.run_bind, hb, Result.andThen_ok, Sem.run_pure]
  · rename_i len el hu
    simp only [bd_some, Option.some.injEq] at hr
    obtain ⟨ie, hie, cs, hcs, rfl⟩ := hr
    refine .pure fun ρ w ev m _ => ?_
    obtain ⟨us, g1, g2⟩ := fillV_sound (evps_sound (mm m) hl) hcs (cells_flat hf)
    refine ⟨.agg ⟨us⟩, ?_, .agg g1⟩
    have hs' : (sizeOf el).run P w = .ok ie.size w := by simp [sizeOf, typeInfo, hie]
    have hb : (Instr.build e (ps.map fun (i, x) => (i, ev x))).run P w = .ok (.agg ⟨us⟩) w := by
      unfold Instr.build
      have g2' : Instr.fill (fun i => some (i * ie.size, ie.size)) z.cells (ps.toList.map fun p => (p.1, ev p.2)) = some ⟨us⟩ := g2
      simp only [Sem.run_bind, hz', Result.andThen_ok, run_underlying hu, hs', Array.toList_map, g2', Sem.run_pure]
    simp only [execOp, ho, Sem.run_bind, hb, Result.andThen_ok, Sem.run_pure]
  · cases hr
end
end Cx
end Go.Proofs.YtonbjlkmcikbgaaGreatDoor
