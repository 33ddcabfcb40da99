/-
  A row's tail cleared.
-/
import Derived.Test.YteplckkoiffnnaaGreatDoorSyMem
import Derived.Lib.SliceRun
namespace Go.Proofs.YteplckkoiffnnaaGreatDoor
open Go.RowKit
namespace Sy
set_option linter.unusedVariables false
set_option linter.unusedSimpArgs false
set_option maxRecDepth 100000
set_option maxHeartbeats 4000000

/-- some cells of a part of the heap written by an operation that hands back u -/
theorem OpAt.write {G : Gl} {o : Oper} {st : St} {K : St → Prop} {A A' : HP} (b off : Nat) (ys : List Value) (u : Value) (rest : List HP) (hsel : notSel o.op = true) (hp : ∀ h, sepL st.h G.R h → sepL (A :: rest) G.R h) (hr : allR st o.op.operands.toList = true) (h1 : ∀ u ∈ ys, u.oneCell' = true)
    (hrun : ∀ w w', (storeCells ⟨b, off, none⟩ ys).run G.P w = .ok () w' → (execOp (evR st) o).run G.P w = .ok (.value u) w')
    (hA : ∀ h, A h → ∃ ty cs, h b = some (.cells cs ty (0, 0)) ∧ off + ys.length ≤ cs.size ∧ A' fun j => if j = b then some (.cells (putL cs.toList off ys).toArray ty (0, 0)) else h j)
    (k : putK G { st with h := A' :: rest } o.dst (.v u) none K) : OpAt G o st K := by
  refine .mk fun ρ a w m mm => ?_
  obtain ⟨h, s1, s2, d0, s3⟩ := mem_split mm
  obtain ⟨g1, g2, d, rfl, a1, a2⟩ := hp h s2
  obtain ⟨ty, cs, hb, hoff, hA'⟩ := hA g1 a1
  have hc : execOp a.eval o = execOp (evR st) o := execOp_congr o (fun cs b => notSel_spec hsel cs b) fun x hx => allR_sound m hr x (by simpa using hx)
  have hwb : w.heap[b]? = some (.cells cs ty (0, 0)) := s1.left b _ hb
  have hg2 : g2 b = none := by
    rcases d b with e | e
    · rw [hb] at e; cases e
    · exact e
  have hob : obj st ρ w b = none := by
    rcases d0 b with e | e
    · exact e
    · unfold un at e; rw [hb] at e; cases e
  have hst := run_storeCells_at (P := G.P) b off ty ys 0 cs w hwb (by omega) h1
  simp only [Nat.add_zero] at hst
  have hrun' : (execOp (evR st) o).run G.P w = .ok (.value u) (w.setRow b (putL cs.toList off ys).toArray) := hrun w _ (by simpa [putL] using hst)
  generalize hW : w.setRow b (putL cs.toList off ys).toArray = w' at hrun'
  have hh : w'.heap[b]? = some (.cells (putL cs.toList off ys).toArray ty (0, 0)) := by rw [← hW]; exact setRow_heap w b cs _ ty (0, 0) hwb
  have hne : ∀ j, j ≠ b → w'.heap[j]? = w.heap[j]? := fun j hj => by
    rw [← hW]
    simp only [World.setRow, Array.getElem?_modify]
    rw [if_neg (fun e => hj e.symm)]
  have hwd : Wd w w' := by
    rw [← hW]
    exact ⟨rfl, rfl, rfl, by simp [World.setRow]⟩
  have old : ∀ {g : Hl}, g b = none → Sub g w → Sub g w' := fun {g} hgb s j ob e => by
    have : j ≠ b := fun c => by subst c; rw [hgb] at e; cases e
    rw [hne j this]; exact s j ob e
  generalize hq : (fun j => if j = b then some (Obj.cells (putL cs.toList off ys).toArray ty (0, 0)) else g1 j) = g1' at hA'
  have dom : ∀ j, g1' j = none ↔ g1 j = none := fun j => by
    rw [← hq]
    simp only
    by_cases c : j = b
    · subst c; simp [hb]
    · simp [c]
  have sub1 : Sub g1' w' := fun j ob e => by
    rw [← hq] at e
    simp only at e
    by_cases c : j = b
    · subst c; rw [if_pos rfl] at e; rw [← e]; exact hh
    · rw [if_neg c] at e; rw [hne j c]; exact s1.left j ob e
  have mm' : Mem G { st with h := A' :: rest } ρ w' := by
    refine mem_join (g := un (obj st ρ w) (un g1' g2)) mm hwd ((old hob s3).un (sub1.un (old hg2 (s1.right d)))) ⟨un g1' g2, fun j => ?_, rfl, g1', g2, fun j => ?_, rfl, hA', a2⟩
    · rcases d0 j with e | e
      · exact .inl e
      · exact .inr (un_none.2 ⟨(dom j).2 (un_none.1 e).1, (un_none.1 e).2⟩)
    · rcases d j with e | e
      · exact .inl ((dom j).2 e)
      · exact .inr e
  obtain ⟨st', k', m', mm2⟩ := putK_go k (ρ := ρ) (v := u) rfl (m.same rfl) mm'
  unfold Oper.wp
  rw [hc, hrun']
  exact ⟨st', ρ, k', m', mm2, Ext.refl _⟩
/-- the tail of a row cleared -/
theorem OpAt.clear {G : Gl} {o : Oper} {st : St} {K : St → Prop} {t e : TypeId} {x : Operand} {i : TypeInfo} {z : Value} {A A' : HP} (b off n c : Nat) (rest : List HP) (ho : o.op = .call { callee := .builtin .clear, args := #[x], argTypes := #[t] }) (hp : ∀ h, sepL st.h G.R h → sepL (A :: rest) G.R h) (hx : evR st x = .slice (some ⟨b, off, none⟩) n c) (hn : 0 < n)
    (hr : allR st o.op.operands.toList = true) (hu : G.P.underlying t = some (.slice e)) (hi : G.P.info? e = some i) (hz : i.zero = some z) (h1 : ∀ u ∈ (Builtin.zeroCells z.cells n).toList, u.oneCell' = true)
    (hA : ∀ h, A h → ∃ ty cs, h b = some (.cells cs ty (0, 0)) ∧ off + (Builtin.zeroCells z.cells n).toList.length ≤ cs.size ∧ A' fun j => if j = b then some (.cells (putL cs.toList off (Builtin.zeroCells z.cells n).toList).toArray ty (0, 0)) else h j)
    (k : putK G { st with h := A' :: rest } o.dst (.v (.tuple #[])) none K) : OpAt G o st K := by
  refine OpAt.write b off _ (.tuple #[]) rest (by rw [ho]; rfl) hp hr h1 (fun w w' hs => ?_) hA k
  have hn' : n ≠ 0 := by omega
  simp [execOp, ho, resolve, invoke, builtin, hx, Builtin.clear_, underlying, zeroValue, typeInfo, hu, hi, hz, hn', hs]
/-- what is behind a place of a slice -/
theorem OpAt.from {G : Gl} {o : Oper} {st : St} {K : St → Prop} {t e : TypeId} {x l : Operand} {i : TypeInfo} (b off n c lo : Nat) (k : IntKind) (ho : o.op = .slice t x (some l) none none) (hx : evR st x = .slice (some ⟨b, off, none⟩) n c) (hl : evR st l = .int k (lo : Int)) (hr : allR st o.op.operands.toList = true)
    (hu : G.P.underlying t = some (.slice e)) (hi : G.P.info? e = some i) (h1 : lo ≤ n) (h2 : lo < c) (kk : putK G st o.dst (.v (.slice (some ⟨b, off + lo * i.size, none⟩) (n - lo) (c - lo))) none K) : OpAt G o st K := by
  refine OpAt.val _ (by rw [ho]; rfl) hr (fun w _ => ?_) kk
  have h3 : ¬ c = lo := by omega
  have h4 : (lo : Int) ≤ (n : Int) := by omega
  have hsz : (sizeOf e).run G.P w = .ok i.size w := by simp [sizeOf, typeInfo, hi]
  simp [execOp, ho, hx, hl, Instr.sliceAt, Instr.slice, run_underlying hu, Instr.sliceBounds, Instr.sliceBound, asIntOf, h1, hsz, h3, Addr.add]
/-- the front of a row -/
theorem row_cut {g n m cap size : Nat} {e : TypeId} {xs : List Value} (h : m ≤ n) {hl : Hl} (r : rowH (.slice (some ⟨g, 0, none⟩) n cap) n e size xs hl) : rowH (.slice (some ⟨g, 0, none⟩) m cap) m e size (xs.take (m * size)) hl := by
  obtain ⟨hx, r⟩ := r
  rcases r with ⟨c, _⟩ | ⟨g', cap', cur, h1, h2, h3, h4, h5, h6⟩
  · cases c
  injection h1 with e1 e2 e3
  injection e1 with e1
  injection e1 with e1
  subst e1 e3
  have hm : m * size ≤ n * size := Nat.mul_le_mul_right _ h
  refine ⟨by rw [List.length_take]; omega, .inr ⟨g, cap, cur, rfl, h2, by omega, h4, h5, ?_⟩⟩
  rw [← h6, List.take_take, Nat.min_eq_left hm]
end Sy
end Go.Proofs.YteplckkoiffnnaaGreatDoor
