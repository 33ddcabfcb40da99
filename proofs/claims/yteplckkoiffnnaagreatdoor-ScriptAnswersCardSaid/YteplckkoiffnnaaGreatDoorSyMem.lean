/-
  Symbolic runs: stores into parts of the heap, rows that are made, calls through an interface, loads of whole structs.
-/
import Derived.Test.YteplckkoiffnnaaGreatDoorSyBox
namespace Go.Proofs.YteplckkoiffnnaaGreatDoor
open Go.RowKit
namespace Sy
set_option linter.unusedVariables false
set_option linter.unusedSimpArgs false

/-- a call whose function the model finds by itself -/
theorem OpAt.enter {G : Gl} {o : Oper} {st : St} {K : St → Prop} {pre : List HP} {post : Value → List HP → Prop} (f : FuncId) (args : List Value) (rest : List HP) (hp : ∀ h, sepL st.h G.R h → sepL (pre ++ rest) G.R h) (hsel : notSel o.op = true) (hr : allR st o.op.operands.toList = true)
    (hrun : ∀ w, (execOp (evR st) o).run G.P w = .ok (.enter f args.toArray) w)
    (hf : ∀ R', (∀ w, Sat R' w → Sat (sepL rest G.R) w) → FnR G.P R' f args pre post) (k : ∀ v hs, post v hs → putK G { st with h := hs ++ rest } o.dst (.v v) none K) : OpAt G o st K := by
  refine .mk fun ρ a w m mm => ?_
  obtain ⟨h, h1, h2, h3, h4⟩ := mem_split mm
  have h2 := hp h h2
  rw [sepL_append] at h2
  have hc : execOp a.eval o = execOp (evR st) o := execOp_congr o (fun cs b => notSel_spec hsel cs b) fun x hx => allR_sound m hr x (by simpa using hx)
  unfold Oper.wp
  rw [hc, hrun]
  refine (hf (plus (obj st ρ w) (sepL rest G.R)) ?_ w ⟨_, h4.un h1, plus_in h3 h2⟩).mono ?_
  · rintro w' ⟨g, g1, ⟨g2, d, rfl, s⟩⟩
    exact ⟨g2, g1.right d, s⟩
  · rintro e w' ⟨v, hs, rfl, hv, ⟨g, g1, s⟩, hw⟩
    have mm' : Mem G { st with h := hs ++ rest } ρ w' := by
      refine mem_join mm hw g1 ?_
      have := plus_out s
      rwa [sepL_append]
    obtain ⟨st', k', m', mm2⟩ := putK_go (k v hs hv) (ρ := ρ) (v := v) rfl (m.same rfl) mm'
    exact ⟨st', ρ, k', m', mm2, Ext.refl _⟩
theorem OpAt.enterP {G : Gl} {o : Oper} {st : St} {K : St → Prop} (f : FuncId) (args : List Value) (v : Value) (hsel : notSel o.op = true) (hr : allR st o.op.operands.toList = true) (hrun : ∀ w, (execOp (evR st) o).run G.P w = .ok (.enter f args.toArray) w)
    (hf : ∀ R', (∀ w, Sat R' w → Sat (sepL st.h G.R) w) → PureR G.P R' f args v) (k : putK G st o.dst (.v v) none K) : OpAt G o st K := by
  refine OpAt.enter f args (pre := []) st.h (fun h s => s) hsel hr hrun hf ?_
  rintro r hs ⟨rfl, rfl⟩
  exact k
/-- an operation whose value the model's own text gives -/
theorem OpAt.val {G : Gl} {o : Oper} {st : St} {K : St → Prop} (v : Value) (hsel : notSel o.op = true) (hr : allR st o.op.operands.toList = true) (hrun : ∀ w, Sat (sepL st.h G.R) w → (execOp (evR st) o).run G.P w = .ok (.value v) w) (k : putK G st o.dst (.v v) none K) : OpAt G o st K := by
  refine .mk fun ρ a w m mm => ?_
  have hc : execOp a.eval o = execOp (evR st) o := execOp_congr o (fun cs b => notSel_spec hsel cs b) fun x hx => allR_sound m hr x (by simpa using hx)
  obtain ⟨st', k', m', mm2⟩ := putK_go k (ρ := ρ) (v := v) rfl m mm
  unfold Oper.wp
  rw [hc, hrun w mm.sat]
  exact ⟨st', ρ, k', m', mm2, Ext.refl _⟩
/-- a struct read whole -/
theorem LoadAt.agg {G : Gl} {st : St} {K : SV → Prop} {t : TypeId} {b off : Nat} {d : TypeDesc} (vs : List Value) (hu : G.P.underlying t = some d) (hd : d.isRow = true) (hi : (G.P.info? t).map (·.size) = some vs.length)
    (h : ∀ w, Sat (sepL st.h G.R) w → ∀ (j : Nat) (v : Value), vs[j]? = some v → w.cell? ⟨b, off + j, none⟩ = some v) (k : K (.v (.agg vs.toArray))) : LoadAt G t ⟨b, off, none⟩ st K :=
  .mk _ (fun ρ w m => run_loadAt_mid w b off t vs d (fun j v hv => h w m.sat j v hv) hu hd hi) k

/-- cells put in place of others -/
def putL (xs : List Value) (off : Nat) (ys : List Value) : List Value := xs.take off ++ ys ++ xs.drop (off + ys.length)
theorem putL_len {xs ys : List Value} {off : Nat} (h : off + ys.length ≤ xs.length) : (putL xs off ys).length = xs.length := by simp [putL]; omega
theorem putL_get {xs ys : List Value} {off : Nat} (h : off + ys.length ≤ xs.length) (k : Nat) : (putL xs off ys)[k]? = if off ≤ k ∧ k < off + ys.length then ys[k - off]? else xs[k]? := by
  unfold putL
  by_cases c : k < off
  · rw [List.append_assoc, List.getElem?_append_left (by simp; omega), List.getElem?_take_of_lt c, if_neg (by omega)]
  · by_cases c2 : k < off + ys.length
    · rw [List.append_assoc, List.getElem?_append_right (by simp; omega), List.getElem?_append_left (by simp; omega), if_pos ⟨by omega, c2⟩]
      congr 1
      simp; omega
    · rw [List.getElem?_append_right (by simp; omega), List.getElem?_drop, if_neg (by omega)]
      congr 1
      simp; omega

/-- a cell, or some, of a part of the heap written -/
theorem OpAt.store {G : Gl} {o : Oper} {st : St} {K : St → Prop} {t : TypeId} {x y : Operand} {A A' : HP} {i : TypeInfo} (b off : Nat) (v : Value) (rest : List HP) (ho : o.op = .store t x y) (hp : ∀ h, sepL st.h G.R h → sepL (A :: rest) G.R h) (hx : evR st x = .pointer (some ⟨b, off, none⟩)) (hy : evR st y = v)
    (hr : allR st o.op.operands.toList = true) (hi : G.P.info? t = some i) (hsz : v.cells.size = i.size) (h1 : ∀ u ∈ v.cells.toList, u.oneCell' = true)
    (hA : ∀ h, A h → ∃ ty cs, h b = some (.cells cs ty (0, 0)) ∧ off + v.cells.size ≤ cs.size ∧ A' fun j => if j = b then some (.cells (putL cs.toList off v.cells.toList).toArray ty (0, 0)) else h j)
    (k : putK G { st with h := A' :: rest } o.dst (.v undef) none K) : OpAt G o st K := by
  refine .mk fun ρ a w m mm => ?_
  obtain ⟨h, s1, s2, d0, s3⟩ := mem_split mm
  obtain ⟨g1, g2, d, rfl, a1, a2⟩ := hp h s2
  obtain ⟨ty, cs, hb, hoff, hA'⟩ := hA g1 a1
  have hc : execOp a.eval o = execOp (evR st) o := execOp_congr o (fun cs b => notSel_spec (by rw [ho]; rfl) cs b) fun x hx => allR_sound m hr x (by simpa using hx)
  have hwb : w.heap[b]? = some (.cells cs ty (0, 0)) := s1.left b _ hb
  have hg2 : g2 b = none := by
    rcases d b with e | e
    · rw [hb] at e; cases e
    · exact e
  have hob : obj st ρ w b = none := by
    rcases d0 b with e | e
    · exact e
    · unfold un at e; rw [hb] at e; cases e
  have hrun := run_storeCells_at (P := G.P) b off ty v.cells.toList 0 cs w hwb (by simp; omega) h1
  simp only [Nat.add_zero] at hrun
  have hrun' : (execOp (evR st) o).run G.P w = .ok .skip (w.setRow b (putL cs.toList off v.cells.toList).toArray) := by
    simp only [execOp, ho, hx, hy, Instr.storeAt, Instr.sureAddr, storeVar, sizeOf, typeInfo, Sem.run_bind, Sem.run_pure, Result.andThen_ok]
    simp [hi, hsz, hrun, putL]
  generalize hW : w.setRow b (putL cs.toList off v.cells.toList).toArray = w' at hrun'
  have hh : w'.heap[b]? = some (.cells (putL cs.toList off v.cells.toList).toArray ty (0, 0)) := by rw [← hW]; exact setRow_heap w b cs _ ty (0, 0) hwb
  have hne : ∀ j, j ≠ b → w'.heap[j]? = w.heap[j]? := fun j hj => by
    rw [← hW]
    simp only [World.setRow, Array.getElem?_modify]
    rw [if_neg (fun e => hj e.symm)]
  have hwd : Wd w w' := by
    rw [← hW]
    exact ⟨rfl, rfl, rfl, by simp [World.setRow]⟩
  have old : ∀ {g : Hl}, g b = none → Sub g w → Sub g w' := fun {g} hgb s j ob e => by
    have : j ≠ b := fun c => by subst c; rw [hgb] at e; cases e
    rw [hne j this]; exact s j ob e
  generalize hq : (fun j => if j = b then some (Obj.cells (putL cs.toList off v.cells.toList).toArray ty (0, 0)) else g1 j) = g1' at hA'
  have dom : ∀ j, g1' j = none ↔ g1 j = none := fun j => by
    rw [← hq]
    simp only
    by_cases c : j = b
    · subst c; simp [hb]
    · simp [c]
  have sub1 : Sub g1' w' := fun j ob e => by
    rw [← hq] at e
    simp only at e
    by_cases c : j = b
    · subst c; rw [if_pos rfl] at e; rw [← e]; exact hh
    · rw [if_neg c] at e; rw [hne j c]; exact s1.left j ob e
  have mm' : Mem G { st with h := A' :: rest } ρ w' := by
    refine mem_join (g := un (obj st ρ w) (un g1' g2)) mm hwd ((old hob s3).un (sub1.un (old hg2 (s1.right d)))) ⟨un g1' g2, fun j => ?_, rfl, g1', g2, fun j => ?_, rfl, hA', a2⟩
    · rcases d0 j with e | e
      · exact .inl e
      · exact .inr (un_none.2 ⟨(dom j).2 (un_none.1 e).1, (un_none.1 e).2⟩)
    · rcases d j with e | e
      · exact .inl ((dom j).2 e)
      · exact .inr e
  obtain ⟨st', k', m', mm2⟩ := putK_go k (ρ := ρ) (v := undef) rfl (m.same rfl) mm'
  unfold Oper.wp
  rw [hc, hrun']
  exact ⟨st', ρ, k', m', mm2, Ext.refl _⟩
/-- into a row -/
theorem row_put {g n cap size off : Nat} {e : TypeId} {xs ys : List Value} (h : off + ys.length ≤ n * size) {hl : Hl} (r : rowH (.slice (some ⟨g, 0, none⟩) n cap) n e size xs hl) :
    ∃ ty cs, hl g = some (.cells cs ty (0, 0)) ∧ off + ys.length ≤ cs.size ∧ rowH (.slice (some ⟨g, 0, none⟩) n cap) n e size (putL xs off ys) fun j => if j = g then some (.cells (putL cs.toList off ys).toArray ty (0, 0)) else hl j := by
  obtain ⟨hx, r⟩ := r
  rcases r with ⟨c, _⟩ | ⟨g', cap', cur, h1, h2, h3, h4, h5, h6⟩
  · cases c
  injection h1 with e1 e2 e3
  injection e1 with e1
  injection e1 with e1
  subst e1 e3
  have hcur : n * size ≤ cur.size := by rw [h5]; exact Nat.mul_le_mul_right _ h3
  refine ⟨e, cur, by rw [h2]; simp, by omega, by rw [putL_len (by omega)]; exact hx, .inr ⟨g, cap, (putL cur.toList off ys).toArray, rfl, fun j => ?_, h3, h4, ?_, ?_⟩⟩
  · by_cases c : j = g
    · subst c; simp
    · simp [c, h2]
  · simp only [List.size_toArray]
    rw [putL_len (by simp; omega)]
    simpa using h5
  · apply List.ext_getElem?
    intro k
    simp only [List.toList_toArray]
    rw [List.getElem?_take]
    by_cases c : k < n * size
    · rw [if_pos c, putL_get (by simp; omega), putL_get (by omega)]
      split
      · rfl
      · rw [← h6, List.getElem?_take_of_lt c]
    · rw [if_neg c, List.getElem?_eq_none]
      rw [putL_len (by omega)]; omega

/-- a row that is made -/
theorem OpAt.make {G : Gl} {o : Oper} {st : St} {K : St → Prop} {t e : TypeId} {x y : Operand} {i : TypeInfo} {z : Value} (n size : Nat) (zs : List Value) (ho : o.op = .makeSlice t x y) (hx : evR st x = .int .i64 (n : Int)) (hy : evR st y = .int .i64 (n : Int)) (hr : allR st o.op.operands.toList = true)
    (hu : G.P.underlying t = some (.slice e)) (hi : G.P.info? e = some i) (hz : i.zero = some z) (hsize : i.size = size) (hzs : (madeCells z.cells (n * size)).toList = zs) (hby : i.bytes * n ≤ 281474976710656) (hmax : n ≤ maxLen)
    (k : ∀ g, putK G { st with h := rowH (.slice (some ⟨g, 0, none⟩) n n) n e size zs :: st.h } o.dst (.v (.slice (some ⟨g, 0, none⟩) n n)) none K) : OpAt G o st K := by
  refine OpAt.sem (pre := []) (post := fun v hs => ∃ g, v = .slice (some ⟨g, 0, none⟩) n n ∧ hs = [rowH (.slice (some ⟨g, 0, none⟩) n n) n e size zs]) st.h (fun h s => s) (by rw [ho]; rfl) hr ?_ ?_
  · intro R' _ w s
    have hm := hmax
    simp only [maxLen] at hm
    have hrun := run_make w t e i z hu hi hz .i64 .i64 (n : Int) (n : Int) (by omega) (by omega) (by rw [← Int.natCast_mul]; omega) (by omega) (P := G.P)
    simp only [Int.toNat_natCast, hsize] at hrun
    have hlen : zs.length = n * size := by rw [← hzs]; simp [size_madeCells]
    refine ⟨_, _, w.alloc (.cells (madeCells z.cells (n * size)) e), ?_, ⟨w.heap.size, rfl, rfl⟩, ?_, .of_below ((Below.refl _ _).alloc (Nat.le_refl _) _)⟩
    · simp only [execOp, ho, hx, hy, hrun, Sem.run_bind, Result.andThen_ok, Sem.run_pure, Sem.run_map]
      try rfl
    · refine sat_row s ((Below.refl _ _).alloc (Nat.le_refl _) _) ⟨hlen, .inr ⟨_, n, madeCells z.cells (n * size), rfl, Nat.le_refl _, heap_alloc_new w _, Nat.le_refl _, hmax, size_madeCells _ _, ?_⟩⟩
      rw [hzs, List.take_of_length_le (by omega)]
  · rintro v hs ⟨g, rfl, rfl⟩
    exact k g
theorem made_const {z : Array Value} {v : Value} (h : ∀ i, i < z.size → z[i]! = v) (h0 : 0 < z.size) (n : Nat) : (madeCells z n).toList = List.replicate n v := by
  apply List.ext_getElem?
  intro k
  simp only [madeCells, Array.toList_map, Array.toList_range, List.getElem?_map]
  rw [List.getElem?_replicate]
  by_cases c : k < n
  · rw [if_pos c, List.getElem?_range c]
    simp [h _ (Nat.mod_lt _ h0)]
  · rw [if_neg c, List.getElem?_eq_none (by simp; omega)]
    rfl
/-- the world as it was -/
def was (w : World) : HP := fun g => g = fun i => w.heap[i]?
theorem was_ext {w w' : World} (s : Sat (was w) w') {i : Nat} {o : Obj} (h : w.heap[i]? = some o) : w'.heap[i]? = some o := by
  obtain ⟨g, g1, rfl⟩ := s
  exact g1 i o h
theorem was_blk {w w' : World} (s : Sat (was w) w') {b : Nat} {t : TypeId} {cs : Array Value} (h : Blk w b t cs) : Blk w' b t cs := was_ext s h
theorem sepL_shrink {A R : HP} (hA : ∀ h0, A h0 → ∃ g : Hl, (∀ i o, g i = some o → h0 i = some o) ∧ R g) : ∀ {l : List HP} {h : Hl}, sepL l A h → ∃ h' : Hl, (∀ i o, h' i = some o → h i = some o) ∧ sepL l R h'
  | [], h, s => hA h s
  | B :: l, h, s => by
    obtain ⟨h1, h2, d, rfl, b, s⟩ := s
    obtain ⟨h', e, s'⟩ := sepL_shrink hA s
    refine ⟨un h1 h', fun i o hi => ?_, h1, h', fun i => ?_, rfl, b, s'⟩
    · unfold un at hi ⊢
      rcases d i with c | c
      · rw [c] at hi ⊢; simp only [Option.none_or] at hi ⊢; exact e i o hi
      · cases hh : h' i with
        | none => rw [hh] at hi; simp only [Option.or_none] at hi; rw [hi]; rfl
        | some x => rw [e i x hh] at c; cases c
    · rcases d i with c | c
      · exact .inl c
      · right
        cases hh : h' i with
        | none => rfl
        | some x => rw [e i x hh] at c; cases c
/-- what is read may be read in one world alone -/
theorem FnR.fix {P : Program} {R : HP} {f : FuncId} {args : List Value} {post : Value → List HP → Prop} (h : ∀ w, Sat R w → FnR P (was w) f args [] post) : FnR P R f args [] post := by
  intro w hs
  refine (h w hs w ⟨_, fun i o e => e, rfl⟩).mono ?_
  rintro e w' ⟨v, hs', rfl, hv, ⟨g, g1, g2⟩, hw⟩
  obtain ⟨g0, s0, r0⟩ := hs
  obtain ⟨h', e', s'⟩ := sepL_shrink (R := R) (fun h0 hh => by
    have hh : h0 = fun i => w.heap[i]? := hh
    subst hh
    exact ⟨g0, s0, r0⟩) g2
  exact ⟨v, hs', rfl, hv, ⟨h', g1.mono e', s'⟩, hw⟩
theorem PureR.fix {P : Program} {R : HP} {f : FuncId} {args : List Value} {v : Value} (h : ∀ w, Sat R w → PureR P (was w) f args v) : PureR P R f args v := FnR.fix h
end Sy
end Go.Proofs.YteplckkoiffnnaaGreatDoor
