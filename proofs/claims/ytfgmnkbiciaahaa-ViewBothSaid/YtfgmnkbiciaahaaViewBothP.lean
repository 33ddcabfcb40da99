/-
  The statement ViewBoth: for every input the call returns true. The texts: SyClear, ViewI, ViewBoth, ViewBothRow.
-/
import Derived.Test.YtfgmnkbiciaahaaPartS
import Derived.Lib.SliceRun
import Derived.Test.YtfgmnkbiciaahaaPartR
import Derived.Test.YtfgmnkbiciaahaaPartO
import Derived.ProofKit
import Derived.OpenShut
import Derived.Lib.SmallJoins
/-
  A row's tail cleared.
-/
namespace Go.Proofs.Ytfgmnkbiciaahaa
open Go.RowKit
namespace Sy
set_option linter.unusedVariables false
set_option linter.unusedSimpArgs false
set_option maxRecDepth 100000
set_option maxHeartbeats 4000000

/-- some cells of a part of the heap written by an operation that hands back u -/
theorem OpAt.write {G : Gl} {o : Oper} {st : St} {K : St → Prop} {A A' : HP} (b off : Nat) (ys : List Value) (u : Value) (rest : List HP) (hsel : notSel o.op = true) (hp : ∀ h, sepL st.h G.R h → sepL (A :: rest) G.R h) (hr : allR st o.op.operands.toList = true) (h1 : ∀ u ∈ ys, u.oneCell' = true)
    (hrun : ∀ w w', (storeCells ⟨b, off, none⟩ ys).run G.P w = .ok () w' → (execOp (evR st) o).run G.P w = .ok (.value u) w')
    (hA : ∀ h, A h → ∃ ty cs, h b = some (.cells cs ty (0, 0)) ∧ off + ys.length ≤ cs.size ∧ A' fun j => if j = b then some (.cells (putL cs.toList off ys).toArray ty (0, 0)) else h j)
    (k : putK G { st with h := A' :: rest } o.dst (.v u) none K) : OpAt G o st K := by
  refine .mk fun ρ a w m mm => ?_
  obtain ⟨h, s1, s2, d0, s3⟩ := mem_split mm
  obtain ⟨g1, g2, d, rfl, a1, a2⟩ := hp h s2
  obtain ⟨ty, cs, hb, hoff, hA'⟩ := hA g1 a1
  have hc : execOp a.eval o = execOp (evR st) o := execOp_congr o (fun cs b => notSel_spec hsel cs b) fun x hx => allR_sound m hr x (by simpa using hx)
  have hwb : w.heap[b]? = some (.cells cs ty (0, 0)) := s1.left b _ hb
  have hg2 : g2 b = none := by
    rcases d b with e | e
    · rw [hb] at e; cases e
    · exact e
  have hob : obj st ρ w b = none := by
    rcases d0 b with e | e
    · exact e
    · unfold un at e; rw [hb] at e; cases e
  have hst := run_storeCells_at (P := G.P) b off ty ys 0 cs w hwb (by omega) h1
  simp only [Nat.add_zero] at hst
  have hrun' : (execOp (evR st) o).run G.P w = .ok (.value u) (w.setRow b (putL cs.toList off ys).toArray) := hrun w _ (by simpa [putL] using hst)
  generalize hW : w.setRow b (putL cs.toList off ys).toArray = w' at hrun'
  have hh : w'.heap[b]? = some (.cells (putL cs.toList off ys).toArray ty (0, 0)) := by rw [← hW]; exact setRow_heap w b cs _ ty (0, 0) hwb
  have hne : ∀ j, j ≠ b → w'.heap[j]? = w.heap[j]? := fun j hj => by
    rw [← hW]
    simp only [World.setRow, Array.getElem?_modify]
    rw [if_neg (fun e => hj e.symm)]
  have hwd : Wd w w' := by
    rw [← hW]
    exact ⟨rfl, rfl, rfl, by simp [World.setRow]⟩
  have old : ∀ {g : Hl}, g b = none → Sub g w → Sub g w' := fun {g} hgb s j ob e => by
    have : j ≠ b := fun c => by subst c; rw [hgb] at e; cases e
    rw [hne j this]; exact s j ob e
  generalize hq : (fun j => if j = b then some (Obj.cells (putL cs.toList off ys).toArray ty (0, 0)) else g1 j) = g1' at hA'
  have dom : ∀ j, g1' j = none ↔ g1 j = none := fun j => by
    rw [← hq]
    simp only
    by_cases c : j = b
    · subst c; simp [hb]
    · simp [c]
  have sub1 : Sub g1' w' := fun j ob e => by
    rw [← hq] at e
    simp only at e
    by_cases c : j = b
    · subst c; rw [if_pos rfl] at e; rw [← e]; exact hh
    · rw [if_neg c] at e; rw [hne j c]; exact s1.left j ob e
  have mm' : Mem G { st with h := A' :: rest } ρ w' := by
    refine mem_join (g := un (obj st ρ w) (un g1' g2)) mm hwd ((old hob s3).un (sub1.un (old hg2 (s1.right d)))) ⟨un g1' g2, fun j => ?_, rfl, g1', g2, fun j => ?_, rfl, hA', a2⟩
    · rcases d0 j with e | e
      · exact .inl e
      · exact .inr (un_none.2 ⟨(dom j).2 (un_none.1 e).1, (un_none.1 e).2⟩)
    · rcases d j with e | e
      · exact .inl ((dom j).2 e)
      · exact .inr e
  obtain ⟨st', k', m', mm2⟩ := putK_go k (ρ := ρ) (v := u) rfl (m.same rfl) mm'
  unfold Oper.wp
  rw [hc, hrun']
  exact ⟨st', ρ, k', m', mm2, Ext.refl _⟩
/-- the tail of a row cleared -/
theorem OpAt.clear {G : Gl} {o : Oper} {st : St} {K : St → Prop} {t e : TypeId} {x : Operand} {i : TypeInfo} {z : Value} {A A' : HP} (b off n c : Nat) (rest : List HP) (ho : o.op = .call { callee := .builtin .clear, args := #[x], argTypes := #[t] }) (hp : ∀ h, sepL st.h G.R h → sepL (A :: rest) G.R h) (hx : evR st x = .slice (some ⟨b, off, none⟩) n c) (hn : 0 < n)
    (hr : allR st o.op.operands.toList = true) (hu : G.P.underlying t = some (.slice e)) (hi : G.P.info? e = some i) (hz : i.zero = some z) (h1 : ∀ u ∈ (Builtin.zeroCells z.cells n).toList, u.oneCell' = true)
    (hA : ∀ h, A h → ∃ ty cs, h b = some (.cells cs ty (0, 0)) ∧ off + (Builtin.zeroCells z.cells n).toList.length ≤ cs.size ∧ A' fun j => if j = b then some (.cells (putL cs.toList off (Builtin.zeroCells z.cells n).toList).toArray ty (0, 0)) else h j)
    (k : putK G { st with h := A' :: rest } o.dst (.v (.tuple #[])) none K) : OpAt G o st K := by
  refine OpAt.write b off _ (.tuple #[]) rest (by rw [ho]; rfl) hp hr h1 (fun w w' hs => ?_) hA k
  have hn' : n ≠ 0 := by omega
  simp [execOp, ho, resolve, invoke, builtin, hx, Builtin.clear_, underlying, zeroValue, typeInfo, hu, hi, hz, hn', hs]
/-- what is behind a place of a slice -/
theorem OpAt.from {G : Gl} {o : Oper} {st : St} {K : St → Prop} {t e : TypeId} {x l : Operand} {i : TypeInfo} (b off n c lo : Nat) (k : IntKind) (ho : o.op = .slice t x (some l) none none) (hx : evR st x = .slice (some ⟨b, off, none⟩) n c) (hl : evR st l = .int k (lo : Int)) (hr : allR st o.op.operands.toList = true)
    (hu : G.P.underlying t = some (.slice e)) (hi : G.P.info? e = some i) (h1 : lo ≤ n) (h2 : lo < c) (kk : putK G st o.dst (.v (.slice (some ⟨b, off + lo * i.size, none⟩) (n - lo) (c - lo))) none K) : OpAt G o st K := by
  refine OpAt.val _ (by rw [ho]; rfl) hr (fun w _ => ?_) kk
  have h3 : ¬ c = lo := by omega
  have h4 : (lo : Int) ≤ (n : Int) := by omega
  have hsz : (sizeOf e).run G.P w = .ok i.size w := by simp [sizeOf, typeInfo, hi]
  simp [execOp, ho, hx, hl, Instr.sliceAt, Instr.slice, run_underlying hu, Instr.sliceBounds, Instr.sliceBound, asIntOf, h1, hsz, h3, Addr.add]
/-- the front of a row -/
theorem row_cut {g n m cap size : Nat} {e : TypeId} {xs : List Value} (h : m ≤ n) {hl : Hl} (r : rowH (.slice (some ⟨g, 0, none⟩) n cap) n e size xs hl) : rowH (.slice (some ⟨g, 0, none⟩) m cap) m e size (xs.take (m * size)) hl := by
  obtain ⟨hx, r⟩ := r
  rcases r with ⟨c, _⟩ | ⟨g', cap', cur, h1, h2, h3, h4, h5, h6⟩
  · cases c
  injection h1 with e1 e2 e3
  injection e1 with e1
  injection e1 with e1
  subst e1 e3
  have hm : m * size ≤ n * size := Nat.mul_le_mul_right _ h
  refine ⟨by rw [List.length_take]; omega, .inr ⟨g, cap, cur, rfl, h2, by omega, h4, h5, ?_⟩⟩
  rw [← h6, List.take_take, Nat.min_eq_left hm]
end Sy
end Go.Proofs.Ytfgmnkbiciaahaa

/-
  slices.DeleteFunc on cells; view.Both.
-/
namespace Go.Proofs.Ytfgmnkbiciaahaa
open Go.RowKit
open Sy
set_option linter.unusedVariables false
set_option linter.unusedSimpArgs false
set_option maxRecDepth 100000
set_option maxHeartbeats 4000000

theorem ccel_take : ∀ (l : List (Nat × Nat)) (i : Nat), (ccel l).take (i * 2) = ccel (l.take i)
  | [], i => by simp [ccel]
  | a :: l, 0 => by simp [ccel]
  | a :: l, i + 1 => by
    have := ccel_take l i
    simp only [ccel, List.flatMap_cons, List.take_succ_cons] at *
    rw [show (i + 1) * 2 = i * 2 + 1 + 1 by omega]
    simp only [List.cons_append, List.nil_append, List.take_succ_cons]
    rw [this]
theorem ccel_drop : ∀ (l : List (Nat × Nat)) (i : Nat), (ccel l).drop (i * 2) = ccel (l.drop i)
  | [], i => by simp [ccel]
  | a :: l, 0 => by simp
  | a :: l, i + 1 => by
    have := ccel_drop l i
    simp only [ccel, List.flatMap_cons, List.drop_succ_cons] at *
    rw [show (i + 1) * 2 = i * 2 + 1 + 1 by omega]
    simp only [List.cons_append, List.nil_append, List.drop_succ_cons]
    rw [this]
theorem ccel_put {l : List (Nat × Nat)} {i : Nat} (v : Nat × Nat) (h : i < l.length) : putL (ccel l) (i * 2) [.int .i64 (v.1 : Int), .int .i64 (v.2 : Int)] = ccel (l.set i v) := by
  unfold putL
  rw [ccel_take, show i * 2 + [Value.int .i64 (v.1 : Int), .int .i64 (v.2 : Int)].length = (i + 1) * 2 by simp; omega, ccel_drop, List.set_eq_take_append_cons_drop, if_pos h]
  simp [ccel]
theorem zero_len (n : Nat) : (Builtin.zeroCells (Value.agg #[.int .i64 0, .int .i64 0]).cells n).toList.length = n * 2 := by
  simp [Builtin.zeroCells, Value.cells]
theorem zero_one (n : Nat) : ∀ u ∈ (Builtin.zeroCells (Value.agg #[.int .i64 0, .int .i64 0]).cells n).toList, u.oneCell' = true := by
  intro u hu
  simp only [Builtin.zeroCells, Value.cells, Array.toList_map, List.mem_map] at hu
  obtain ⟨i, _, rfl⟩ := hu
  rcases (show i % 2 = 0 ∨ i % 2 = 1 by omega) with e | e
  · show (#[Value.int .i64 0, .int .i64 0][i % 2]!).oneCell' = true
    rw [e]; rfl
  · show (#[Value.int .i64 0, .int .i64 0][i % 2]!).oneCell' = true
    rw [e]; rfl
/-- where the first is that p takes; -1: none -/
def ixF (p : Nat × Nat → Bool) (l : List (Nat × Nat)) : Int := if l.findIdx p < l.length then (l.findIdx p : Int) else -1
theorem sIndexB {R : HP} {A : Option Addr} {n c : Nat} {l : List (Nat × Nat)} {p1 p2 p3 p4 : Value} {p : Nat × Nat → Bool} (hn : n ≤ 4611686018427387904) (ha : Sl R A n 2 (ccel l))
    (hp : ∀ R' : HP, (∀ w, Sat R' w → Sat R w) → ∀ x ∈ l, PureR Try.prog R' 25 [cellV (x.1 : Int) (x.2 : Int), p1, p2, p3, p4] (.bool (p x))) :
    PureR Try.prog R 47 [.slice A n c, .func (.func 25) #[] #[p1, p2, p3, p4]] (.int .i64 (ixF p l)) := by
  refine PureR.of_sat fun w hs => ?_
  obtain ⟨hl, sa⟩ := ha.spot (by omega) hs
  rw [ccel_len] at hl
  have e1 : l.length = n := by omega
  clear hs hl
  have hix : ∀ k (h : k < l.length), (∀ j (hj : j < k), p (l[j]'(by omega)) = false) → p l[k] = true → ixF p l = (k : Int) := fun k h h0 h1 => by
    have : l.findIdx p = k := (List.findIdx_eq h).2 ⟨h1, fun j hj => h0 j hj⟩
    unfold ixF
    rw [this, if_pos h]
  have hno : (∀ j (hj : j < n), p (l[j]'(by omega)) = false) → ixF p l = -1 := fun h => by
    have : l.findIdx p = l.length := List.findIdx_eq_length.2 fun x hx => by
      obtain ⟨j, hj, e⟩ := List.mem_iff_getElem.1 hx
      rw [← e]; exact h j (by omega)
    unfold ixF
    rw [this, if_neg (Nat.lt_irrefl _)]
  generalize ixF p l = ix at *
  refine fn_of_run0 false Try.func47 rfl hmix rfl fun w0 => ?_
  conv => whnf
  refine ⟨trivial, LoopAt.keep (α := Nat) [0, 1, 7] (fun k => [(8, .v (.int .i64 (k : Int)))]) (fun k => k ≤ n ∧ ∀ j (hj : j < k) (hj' : j < l.length), p l[j] = false) (fun k => n - k) 0 ⟨Nat.zero_le _, fun j hj => absurd hj (Nat.not_lt_zero _)⟩ rfl ⟨⟨rfl, rfl⟩, trivial⟩ ⟨⟨rfl, rfl⟩, ⟨rfl, rfl⟩, ⟨rfl, rfl⟩, trivial⟩ trivial ?_⟩
  rintro k ⟨hk, h0⟩
  conv => whnf
  refine ⟨fun h2 => ?_, fun h2 => ?_⟩
  · have g2 : k < n := by simpa using h2
    rcases sa with sa | ⟨b, off, rfl, sa⟩
    · omega
    have hk' : k < l.length := by omega
    obtain ⟨f1, f2⟩ := ccel_at (l := l) (i := k) hk'
    have hpk := fun R' h => hp R' h _ (List.getElem_mem hk')
    have hixk := hix k hk' (fun j hj => h0 j hj (by omega))
    have hsucc : p l[k] = false → ∀ j (hj : j < k + 1) (hj' : j < l.length), p l[j] = false := fun h j hj hj' => by
      rcases Nat.lt_or_ge j k with c | c
      · exact h0 j c hj'
      · have : j = k := by omega
        subst this; exact h
    generalize l[k] = x at *
    conv => whnf
    refine ⟨⟨trivial, by omega⟩, LoadAt.agg [.int .i64 (x.1 : Int), .int .i64 (x.2 : Int)] rfl rfl rfl (fun w hw j v hj => ?_) ?_⟩
    · rw [Int.toNat_natCast, Nat.add_assoc]
      rcases j with _ | _ | j
      · simp at hj; rw [← hj]; exact sa w hw _ _ f1
      · simp at hj; rw [← hj]; exact sa w hw _ _ f2
      · simp at hj
    conv => whnf
    refine ⟨trivial, CallAt.pure (fun R' hR' => hpk R' hR') ?_⟩
    conv => whnf
    refine ⟨fun h3 => ?_, fun h3 => ?_⟩
    · rw [hixk h3]
      conv => whnf
      exact ⟨trivial, fin_pure rfl rfl⟩
    · conv => whnf
      exact ⟨⟨trivial, by unfold rng; omega⟩, Next.keep (k + 1) ⟨by omega, hsucc h3⟩ (by omega) ⟨⟨rfl, rfl⟩, trivial⟩ ⟨⟨rfl, rfl⟩, ⟨rfl, rfl⟩, ⟨rfl, rfl⟩, trivial⟩ trivial rfl rfl rfl⟩
  · have g2 : k = n := by simp at h2; omega
    subst g2
    rw [hno fun j hj => h0 j hj (by omega)]
    conv => whnf
    exact ⟨trivial, fin_pure rfl rfl⟩
theorem sDelB {R : HP} {A : Option Addr} {n c : Nat} {l : List (Nat × Nat)} {p1 p2 p3 p4 : Value} {p : Nat × Nat → Bool} (hn : n ≤ 1048576)
    (hp : ∀ R' : HP, (∀ w, Sat R' w → Sat R w) → ∀ x ∈ l, PureR Try.prog R' 25 [cellV (x.1 : Int) (x.2 : Int), p1, p2, p3, p4] (.bool (p x))) :
    FnR Try.prog R 24 [.slice A n c, .func (.func 25) #[] #[p1, p2, p3, p4]] [cRow A n c l] fun r hs => ∃ A' m c', m = (l.filter fun x => !p x).length ∧ r = .slice A' m c' ∧ hs = [cRow A' m c' (l.filter fun x => !p x)] := by
  refine FnR.of_sat fun w hs => ?_
  have hrd := rowH_reads rfl (Sat.left hs)
  have e1 : l.length = n := by have := hrd.1; rw [ccel_len] at this; omega
  clear hrd
  have hix := fun R' (h : ∀ w, Sat R' w → Sat (sepL [cRow A n c l] R) w) => sIndexB (c := c) (R := R') (l := l) (p := p) (by omega) (Sl.row fun w s => (h w s).in_ 0 rfl) fun R'' h' x hx => hp R'' (fun w s => (h w (h' w s)).rest) x hx
  by_cases hx : l.findIdx p < l.length
  · have hn0 : 0 < n := by omega
    obtain ⟨g, rfl, _⟩ := rowH_at (Sat.left hs) hn0
    have hnc := row_cap (Sat.left hs)
    clear hs
    have eix : ixF p l = ((l.findIdx p : Nat) : Int) := if_pos hx
    obtain ⟨h1, h0⟩ := (List.findIdx_eq hx).1 rfl
    rw [eix] at hix
    generalize l.findIdx p = i0 at *
    have hstart : (l.take (i0 + 1)).filter (fun x => !p x) = l.take i0 := by
      rw [List.take_succ_eq_append_getElem hx, List.filter_append]
      have e2 : [l[i0]].filter (fun x => !p x) = [] := by simp [h1]
      rw [e2, List.append_nil]
      refine List.filter_eq_self.2 fun x hm => ?_
      obtain ⟨j, hj, e⟩ := List.mem_iff_getElem.1 hm
      have hj2 : j < i0 := by simp at hj; omega
      rw [← e, List.getElem_take, h0 j hj2]
      rfl
    have hsucc : ∀ j (hj : j < l.length), (l.take (j + 1)).filter (fun x => !p x) = (l.take j).filter (fun x => !p x) ++ if p l[j] then [] else [l[j]] := fun j hj => by
      rw [List.take_succ_eq_append_getElem hj, List.filter_append]
      congr 1
      cases h : p l[j] <;> simp [h]
    have hfl : ∀ j, ((l.take j).filter (fun x => !p x)).length ≤ n := fun j => by
      refine Nat.le_trans (List.length_filter_le _ _) ?_
      rw [List.length_take]; omega
    refine fn_of_run0 false Try.func24 rfl hmix rfl fun w0 => ?_
    conv => whnf
    refine ⟨trivial, CallAt.pure (fun R' hR' => hix R' hR') ?_⟩
    conv => whnf
    refine iff_f (decide_eq_false (by omega)) ?_
    conv => whnf
    refine ⟨(by (repeat' apply And.intro) <;> first | exact True.intro | (unfold rng; omega) | omega), LoopAt.heap (α := Nat × Nat × List (Nat × Nat)) [0, 1] (fun a => [(5, .v (.int .i64 (a.2.1 : Int))), (6, .v (.int .i64 (a.1 : Int)))]) (fun a => [cRow (some ⟨g, 0, none⟩) n c a.2.2])
      (fun a => a.1 ≤ n ∧ a.2.1 < a.1 ∧ a.2.2.length = n ∧ a.2.2.take a.2.1 = (l.take a.1).filter (fun x => !p x) ∧ a.2.1 = ((l.take a.1).filter (fun x => !p x)).length ∧ a.2.2.drop a.1 = l.drop a.1) (fun a => n - a.1) (i0 + 1, i0, l) ⟨by simp only; omega, by simp only; omega, e1, hstart.symm, by simp only [hstart, List.length_take]; omega, rfl⟩ rfl ⟨⟨rfl, rfl⟩, ⟨rfl, rfl⟩, trivial⟩ ⟨⟨rfl, rfl⟩, ⟨rfl, rfl⟩, trivial⟩ trivial (fun h s => sub_same s) ?_⟩
    rintro ⟨j, i, L⟩ ⟨hj, hij, hL, ht, hi, hd⟩
    simp only at hj hij hL ht hi hd
    conv => whnf
    refine ⟨fun h => ?_, fun h => ?_⟩
    · have g1 : j < n := by have := of_decide_eq_true h; omega
      have hjl : j < l.length := by omega
      have hLj : L[j]'(by omega) = l[j] := by
        have h3 : L[j]? = l[j]? := by
          have := congrArg (fun q => q[0]?) hd
          simpa using this
        rw [List.getElem?_eq_getElem (by omega), List.getElem?_eq_getElem hjl] at h3
        exact Option.some.inj h3
      obtain ⟨f1, f2⟩ := ccel_at (l := L) (i := j) (by omega)
      rw [hLj] at f1 f2
      have hpj := fun R' h => hp R' h _ (List.getElem_mem hjl)
      have hs1 := hsucc j hjl
      have hdd : L.drop (j + 1) = l.drop (j + 1) := by
        have := congrArg (List.drop 1) hd
        simpa using this
      generalize l[j] = x at *
      conv => whnf
      refine ⟨⟨trivial, by omega⟩, LoadAt.agg [.int .i64 (x.1 : Int), .int .i64 (x.2 : Int)] rfl rfl rfl (fun w hw q v hq => ?_) ?_⟩
      · rw [Int.toNat_natCast, Nat.add_assoc]
        have hr : ∀ k u, (ccel L)[k]? = some u → w.cell? ⟨g, k, none⟩ = some u := fun k u h => row_at (hw.in_ 0 rfl) hn0 h
        rw [Nat.zero_add]
        rcases q with _ | _ | q
        · simp at hq; rw [← hq]; exact hr _ _ f1
        · simp at hq; rw [← hq]; exact hr _ _ f2
        · simp at hq
      conv => whnf
      refine ⟨trivial, CallAt.pure (fun R' hR' => hpj R' (fun w s => (hR' w s).rest)) ?_⟩
      conv => whnf
      refine ⟨fun h3 => ?_, fun h3 => ?_⟩
      · have h3 : p x = false := by simpa using h3
        rw [h3, if_neg (by simp)] at hs1
        have hput := ccel_put (l := L) (i := i) x (by omega)
        conv => whnf
        refine ⟨⟨trivial, by simp only; omega⟩, OpAt.store g (0 + ((i : Nat) : Int).toNat * 2) (cellV (x.1 : Int) (x.2 : Int)) _ rfl (fun h s => s) rfl rfl rfl rfl rfl (by simp [Value.cells, Value.oneCell']) (fun h r => row_put (by simp [Value.cells]; omega) r) ?_⟩
        conv => whnf
        refine ⟨⟨⟨trivial, by unfold rng; simp only; omega⟩, by unfold rng; simp only; omega⟩, .mk (j + 1, i + 1, L.set i x) ⟨g1, by simp only; omega, by simp only [List.length_set]; exact hL, ?_, ?_, ?_⟩ (by simp only; omega) (Le.of (Nat.le_of_ble_eq_true rfl) (Nat.zero_le _) ⟨⟨rfl, rfl⟩, ⟨rfl, rfl⟩, ⟨rfl, rfl⟩, ⟨rfl, rfl⟩, trivial⟩ trivial fun h s => sub_same ?_)⟩
        · simp only
          rw [hs1, ← ht, List.take_succ_eq_append_getElem (by rw [List.length_set]; omega), List.getElem_set_self, List.take_set_of_le (Nat.le_refl _)]
        · simp only
          rw [hs1, List.length_append, ← hi]; rfl
        · simp only
          rw [List.drop_set_of_lt (by omega), hdd]
        · show sepL [rowH (.slice (some ⟨g, 0, none⟩) n c) n 24 2 (ccel (L.set i x))] _ h
          rw [← hput]
          have e3 : (0 + ((i : Nat) : Int).toNat * 2) = i * 2 := by omega
          rw [← e3]
          exact s
      · have h3 : p x = true := by simpa using h3
        rw [h3, if_pos rfl, List.append_nil] at hs1
        conv => whnf
        exact ⟨⟨trivial, by unfold rng; simp only; omega⟩, .mk (j + 1, i, L) ⟨g1, by simp only; omega, hL, by simp only; rw [hs1]; exact ht, by simp only; rw [hs1]; exact hi, hdd⟩ (by simp only; omega) (Le.of (Nat.le_of_ble_eq_true rfl) (Nat.zero_le _) ⟨⟨rfl, rfl⟩, ⟨rfl, rfl⟩, ⟨rfl, rfl⟩, ⟨rfl, rfl⟩, trivial⟩ trivial fun h s => sub_same s)⟩
    · have g1 : j = n := by have := of_decide_eq_false h; omega
      subst g1
      have htk : l.take j = l := List.take_of_length_le (by omega)
      rw [htk] at ht hi
      generalize hF : l.filter (fun x => !p x) = F at *
      have hcl : (ccel L).take (i * 2) = ccel F := by rw [ccel_take, ht]
      have hLl : (ccel L).length = j * 2 := by rw [ccel_len, hL]
      clear hix hstart hsucc hfl
      conv => whnf
      refine ⟨trivial, OpAt.from g 0 j c i .i64 rfl rfl rfl rfl rfl rfl (by omega) (by omega) ?_⟩
      conv => whnf
      refine ⟨trivial, OpAt.clear (z := .agg #[.int .i64 0, .int .i64 0]) g (0 + i * 2) (j - i) (c - i) [] rfl (fun h s => s) rfl (by omega) rfl rfl rfl rfl (zero_one _) (fun h r => row_put (by rw [zero_len]; omega) r) ?_⟩
      conv => whnf
      refine ⟨⟨trivial, by simp only; omega⟩, .mk [cRow (some ⟨g, 0, none⟩) F.length c F] (fun w ⟨h, hs, s⟩ => ⟨h, hs, ?_⟩) ⟨some ⟨g, 0, none⟩, F.length, c, rfl, ?_, rfl⟩⟩
      · obtain ⟨h1, h2, d, rfl, a, s⟩ := s
        refine ⟨h1, h2, d, rfl, ?_, s⟩
        have hr := row_cut (m := i) (by omega) a
        have e2 : (putL (ccel L) (0 + i * 2) (Builtin.zeroCells (Value.agg #[.int .i64 0, .int .i64 0]).cells (j - i)).toList).take (i * 2) = ccel F := by
          unfold putL
          rw [Nat.zero_add, List.append_assoc, List.take_append_of_le_length (by rw [List.length_take]; omega), List.take_take, Nat.min_self, hcl]
        rw [e2, hi] at hr
        exact hr
      · rw [← hi]; rfl
  · have eix : ixF p l = -1 := if_neg hx
    rw [eix] at hix
    have hfl : l.filter (fun x => !p x) = l := List.filter_eq_self.2 fun x hm => by
      obtain ⟨j, hj, e⟩ := List.mem_iff_getElem.1 hm
      have : ∀ y ∈ l, p y = false := List.findIdx_eq_length.1 (by have := List.findIdx_le_length (p := p) (xs := l); omega)
      rw [this x hm]; rfl
    rw [hfl]
    refine fn_of_run0 false Try.func24 rfl hmix rfl fun w0 => ?_
    conv => whnf
    refine ⟨trivial, CallAt.pure (fun R' hR' => hix R' hR') ?_⟩
    conv => whnf
    repeat (first | (refine ⟨fun _ => ?_, fun h => absurd h (by decide)⟩; conv => whnf) | (refine ⟨fun h => absurd h (by decide), fun _ => ?_⟩; conv => whnf))
    exact ⟨trivial, .mk _ (fun w s => s) ⟨A, n, c, e1.symm, rfl, rfl⟩⟩
end Go.Proofs.Ytfgmnkbiciaahaa

/-
  view.Both; the law ViewBoth.
-/
namespace Go.Proofs.Ytfgmnkbiciaahaa
open Go.RowKit
open Sy
set_option linter.unusedVariables false
set_option linter.unusedSimpArgs false
set_option maxRecDepth 100000
set_option maxHeartbeats 4000000

/-- some parts out of all -/
theorem sub_front {R : HP} {r : List HP} : ∀ {m : List HP} {h : Hl}, sepL (m ++ r) R h → ∃ h' : Hl, (∀ i o, h' i = some o → h i = some o) ∧ sepL m R h'
  | [], h, s => sub_nil s
  | A :: m, h, s => by
    obtain ⟨h1, h2, d, rfl, a, s⟩ := s
    obtain ⟨h', e, s'⟩ := sub_front (m := m) s
    have dom : ∀ i, h2 i = none → h' i = none := fun i c => by
      cases x : h' i with
      | none => rfl
      | some o => rw [e i o x] at c; cases c
    refine ⟨un h1 h', fun i o hi => ?_, h1, h', fun i => (d i).imp_right (dom i), rfl, a, s'⟩
    unfold un at hi ⊢
    cases c : h1 i with
    | some x => rw [c] at hi; exact hi
    | none => rw [c] at hi; simp only [Option.none_or] at hi ⊢; exact e i o hi
theorem sub_pick {R : HP} {l : List HP} (m r : List HP) (p : l.Perm (m ++ r)) {h : Hl} (s : sepL l R h) : ∃ h' : Hl, (∀ i o, h' i = some o → h i = some o) ∧ sepL m R h' := sub_front (sepL_perm p s)
theorem sub_head {A : HP} {R : HP} {l : List HP} {h : Hl} (s : sepL (A :: l) R h) : ∃ h' : Hl, (∀ i o, h' i = some o → h i = some o) ∧ sepL [A] R h' := sub_front (m := [A]) s
/-- what the closure of Both asks: not seen from b, or not near -/
def outB (W H : Nat) (F : Nat → Nat → Int × Int) (b : P2) (h n : Int) (c : Nat × Nat) : Bool := !(seesC W F b h 0 c && decide ((nearQ W H b n).x0 ≤ (c.1 : Int) ∧ (c.1 : Int) ≤ (nearQ W H b n).x1 ∧ (nearQ W H b n).y0 ≤ (c.2 : Int) ∧ (c.2 : Int) ≤ (nearQ W H b n).y1))
theorem sBothC {R : HP} {pb x1 x2 x3 x4 W H : Nat} {b : P2} {F : Nat → Nat → Int × Int} {h n : Int} (hW : 1 ≤ W ∧ W ≤ 1024) (hH : 1 ≤ H ∧ H ≤ 1024) (hF : TopOk W H F) (gb : inG W H b) (hh : hiP h) (hn : nearC n = 0) (hp : ∀ w, Sat R w → Sat (pyrH pb W H F) w)
    (c1 : ∀ w, Sat R w → Blk w x1 32 #[.pointer (some ⟨pb, 0, none⟩)]) (c2' : ∀ w, Sat R w → Blk w x2 24 #[.int .i64 b.1, .int .i64 b.2]) (c3 : ∀ w, Sat R w → Blk w x3 2 #[.int .i64 h])
    (c4 : ∀ w, Sat R w → Blk w x4 56 #[.int .i64 (nearQ W H b n).x0, .int .i64 (nearQ W H b n).y0, .int .i64 (nearQ W H b n).x1, .int .i64 (nearQ W H b n).y1]) (c : Nat × Nat) (g1 : c.1 < W) (g2 : c.2 < H) :
    PureR Try.prog R 25 [cellV (c.1 : Int) (c.2 : Int), .pointer (some ⟨x1, 0, none⟩), .pointer (some ⟨x2, 0, none⟩), .pointer (some ⟨x3, 0, none⟩), .pointer (some ⟨x4, 0, none⟩)] (.bool (outB W H F b h n c)) := by
  have hcl := fun (R' : HP) (hR' : ∀ w, Sat R' w → Sat R w) => sClear (R := R') (b := ((c.1 : Int), (c.2 : Int))) h 0 hW hH hF gb (by unfold inG; simp only; omega) hh (by unfold hiP; omega) fun w s => hp w (hR' w s)
  have hcl2 : ∀ (R' : HP) (hR' : ∀ w, Sat R' w → Sat R w), FnR Try.prog R' 23 [.pointer (some ⟨pb, 0, none⟩), c2 b, .int .i64 h, cellV (c.1 : Int) (c.2 : Int), .int .i64 0] [] fun r hs => hs = [] ∧ ∃ x y : Int, r = .tuple #[.bool (seesC W F b h 0 c), cellV x y, .int .i64 0] := hcl
  clear hcl
  obtain ⟨a0, b0, a1, b1, hq, r1, r2, r3, r4⟩ := near_ok (a := b) gb hn
  unfold outB
  rw [hq] at c4 ⊢
  simp only at c4 ⊢
  have hha := fun R' => sHas2 a0 b0 a1 b1 c.1 c.2 (by unfold Q4.ok; simp only; omega) R'
  clear hq
  generalize decide ((a0 : Int) ≤ (c.1 : Int) ∧ (c.1 : Int) ≤ (a1 : Int) ∧ (b0 : Int) ≤ (c.2 : Int) ∧ (c.2 : Int) ≤ (b1 : Int)) = nr at *
  generalize seesC W F b h 0 c = se at *
  refine fn_of_run0 false Try.func25 rfl hmix rfl fun w0 => ?_
  conv => whnf
  refine ⟨trivial, LoadAt.cell (.pointer (some ⟨pb, 0, none⟩)) rfl rfl (fun w hw => (c1 w hw).cell 0) ?_⟩
  conv => whnf
  refine ⟨trivial, LoadAt.agg [.int .i64 b.1, .int .i64 b.2] rfl rfl rfl (fun w hw j v hj => ?_) ?_⟩
  · rcases j with _ | _ | j
    · simp at hj; rw [← hj]; exact (c2' w hw).cell 0
    · simp at hj; rw [← hj]; exact (c2' w hw).cell 1
    · simp at hj
  conv => whnf
  refine ⟨trivial, LoadAt.cell (.int .i64 h) rfl rfl (fun w hw => (c3 w hw).cell 0) ?_⟩
  conv => whnf
  refine ⟨trivial, CallAt.fn (pre := []) [] (fun h s => s) (fun R' hR' => hcl2 R' hR') ?_⟩
  rintro v hs ⟨rfl, x, y, rfl⟩
  conv => whnf
  refine ⟨fun h1 => ?_, fun h1 => ?_⟩
  · have h1 : se = true := by simpa using h1
    subst h1
    conv => whnf
    refine ⟨trivial, LoadAt.agg [.int .i64 (a0 : Int), .int .i64 (b0 : Int), .int .i64 (a1 : Int), .int .i64 (b1 : Int)] rfl rfl rfl (fun w hw j v hj => ?_) ?_⟩
    · rcases j with _ | _ | _ | _ | j
      · simp at hj; rw [← hj]; exact (c4 w hw).cell 0
      · simp at hj; rw [← hj]; exact (c4 w hw).cell 1
      · simp at hj; rw [← hj]; exact (c4 w hw).cell 2
      · simp at hj; rw [← hj]; exact (c4 w hw).cell 3
      · simp at hj
    conv => whnf
    refine ⟨trivial, CallAt.pure (fun R' hR' => hha R') ?_⟩
    conv => whnf
    exact ⟨trivial, fin_drop (by simp; rfl)⟩
  · have h1 : se = false := by simpa using h1
    subst h1
    conv => whnf
    exact ⟨trivial, fin_drop rfl⟩
/-- the error of Both -/
def bothE (W H : Nat) (a b : P2) (h n : Int) : Int := if ¬ inG W H a then 4 else viewE W H b h 0 n
theorem viewE_zero {W H : Nat} {a : P2} (ga : inG W H a) : viewE W H a 0 0 0 = 0 := by
  unfold viewE
  rw [if_neg (Classical.not_not.2 ga), if_neg (Classical.not_not.2 (by unfold hiP; omega))]
  rfl
theorem sBothBad {R : HP} {pb W H : Nat} {a b : P2} {F : Nat → Nat → Int × Int} (h n : Int) (hW : 1 ≤ W ∧ W ≤ 1024) (hH : 1 ≤ H ∧ H ≤ 1024) (hF : TopOk W H F) (hp : ∀ w, Sat R w → Sat (pyrH pb W H F) w) (he : bothE W H a b h n ≠ 0) :
    PureR Try.prog R 10 [.pointer (some ⟨pb, 0, none⟩), c2 a, c2 b, .int .i64 h, .int .i64 n] (.tuple #[.slice none 0 0, .int .i64 (bothE W H a b h n)]) := by
  have hara := fun (R' : HP) (hR' : ∀ w, Sat R' w → Sat R w) => sVAround (R := R') (a := a) 0 0 0 hW hH hF fun w s => hp w (hR' w s)
  have harb := fun (R' : HP) (hR' : ∀ w, Sat R' w → Sat R w) => sVAround (R := R') (a := b) h 0 n hW hH hF fun w s => hp w (hR' w s)
  unfold bothE at *
  by_cases ga : inG W H a
  · rw [if_neg (Classical.not_not.2 ga)] at he ⊢
    rw [viewE_zero ga] at hara
    generalize viewQ W H a 0 0 0 = qa at *
    generalize viewQ W H b h 0 n = qb at *
    generalize viewE W H b h 0 n = e at *
    refine fn_of_run0 false Try.func10 rfl hmix rfl fun w0 => ?_
    conv => whnf
    refine ⟨trivial, CallAt.pure (fun R' hR' => hara R' hR') ?_⟩
    conv => whnf
    refine iff_f rfl ?_
    conv => whnf
    refine ⟨trivial, CallAt.pure (fun R' hR' => harb R' hR') ?_⟩
    conv => whnf
    refine iff_t (by simpa using he) ?_
    conv => whnf
    exact ⟨trivial, fin_drop rfl⟩
  · rw [if_pos ga] at he ⊢
    have e4 : viewE W H a 0 0 0 = 4 := if_pos ga
    rw [e4] at hara
    generalize viewQ W H a 0 0 0 = qa at *
    refine fn_of_run0 false Try.func10 rfl hmix rfl fun w0 => ?_
    conv => whnf
    refine ⟨trivial, CallAt.pure (fun R' hR' => hara R' hR') ?_⟩
    conv => whnf
    repeat (first | (refine ⟨fun _ => ?_, fun h => absurd h (by decide)⟩; conv => whnf) | (refine ⟨fun h => absurd h (by decide), fun _ => ?_⟩; conv => whnf))
    exact ⟨trivial, fin_drop rfl⟩
theorem vL_in {W H : Nat} {F : Nat → Nat → Int × Int} {a : P2} {ha hb n : Int} (hW : 1 ≤ W ∧ W ≤ 1024) (hH : 1 ≤ H ∧ H ≤ 1024) (h : viewE W H a ha hb n = 0) : (viewL W H F a ha hb n).length ≤ 1048576 ∧ ∀ c ∈ viewL W H F a ha hb n, c.1 < W ∧ c.2 < H := by
  obtain ⟨ga, h1, h2, hn⟩ := viewE_ok h
  obtain ⟨x0, y0, x1, y1, hq, r1, r2, r3, r4⟩ := near_ok (a := a) ga hn
  unfold viewL
  rw [hq]
  simp only [Int.toNat_natCast]
  refine ⟨Nat.le_trans (vL_len _ _ _ _ _) (Nat.mul_le_mul (show _ ≤ 1024 by omega) (show _ ≤ 1024 by omega)), fun c hc => ?_⟩
  unfold vL at hc
  obtain ⟨hc, _⟩ := List.mem_filter.1 hc
  obtain ⟨i, hi, rfl⟩ := List.mem_map.1 hc
  have hi := List.mem_range.1 hi
  unfold nthC
  have e1 := Nat.mod_lt i (show 0 < x1 - x0 + 1 by omega)
  have e2 : i / (x1 - x0 + 1) < y1 - y0 + 1 := (Nat.div_lt_iff_lt_mul (by omega)).2 (by rw [Nat.mul_comm]; exact hi)
  simp only
  omega
/-- the cells in both views -/
def bothL (W H : Nat) (F : Nat → Nat → Int × Int) (a b : P2) (h n : Int) : List (Nat × Nat) := (viewL W H F a h 0 n).filter fun c => !outB W H F b h n c
theorem sBoth {R : HP} {pb W H : Nat} {a b : P2} {F : Nat → Nat → Int × Int} (h n : Int) (hW : 1 ≤ W ∧ W ≤ 1024) (hH : 1 ≤ H ∧ H ≤ 1024) (hF : TopOk W H F) (hp : ∀ w, Sat R w → Sat (pyrH pb W H F) w) (he : bothE W H a b h n = 0) :
    FnR Try.prog R 10 [.pointer (some ⟨pb, 0, none⟩), c2 a, c2 b, .int .i64 h, .int .i64 n] [] fun r hs => ∃ A c, r = .tuple #[.slice A (bothL W H F a b h n).length c, .int .i64 0] ∧ hs = [cRow A (bothL W H F a b h n).length c (bothL W H F a b h n)] := by
  have ga : inG W H a := Classical.byContradiction fun c => by unfold bothE at he; rw [if_pos c] at he; omega
  have hb : viewE W H b h 0 n = 0 := by unfold bothE at he; rwa [if_neg (Classical.not_not.2 ga)] at he
  obtain ⟨gb, hh, h0, hn⟩ := viewE_ok hb
  have ha : viewE W H a h 0 n = 0 := by
    unfold viewE
    rw [if_neg (Classical.not_not.2 ga), if_neg (Classical.not_not.2 ⟨hh, h0⟩)]
    exact hn
  have hara := fun (R' : HP) (hR' : ∀ w, Sat R' w → Sat R w) => sVAround (R := R') (a := a) 0 0 0 hW hH hF fun w s => hp w (hR' w s)
  have harb := fun (R' : HP) (hR' : ∀ w, Sat R' w → Sat R w) => sVAround (R := R') (a := b) h 0 n hW hH hF fun w s => hp w (hR' w s)
  have hvq : viewQ W H b h 0 n = nearQ W H b n := by
    unfold viewQ
    rw [if_neg (Classical.not_not.2 gb), if_neg (Classical.not_not.2 ⟨hh, h0⟩)]
  rw [viewE_zero ga] at hara
  rw [hb, hvq] at harb
  have hfr := fun (R' : HP) (hR' : ∀ w, Sat R' w → Sat R w) => sVFrom (R := R') (a := a) h 0 n hW hH hF ha fun w s => hp w (hR' w s)
  obtain ⟨hlen, hin⟩ := vL_in (F := F) hW hH ha
  have hclo := fun (R' : HP) x1 x2 x3 x4 hp' k1 k2 k3 k4 c (hc : c ∈ viewL W H F a h 0 n) => sBothC (R := R') (pb := pb) (x1 := x1) (x2 := x2) (x3 := x3) (x4 := x4) hW hH hF gb hh hn hp' k1 k2 k3 k4 c (hin c hc).1 (hin c hc).2
  unfold bothL
  generalize viewL W H F a h 0 n = L at *
  generalize outB W H F b h n = out at *
  generalize viewQ W H a 0 0 0 = qa at *
  generalize nearQ W H b n = q at *
  clear hvq ha hb he hn hin
  refine fn_of_run0 false Try.func10 rfl hmix rfl fun w0 => ?_
  conv => whnf
  refine ⟨trivial, CallAt.pure (fun R' hR' => hara R' hR') ?_⟩
  conv => whnf
  refine iff_f rfl ?_
  conv => whnf
  refine ⟨trivial, CallAt.pure (fun R' hR' => harb R' hR') ?_⟩
  conv => whnf
  refine iff_f rfl ?_
  conv => whnf
  refine ⟨trivial, CallAt.fn (pre := []) _ (fun h s => s) (fun R' hR' => hfr R' hR') ?_⟩
  rintro v hs ⟨A, d, rfl, rfl⟩
  conv => whnf
  intro x1 _ x2 _ x3 _ x4 _
  conv => whnf
  refine ⟨trivial, CallAt.fn (pre := [cRow A L.length d L]) _ (fun h s => sepL_pull 4 s) (fun R' hR' => sDelB (p := out) (by omega) fun R'' h'' c hc => hclo R'' x1 x2 x3 x4 (fun w s => hp w (hR' w (h'' w s)).rest) (fun w s => blk_sat ((hR' w (h'' w s)).in_ 3 rfl)) (fun w s => blk_sat ((hR' w (h'' w s)).in_ 2 rfl)) (fun w s => blk_sat ((hR' w (h'' w s)).in_ 1 rfl)) (fun w s => blk_sat ((hR' w (h'' w s)).in_ 0 rfl)) c hc) ?_⟩
  rintro v hs ⟨A', m, c', rfl, rfl, rfl⟩
  conv => whnf
  refine ⟨trivial, .mk [cRow A' (L.filter fun x => !out x).length c' (L.filter fun x => !out x)] (fun w ⟨h, hs, s⟩ => ?_) ⟨A', c', rfl, rfl⟩⟩
  obtain ⟨h', e, s'⟩ := sub_head s
  exact ⟨h', hs.mono e, s'⟩
/-! plain -/
theorem near_iff {W H : Nat} {a : P2} {n : Int} (ga : inG W H a) (hn : nearC n = 0) {x y : Nat} (hx : x < W) (hy : y < H) : nearB a n ((x : Int), (y : Int)) ↔ (nearQ W H a n).x0 ≤ (x : Int) ∧ (x : Int) ≤ (nearQ W H a n).x1 ∧ (nearQ W H a n).y0 ≤ (y : Int) ∧ (y : Int) ≤ (nearQ W H a n).y1 := by
  have hn' : ¬ (n < 0 ∨ 1024 < n) := by
    intro c
    unfold nearC at hn
    rw [if_pos c] at hn
    omega
  unfold nearQ
  rw [if_neg hn']
  unfold inG at ga
  unfold nearB
  simp only
  omega
theorem mem_rowsF {p : Nat × Nat → Bool} {W H : Nat} {c : Nat × Nat} (h : c ∈ rowsF p W H) : c.1 < W ∧ c.2 < H := by
  unfold rowsF at h
  obtain ⟨y, hy, h⟩ := List.mem_flatMap.1 h
  unfold rowF at h
  obtain ⟨h, _⟩ := List.mem_filter.1 h
  obtain ⟨x, hx, rfl⟩ := List.mem_map.1 h
  exact ⟨List.mem_range.1 hx, List.mem_range.1 hy⟩
theorem rowsF_filter (p q : Nat × Nat → Bool) (W : Nat) : ∀ y, (rowsF p W y).filter q = rowsF (fun c => q c && p c) W y
  | 0 => rfl
  | y + 1 => by
    rw [rowsF_succ, rowsF_succ, List.filter_append, rowsF_filter p q W y]
    congr 1
    unfold rowF
    rw [List.filter_filter]
theorem bothL_eq {W H : Nat} {l : List Int} {a b : P2} {h n : Int} (hW : 1 ≤ W) (hH : 1 ≤ H) (he : bothE W H a b h n = 0) : bothL W H (Pf W H (gv W l)) a b h n = (rowsF (inV W l a h 0 n) W H).filter (inV W l b h 0 n) := by
  have ga : inG W H a := Classical.byContradiction fun c => by unfold bothE at he; rw [if_pos c] at he; omega
  have hb : viewE W H b h 0 n = 0 := by unfold bothE at he; rwa [if_neg (Classical.not_not.2 ga)] at he
  obtain ⟨gb, hh, h0, hn⟩ := viewE_ok hb
  have ha : viewE W H a h 0 n = 0 := by
    unfold viewE
    rw [if_neg (Classical.not_not.2 ga), if_neg (Classical.not_not.2 ⟨hh, h0⟩)]
    exact hn
  unfold bothL
  rw [view_eq hW hH ha]
  refine List.filter_congr fun c hc => ?_
  obtain ⟨h1, h2⟩ := mem_rowsF hc
  unfold outB inV
  rw [Bool.not_not, seesC_25 hW hH gb h1 h2, Bool.and_comm]
  congr 1
  exact decide_eq_decide.2 (near_iff gb hn h1 h2).symm
theorem both_comm {W H : Nat} {l : List Int} {a b : P2} {h n : Int} : (rowsF (inV W l a h 0 n) W H).filter (inV W l b h 0 n) = (rowsF (inV W l b h 0 n) W H).filter (inV W l a h 0 n) := by
  rw [rowsF_filter, rowsF_filter]
  congr 1
  funext c
  exact Bool.and_comm _ _
theorem bothE_comm {W H : Nat} {a b : P2} {h n : Int} : bothE W H a b h n = bothE W H b a h n := by
  unfold bothE viewE
  by_cases ga : inG W H a <;> by_cases gb : inG W H b <;> simp [ga, gb]
theorem ViewBoth_walk (W H : Int) (A : Option Addr) (n c : Nat) (l : List Int) (x y u v ha m : Int) (w : World) (_ : -9223372036854775808 ≤ W) (_ : W ≤ 9223372036854775807) (_ : -9223372036854775808 ≤ H) (_ : H ≤ 9223372036854775807) (hr : Reads w w.heap.size 1 A n (ints l)) (hn : n ≤ maxLen)
    (_ : -9223372036854775808 ≤ x) (_ : x ≤ 9223372036854775807) (_ : -9223372036854775808 ≤ y) (_ : y ≤ 9223372036854775807) (_ : -9223372036854775808 ≤ u) (_ : u ≤ 9223372036854775807) (_ : -9223372036854775808 ≤ v) (_ : v ≤ 9223372036854775807) (_ : -9223372036854775808 ≤ ha) (_ : ha ≤ 9223372036854775807) (_ : -9223372036854775808 ≤ m) (_ : m ≤ 9223372036854775807) :
    Calls Try.prog 4 #[.int .i64 W, .int .i64 H, .slice A n c, .agg #[.int .i64 x, .int .i64 y], .agg #[.int .i64 u, .int .i64 v], .int .i64 ha, .int .i64 m] w fun e w' => e = .returned (.bool true) ∧ Below w.heap.size w w' := by
  refine PureR.below (args := [.int .i64 W, .int .i64 H, .slice A n c, .agg #[.int .i64 x, .int .i64 y], .agg #[.int .i64 u, .int .i64 v], .int .i64 ha, .int .i64 m]) ?_
  have hv := vs_of_reads hr
  have hl : l.length = n := by have := hr.1; simpa [ints] using this
  by_cases hok : LandOk W H 400 n l
  · obtain ⟨W, H, rfl, rfl, w1, w2, h1, h2, hWH, hn0, hn1⟩ := land_nat hok (by decide)
    have hm := hok.2.2.2.2.2.2
    have hgm := gv_mayV hWH hl hm
    have hF := top_Pf (f := gv W l) w1 h1 hgm
    have hma := fun (R' : HP) (hR' : Vs R' A n l) => sMay27 (R := R') (c := c) hR' hWH w2 h2 (x, y) ha 0 m
    have hata := fun (R' : HP) (hR' : Vs R' A n l) => sMAt (R := R') (c := c) hR' hWH w2 h2 (x, y)
    have hatb := fun (R' : HP) (hR' : Vs R' A n l) => sMAt (R := R') (c := c) hR' hWH w2 h2 (u, v)
    have hea : atE W H (x, y) = if inG W H (x, y) then 0 else 4 := rfl
    have heb : atE W H (u, v) = if inG W H (u, v) then 0 else 4 := rfl
    by_cases he : bothE W H (x, y) (u, v) ha m = 0
    · have he2 : bothE W H (u, v) (x, y) ha m = 0 := by rw [bothE_comm]; exact he
      have ga : inG W H (x, y) := Classical.byContradiction fun c => by unfold bothE at he; rw [if_pos c] at he; omega
      have gb : inG W H (u, v) := Classical.byContradiction fun c => by unfold bothE at he2; rw [if_pos c] at he2; omega
      have hva : viewE W H (x, y) ha 0 m = 0 := by unfold bothE at he2; rwa [if_neg (Classical.not_not.2 gb)] at he2
      obtain ⟨_, g2, g3, g4⟩ := viewE_ok hva
      have hb1 := fun (pb : Nat) (R' : HP) hR' => sBoth (R := R') (pb := pb) (a := (x, y)) (b := (u, v)) ha m ⟨w1, w2⟩ ⟨h1, h2⟩ hF hR' he
      have hb2 := fun (pb : Nat) (R' : HP) hR' => sBoth (R := R') (pb := pb) (a := (u, v)) (b := (x, y)) ha m ⟨w1, w2⟩ ⟨h1, h2⟩ hF hR' he2
      rw [bothL_eq w1 h1 he] at hb1
      rw [bothL_eq w1 h1 he2, ← both_comm] at hb2
      have hf27 := fun (R' : HP) (hR' : Vs R' A n l) => FnR.also (q := fun r hs => ∃ B d, r = .slice B (rowsF (inV W l (x, y) ha 0 m) W H).length d ∧ hs = [cRow B (rowsF (inV W l (x, y) ha 0 m) W H).length d (rowsF (inV W l (x, y) ha 0 m) W H)] ∧ (0 < (rowsF (inV W l (x, y) ha 0 m) W H).length → ∃ g, B = some ⟨g, 0, none⟩)) (sFrom27 (R := R') (c := c) hR' hWH ⟨w1, w2⟩ ⟨h1, h2⟩ hgm ga m g2 g3) (by
        rintro v hs w ⟨B, d, rfl, rfl⟩ s
        refine ⟨B, d, rfl, rfl, fun h0 => ?_⟩
        obtain ⟨g, e, _⟩ := rowH_at (s.in_ 0 rfl) h0
        exact ⟨g, e⟩)
      have hin := fun (R' : HP) (hR' : Vs R' A n l) (q : Nat × Nat) (q1 : q.1 < W) (q2 : q.2 < H) => sIn27 (R := R') (c := c) hR' hWH ⟨w1, w2⟩ ⟨h1, h2⟩ hgm gb (b := ((q.1 : Int), (q.2 : Int))) (by unfold inG; simp only; omega) m g2 g3
      have hin2 : ∀ (R' : HP) (hR' : Vs R' A n l) (q : Nat × Nat) (q1 : q.1 < W) (q2 : q.2 < H), PureR Try.prog R' 14 [modV W H A n c, c2 (u, v), .int .i64 ha, .int .i64 0, .int .i64 m, cellV (q.1 : Int) (q.2 : Int)] (.bool (inV W l (u, v) ha 0 m q)) := hin
      rw [hva] at hma
      rw [hea, if_pos ga] at hata
      rw [heb, if_pos gb] at hatb
      have hlen : (rowsF (inV W l (x, y) ha 0 m) W H).length ≤ 1024 * 1024 := Nat.le_trans (rowsF_len _ _ _) (Nat.mul_le_mul h2 w2)
      have hmem := fun q (h : q ∈ rowsF (inV W l (x, y) ha 0 m) W H) => mem_rowsF h
      generalize rowsF (inV W l (x, y) ha 0 m) W H = L at *
      generalize inV W l (u, v) ha 0 m = p at *
      generalize atM W H l (x, y) = va at *
      generalize atM W H l (u, v) = vb at *
      clear hin hF hgm hva he he2
      have hfl : (L.filter p).length ≤ 1024 * 1024 := Nat.le_trans (List.length_filter_le _ _) hlen
      refine fn_of_run0 false Try.func4 rfl hmix rfl fun w0 => ?_
      conv => whnf
      refine ⟨trivial, CallAt.pure (fun R' hR' => sAwake27 R') ?_⟩
      conv => whnf
      refine iff_f (by decide) ?_
      conv => whnf
      refine ⟨trivial, CallAt.pure (fun R' hR' => sLandYes (hv.mono fun w s => hR' w s) (by decide) hn hok) ?_⟩
      conv => whnf
      refine iff_f (by decide) ?_
      conv => whnf
      refine ⟨trivial, CallAt.fn (pre := []) _ (fun h s => s) (fun R' hR' => sRisen (hv.mono fun w s => hR' w s) w1 w2 h1 h2 hWH hm) ?_⟩
      rintro r hs ⟨pb, rfl, rfl⟩
      conv => whnf
      refine iff_f (by decide) ?_
      conv => whnf
      refine ⟨trivial, CallAt.fn (pre := []) _ (fun h s => s) (fun R' hR' => hb1 pb R' fun w s => (hR' w s).in_ 0 rfl) ?_⟩
      rintro r hs ⟨B, d, rfl, rfl⟩
      conv => whnf
      refine ⟨trivial, CallAt.fn (pre := []) _ (fun h s => s) (fun R' hR' => hb2 pb R' fun w s => (hR' w s).in_ 1 rfl) ?_⟩
      rintro r hs ⟨B2, d2, rfl, rfl⟩
      conv => whnf
      refine ⟨trivial, CallAt.pure (fun R' hR' => hata R' (hv.mono fun w s => (hR' w s).rest)) ?_⟩
      conv => whnf
      refine ⟨trivial, CallAt.pure (fun R' hR' => hatb R' (hv.mono fun w s => (hR' w s).rest)) ?_⟩
      conv => whnf
      refine ⟨trivial, CallAt.pure (fun R' hR' => hma R' (hv.mono fun w s => (hR' w s).rest)) ?_⟩
      conv => whnf
      repeat (first | (refine ⟨fun _ => ?_, fun h => absurd h (by decide)⟩; conv => whnf) | (refine ⟨fun h => absurd h (by decide), fun _ => ?_⟩; conv => whnf))
      refine ⟨trivial, CallAt.pure (fun R' hR' => pSameCells (l := L.filter p) (l' := L.filter p) (by omega) (Sl.row fun w s => (hR' w s).in_ 1 rfl) (Sl.row fun w s => (hR' w s).in_ 0 rfl)) ?_⟩
      conv => whnf
      rw [decide_eq_true (show L.filter p = L.filter p from rfl)]
      repeat (first | (refine ⟨fun _ => ?_, fun h => absurd h (by decide)⟩; conv => whnf) | (refine ⟨fun h => absurd h (by decide), fun _ => ?_⟩; conv => whnf))
      refine ⟨trivial, OpAt.lit [] 2 rfl rfl rfl rfl rfl (by decide) rfl rfl rfl (by simp) rfl (by decide) fun g => ?_⟩
      conv => whnf
      refine ⟨trivial, CallAt.fn (pre := []) _ (fun h s => s) (fun R' hR' => hf27 R' (hv.mono fun w s => (hR' w s).rest)) ?_⟩
      rintro r hs ⟨B3, d3, rfl, rfl, hB3⟩
      conv => whnf
      refine ⟨trivial, LoopAt.heap (α := Nat × Option Addr × Nat) [5, 6, 11, 15, 18, 28] (fun a => [(27, .v (.slice a.2.1 ((L.take a.1).filter p).length a.2.2)), (29, .v (.int .i64 (a.1 : Int)))])
        (fun a => [cRow a.2.1 ((L.take a.1).filter p).length a.2.2 ((L.take a.1).filter p), cRow B3 L.length d3 L, cRow B (L.filter p).length d (L.filter p)]) (fun a => a.1 ≤ L.length) (fun a => L.length - a.1) (0, some ⟨g, 0, none⟩, 0) (Nat.zero_le _) rfl ⟨⟨rfl, rfl⟩, ⟨rfl, rfl⟩, trivial⟩ ⟨⟨rfl, rfl⟩, ⟨rfl, rfl⟩, ⟨rfl, rfl⟩, ⟨rfl, rfl⟩, ⟨rfl, rfl⟩, ⟨rfl, rfl⟩, trivial⟩ ⟨⟨rfl, rfl, rfl, rfl⟩, ⟨rfl, rfl, rfl, rfl⟩, ⟨rfl, rfl, rfl, rfl⟩, trivial⟩ (fun h s => ?_) ?_⟩
      · show ∃ h', _ ∧ sepL [cRow (some ⟨g, 0, none⟩) 0 0 [], cRow B3 L.length d3 L, cRow B (L.filter p).length d (L.filter p)] _ h'
        exact sub_pick [cRow (some ⟨g, 0, none⟩) 0 0 [], cRow B3 L.length d3 L, cRow B (L.filter p).length d (L.filter p)] [cRow B2 (L.filter p).length d2 (L.filter p), pyrH pb W H (Pf W H (gv W l))] (by
          refine (List.Perm.swap _ _ _).trans (List.Perm.cons _ (List.Perm.cons _ (List.Perm.swap _ _ _)))) s
      rintro ⟨i, A1, k1⟩ hi
      simp only at hi
      conv => whnf
      refine ⟨fun h => ?_, fun h => ?_⟩
      · have hi2 : i < L.length := by have := of_decide_eq_true h; omega
        obtain ⟨f1, f2⟩ := ccel_at (l := L) (i := i) hi2
        have hq := hmem _ (List.getElem_mem hi2)
        have hsucc : (L.take (i + 1)).filter p = (L.take i).filter p ++ if p L[i] then [L[i]] else [] := by
          rw [List.take_succ_eq_append_getElem hi2, List.filter_append]
          congr 1
          cases h : p L[i] <;> simp [h]
        have hlt : ((L.take i).filter p).length ≤ 1024 * 1024 := Nat.le_trans (List.length_filter_le _ _) (by rw [List.length_take]; omega)
        generalize L[i] = q at *
        generalize hP : (L.take i).filter p = P at *
        generalize hP' : (L.take (i + 1)).filter p = P' at *
        obtain ⟨b3, rfl⟩ := hB3 (by omega)
        conv => whnf
        refine ⟨trivial, RegAt.quiet hmix (by kernel_rfl) ?_⟩
        conv => whnf
        refine ⟨⟨trivial, by simp only; omega⟩, LoadAt.agg [.int .i64 (q.1 : Int), .int .i64 (q.2 : Int)] rfl rfl rfl (fun w hw j v hj => ?_) ?_⟩
        · rw [Int.toNat_natCast, Nat.zero_add]
          have hr : ∀ k u, (ccel L)[k]? = some u → w.cell? ⟨b3, k, none⟩ = some u := fun k u h => row_at (hw.in_ 1 rfl) (by omega) h
          rcases j with _ | _ | j
          · simp at hj; rw [← hj]; exact hr _ _ f1
          · simp at hj; rw [← hj]; exact hr _ _ f2
          · simp at hj
        conv => whnf
        refine ⟨trivial, CallQ.pure (fun R' hR' => hin2 R' (hv.mono fun w s => (hR' w s).rest) q hq.1 hq.2) ?_⟩
        conv => whnf
        refine ⟨trivial, ?_⟩
        conv => whnf
        refine ⟨fun h => ?_, fun h => ?_⟩
        · rw [h, if_pos rfl] at hsucc
          conv => whnf
          refine ⟨⟨trivial, by simp only; omega⟩, LoadAt.agg [.int .i64 (q.1 : Int), .int .i64 (q.2 : Int)] rfl rfl rfl (fun w hw j v hj => ?_) ?_⟩
          · rw [Int.toNat_natCast, Nat.zero_add]
            have hr : ∀ k u, (ccel L)[k]? = some u → w.cell? ⟨b3, k, none⟩ = some u := fun k u h => row_at (hw.in_ 1 rfl) (by omega) h
            rcases j with _ | _ | j
            · simp at hj; rw [← hj]; exact hr _ _ f1
            · simp at hj; rw [← hj]; exact hr _ _ f2
            · simp at hj
          conv => whnf
          refine ⟨trivial, OpAt.lit [cellV (q.1 : Int) (q.2 : Int)] 2 rfl rfl rfl rfl rfl (by decide) rfl rfl rfl (by simp [Value.cells]) rfl (by decide) fun g3 => ?_⟩
          conv => whnf
          refine ⟨trivial, OpAt.append (.slice A1 P.length k1) P.length 2 16 (ccel P) (ccel [q]) (some ⟨g3, 0, none⟩) 1 1 _ rfl (fun h s => sepL_pull 1 s) rfl rfl rfl rfl rfl rfl rfl rfl rfl (by decide) (fun w hw => rowH_reads rfl (Sat.left hw)) (ccel_one _) (by simp only [maxLen]; omega) (by omega) fun A' c' => ?_⟩
          conv => whnf
          refine ⟨⟨trivial, by unfold rng; simp only; omega⟩, .mk (i + 1, A', c') hi2 (by simp only; omega) (Le.of (Nat.le_of_ble_eq_true rfl) (Nat.zero_le _) ⟨⟨?_, rfl⟩, ⟨?_, rfl⟩, ⟨⟨rfl, rfl⟩, ⟨rfl, rfl⟩, ⟨rfl, rfl⟩, ⟨rfl, rfl⟩, ⟨rfl, rfl⟩, ⟨rfl, rfl⟩, trivial⟩⟩ ⟨⟨rfl, rfl, rfl, rfl⟩, ⟨rfl, rfl, rfl, rfl⟩, ⟨rfl, rfl, rfl, rfl⟩, trivial⟩ fun h s => ?_)⟩
          · show _ = some (SV.v (.slice A' ((L.take (i + 1)).filter p).length c'))
            rw [hP', hsucc, List.length_append]; rfl
          · show some _ = some _
            congr 3
          · obtain ⟨h', e1, s'⟩ := sub_drop1 s
            refine ⟨h', e1, ?_⟩
            show sepL [cRow A' ((L.take (i + 1)).filter p).length c' ((L.take (i + 1)).filter p), cRow (some ⟨b3, 0, none⟩) L.length d3 L, cRow B (L.filter p).length d (L.filter p)] _ h'
            rw [hP', hsucc, List.length_append]
            unfold cRow at *
            rw [ccel_append]
            exact s'
        · rw [h, if_neg (by simp), List.append_nil] at hsucc
          conv => whnf
          refine ⟨⟨trivial, by unfold rng; simp only; omega⟩, .mk (i + 1, A1, k1) hi2 (by simp only; omega) (Le.of (Nat.le_of_ble_eq_true rfl) (Nat.zero_le _) ⟨⟨?_, rfl⟩, ⟨?_, rfl⟩, ⟨⟨rfl, rfl⟩, ⟨rfl, rfl⟩, ⟨rfl, rfl⟩, ⟨rfl, rfl⟩, ⟨rfl, rfl⟩, ⟨rfl, rfl⟩, trivial⟩⟩ ⟨⟨rfl, rfl, rfl, rfl⟩, ⟨rfl, rfl, rfl, rfl⟩, ⟨rfl, rfl, rfl, rfl⟩, trivial⟩ fun h s => ?_)⟩
          · show _ = some (SV.v (.slice A1 ((L.take (i + 1)).filter p).length k1))
            rw [hP', hsucc]; rfl
          · show some _ = some _
            congr 3
          · show ∃ h', _ ∧ sepL [cRow A1 ((L.take (i + 1)).filter p).length k1 ((L.take (i + 1)).filter p), cRow (some ⟨b3, 0, none⟩) L.length d3 L, cRow B (L.filter p).length d (L.filter p)] _ h'
            rw [hP', hsucc]
            exact sub_same s
      · have hi2 : i = L.length := by have := of_decide_eq_false h; omega
        subst hi2
        rw [List.take_length]
        conv => whnf
        refine ⟨trivial, CallAt.pure (fun R' hR' => pSameCells (l := L.filter p) (l' := L.filter p) (by omega) (Sl.row fun w s => (hR' w s).in_ 2 rfl) (Sl.row fun w s => (hR' w s).in_ 0 rfl)) ?_⟩
        conv => whnf
        rw [decide_eq_true (show L.filter p = L.filter p from rfl)]
        exact ⟨trivial, fin_drop rfl⟩
    · have he2 : bothE W H (u, v) (x, y) ha m ≠ 0 := by rw [bothE_comm]; exact he
      have hb1 := fun (pb : Nat) (R' : HP) hR' => sBothBad (R := R') (pb := pb) (a := (x, y)) (b := (u, v)) ha m ⟨w1, w2⟩ ⟨h1, h2⟩ hF hR' he
      have hb2 := fun (pb : Nat) (R' : HP) hR' => sBothBad (R := R') (pb := pb) (a := (u, v)) (b := (x, y)) ha m ⟨w1, w2⟩ ⟨h1, h2⟩ hF hR' he2
      rw [bothE_comm] at hb2
      have hcase : (inG W H (x, y) ∧ inG W H (u, v) ∧ bothE W H (x, y) (u, v) ha m = viewE W H (x, y) ha 0 m) ∨ (inG W H (x, y) ∧ ¬ inG W H (u, v) ∧ bothE W H (x, y) (u, v) ha m = 4) ∨ (¬ inG W H (x, y) ∧ bothE W H (x, y) (u, v) ha m = 4) := by
        unfold bothE viewE
        by_cases ga : inG W H (x, y) <;> by_cases gb : inG W H (u, v) <;> simp [ga, gb]
      generalize hE : bothE W H (x, y) (u, v) ha m = E at *
      rw [hea] at hata
      rw [heb] at hatb
      generalize atM W H l (x, y) = va at *
      generalize atM W H l (u, v) = vb at *
      generalize viewE W H (x, y) ha 0 m = ve at *
      clear hF hgm he2 hea heb
      rcases hcase with ⟨ga, gb, rfl⟩ | ⟨ga, gb, rfl⟩ | ⟨ga, rfl⟩
      · rw [if_pos ga] at hata
        rw [if_pos gb] at hatb
        refine fn_of_run0 false Try.func4 rfl hmix rfl fun w0 => ?_
        conv => whnf
        refine ⟨trivial, CallAt.pure (fun R' hR' => sAwake27 R') ?_⟩
        conv => whnf
        refine iff_f (by decide) ?_
        conv => whnf
        refine ⟨trivial, CallAt.pure (fun R' hR' => sLandYes (hv.mono fun w s => hR' w s) (by decide) hn hok) ?_⟩
        conv => whnf
        refine iff_f (by decide) ?_
        conv => whnf
        refine ⟨trivial, CallAt.fn (pre := []) _ (fun h s => s) (fun R' hR' => sRisen (hv.mono fun w s => hR' w s) w1 w2 h1 h2 hWH hm) ?_⟩
        rintro r hs ⟨pb, rfl, rfl⟩
        conv => whnf
        refine iff_f (by decide) ?_
        conv => whnf
        refine ⟨trivial, CallAt.pure (fun R' hR' => hb1 pb R' fun w s => (hR' w s).in_ 0 rfl) ?_⟩
        conv => whnf
        refine ⟨trivial, CallAt.pure (fun R' hR' => hb2 pb R' fun w s => (hR' w s).in_ 0 rfl) ?_⟩
        conv => whnf
        refine ⟨trivial, CallAt.pure (fun R' hR' => hata R' (hv.mono fun w s => (hR' w s).rest)) ?_⟩
        conv => whnf
        refine ⟨trivial, CallAt.pure (fun R' hR' => hatb R' (hv.mono fun w s => (hR' w s).rest)) ?_⟩
        conv => whnf
        refine ⟨trivial, CallAt.pure (fun R' hR' => hma R' (hv.mono fun w s => (hR' w s).rest)) ?_⟩
        conv => whnf
        repeat (first | (refine ⟨fun _ => ?_, fun h => absurd h (by decide)⟩; conv => whnf) | (refine ⟨fun h => absurd h (by decide), fun _ => ?_⟩; conv => whnf))
        refine ⟨fun _ => ?_, fun h => absurd h (by simp)⟩
        conv => whnf
        refine ⟨fun _ => ?_, fun h => absurd h (by simp)⟩
        conv => whnf
        refine ⟨trivial, CallAt.pure (fun R' hR' => pSameCells (l := []) (l' := []) (by omega) (Sl.nil _ _ _) (Sl.nil _ _ _)) ?_⟩
        conv => whnf
        rw [decide_eq_true (show ([] : List (Nat × Nat)) = [] from rfl)]
        conv => whnf
        refine iff_f rfl ?_
        conv => whnf
        refine iff_t (by simpa using he) ?_
        conv => whnf
        exact ⟨trivial, fin_drop rfl⟩
      · rw [if_pos ga] at hata
        rw [if_neg gb] at hatb
        refine fn_of_run0 false Try.func4 rfl hmix rfl fun w0 => ?_
        conv => whnf
        refine ⟨trivial, CallAt.pure (fun R' hR' => sAwake27 R') ?_⟩
        conv => whnf
        refine iff_f (by decide) ?_
        conv => whnf
        refine ⟨trivial, CallAt.pure (fun R' hR' => sLandYes (hv.mono fun w s => hR' w s) (by decide) hn hok) ?_⟩
        conv => whnf
        refine iff_f (by decide) ?_
        conv => whnf
        refine ⟨trivial, CallAt.fn (pre := []) _ (fun h s => s) (fun R' hR' => sRisen (hv.mono fun w s => hR' w s) w1 w2 h1 h2 hWH hm) ?_⟩
        rintro r hs ⟨pb, rfl, rfl⟩
        conv => whnf
        refine iff_f (by decide) ?_
        conv => whnf
        refine ⟨trivial, CallAt.pure (fun R' hR' => hb1 pb R' fun w s => (hR' w s).in_ 0 rfl) ?_⟩
        conv => whnf
        refine ⟨trivial, CallAt.pure (fun R' hR' => hb2 pb R' fun w s => (hR' w s).in_ 0 rfl) ?_⟩
        conv => whnf
        refine ⟨trivial, CallAt.pure (fun R' hR' => hata R' (hv.mono fun w s => (hR' w s).rest)) ?_⟩
        conv => whnf
        refine ⟨trivial, CallAt.pure (fun R' hR' => hatb R' (hv.mono fun w s => (hR' w s).rest)) ?_⟩
        conv => whnf
        refine ⟨trivial, CallAt.pure (fun R' hR' => hma R' (hv.mono fun w s => (hR' w s).rest)) ?_⟩
        conv => whnf
        repeat (first | (refine ⟨fun _ => ?_, fun h => absurd h (by decide)⟩; conv => whnf) | (refine ⟨fun h => absurd h (by decide), fun _ => ?_⟩; conv => whnf))
        refine ⟨trivial, CallAt.pure (fun R' hR' => pSameCells (l := []) (l' := []) (by omega) (Sl.nil _ _ _) (Sl.nil _ _ _)) ?_⟩
        conv => whnf
        rw [decide_eq_true (show ([] : List (Nat × Nat)) = [] from rfl)]
        repeat (first | (refine ⟨fun _ => ?_, fun h => absurd h (by decide)⟩; conv => whnf) | (refine ⟨fun h => absurd h (by decide), fun _ => ?_⟩; conv => whnf))
        exact ⟨trivial, fin_drop rfl⟩
      · rw [if_neg ga] at hata
        refine fn_of_run0 false Try.func4 rfl hmix rfl fun w0 => ?_
        conv => whnf
        refine ⟨trivial, CallAt.pure (fun R' hR' => sAwake27 R') ?_⟩
        conv => whnf
        refine iff_f (by decide) ?_
        conv => whnf
        refine ⟨trivial, CallAt.pure (fun R' hR' => sLandYes (hv.mono fun w s => hR' w s) (by decide) hn hok) ?_⟩
        conv => whnf
        refine iff_f (by decide) ?_
        conv => whnf
        refine ⟨trivial, CallAt.fn (pre := []) _ (fun h s => s) (fun R' hR' => sRisen (hv.mono fun w s => hR' w s) w1 w2 h1 h2 hWH hm) ?_⟩
        rintro r hs ⟨pb, rfl, rfl⟩
        conv => whnf
        refine iff_f (by decide) ?_
        conv => whnf
        refine ⟨trivial, CallAt.pure (fun R' hR' => hb1 pb R' fun w s => (hR' w s).in_ 0 rfl) ?_⟩
        conv => whnf
        refine ⟨trivial, CallAt.pure (fun R' hR' => hb2 pb R' fun w s => (hR' w s).in_ 0 rfl) ?_⟩
        conv => whnf
        refine ⟨trivial, CallAt.pure (fun R' hR' => hata R' (hv.mono fun w s => (hR' w s).rest)) ?_⟩
        conv => whnf
        refine ⟨trivial, CallAt.pure (fun R' hR' => hatb R' (hv.mono fun w s => (hR' w s).rest)) ?_⟩
        conv => whnf
        refine ⟨trivial, CallAt.pure (fun R' hR' => hma R' (hv.mono fun w s => (hR' w s).rest)) ?_⟩
        conv => whnf
        repeat (first | (refine ⟨fun _ => ?_, fun h => absurd h (by decide)⟩; conv => whnf) | (refine ⟨fun h => absurd h (by decide), fun _ => ?_⟩; conv => whnf))
        refine ⟨trivial, CallAt.pure (fun R' hR' => pSameCells (l := []) (l' := []) (by omega) (Sl.nil _ _ _) (Sl.nil _ _ _)) ?_⟩
        conv => whnf
        rw [decide_eq_true (show ([] : List (Nat × Nat)) = [] from rfl)]
        repeat (first | (refine ⟨fun _ => ?_, fun h => absurd h (by decide)⟩; conv => whnf) | (refine ⟨fun h => absurd h (by decide), fun _ => ?_⟩; conv => whnf))
        exact ⟨trivial, fin_drop rfl⟩
  · refine fn_of_run0 false Try.func4 rfl hmix rfl fun w0 => ?_
    conv => whnf
    refine ⟨trivial, CallAt.pure (fun R' hR' => sAwake27 R') ?_⟩
    conv => whnf
    refine iff_f (by decide) ?_
    conv => whnf
    refine ⟨trivial, CallAt.pure (fun R' hR' => sLandNo (hv.mono fun w s => hR' w s) (by decide) hn hok) ?_⟩
    conv => whnf
    refine iff_t (by decide) ?_
    conv => whnf
    exact ⟨trivial, fin_pure rfl rfl⟩
end Go.Proofs.Ytfgmnkbiciaahaa

/-
  The statement of hachurelaw27.ViewBoth: for every input the call returns true, and each argument reads afterwards as it read before. The row's own frame round the walk 'ViewBoth_walk'.
-/
namespace Go.Proofs.Ytfgmnkbiciaahaa.viewBothRow
open Go.Proofs.Ytfgmnkbiciaahaa
open Go.ChangeShapes Go.WideShapes Go.ChangeAt Go.RowKit Go.Joins
set_option linter.unusedVariables false

theorem own : ownKnob Try.prog.godebug = none := by kernel_rfl
theorem laidOut : laidOutB Try.prog = true := by kernel_rfl


set_option maxRecDepth 100000 in
theorem lifted (os : Os) (started : os.Started) (H : Type) (enc : TypeId × Value → H) :
    ReturnsInHanded {} Try.checked os 4 .any (Rows.viewBothSpec.pre6 enc Try.prog Try.f4 Rows.viewBothRow.domain false) (Rows.viewBothSpec.post enc Try.prog Try.f4 false true false false) := by
  refine returnsInHanded_of_change (C := Try.checked) own started (by kernel_rfl) Try.func4
    (ChangeSpec.witness6 (enc := enc) (C := Try.checked) false ⟨#[], #[.int .i64 0, .int .i64 0, .slice none 0 0, .agg #[.int .i64 0, .int .i64 0], .agg #[.int .i64 0, .int .i64 0], .int .i64 0, .int .i64 0], []⟩ 8 (by kernel_rfl) (by kernel_rfl) (by kernel_rfl) (by kernel_rfl)) ?_
  intro W base args ds gs before hval0 hW hcnd _
  have hval : ∀ (j : Nat) t v, Try.f4.params[j]? = some t → args[j]? = some v → Value.okWide Try.prog W .any base t v := hval0
  have hW' := hW
  obtain ⟨p, q, hA0, hV, rfl, hfz, hnd⟩ := hW
  have hA : DataW.TrodAll enc Try.prog W 0 (fun _ => true) true Try.f4.params.toList args.toList ds p := hA0
  rw [Try.params4] at hA hval
  obtain ⟨v0, vs0, d0, ds0, p0, q0, hargs, rfl, rfl, h0, r0⟩ := trodAll_cons hA
  obtain ⟨v1, vs1, d1, ds1, p1, q1, rfl, rfl, rfl, h1, r1⟩ := trodAll_cons r0
  obtain ⟨v2, vs2, d2, ds2, p2, q2, rfl, rfl, rfl, h2, r2⟩ := trodAll_cons r1
  obtain ⟨v3, vs3, d3, ds3, p3, q3, rfl, rfl, rfl, h3, r3⟩ := trodAll_cons r2
  obtain ⟨v4, vs4, d4, ds4, p4, q4, rfl, rfl, rfl, h4, r4⟩ := trodAll_cons r3
  obtain ⟨v5, vs5, d5, ds5, p5, q5, rfl, rfl, rfl, h5, r5⟩ := trodAll_cons r4
  obtain ⟨v6, vs6, d6, ds6, p6, q6, rfl, rfl, rfl, h6, r6⟩ := trodAll_cons r5
  obtain ⟨rfl, rfl, rfl⟩ := trodAll_nil r6
  obtain rfl : args = #[v0, v1, v2, v3, v4, v5, v6] := by cases args; simp_all
  obtain ⟨rfl, rfl⟩ := trodVars_none hV
  have k0 := h0
  have lt0 : ∀ x ∈ p0, x.block < W.heap.size := by obtain ⟨m, hm⟩ := k0; exact DataW.trod_lt m _ _ _ hm
  have k1 := h1
  have lt1 : ∀ x ∈ p1, x.block < W.heap.size := by obtain ⟨m, hm⟩ := k1; exact DataW.trod_lt m _ _ _ hm
  have k2 := h2
  have lt2 : ∀ x ∈ p2, x.block < W.heap.size := by obtain ⟨m, hm⟩ := k2; exact DataW.trod_lt m _ _ _ hm
  have k3 := h3
  have lt3 : ∀ x ∈ p3, x.block < W.heap.size := by obtain ⟨m, hm⟩ := k3; exact DataW.trod_lt m _ _ _ hm
  have k4 := h4
  have lt4 : ∀ x ∈ p4, x.block < W.heap.size := by obtain ⟨m, hm⟩ := k4; exact DataW.trod_lt m _ _ _ hm
  have k5 := h5
  have lt5 : ∀ x ∈ p5, x.block < W.heap.size := by obtain ⟨m, hm⟩ := k5; exact DataW.trod_lt m _ _ _ hm
  have k6 := h6
  have lt6 : ∀ x ∈ p6, x.block < W.heap.size := by obtain ⟨m, hm⟩ := k6; exact DataW.trod_lt m _ _ _ hm
  obtain ⟨a0, rfl, rfl, rfl, w0⟩ := open_int Try.underlying2 (hval 0 2 v0 rfl rfl) h0
  have b0 := bounds_i64 w0
  obtain ⟨a1, rfl, rfl, rfl, w1⟩ := open_int Try.underlying2 (hval 1 2 v1 rfl rfl) h1
  have b1 := bounds_i64 w1
  obtain ⟨a2, len2, cap2, rfl⟩ := okWide_slice Try.underlying22 (hval 2 22 v2 rfl rfl)
  obtain ⟨l2, hl2, hn2⟩ : ∃ l, Reads W W.heap.size 1 a2 len2 (ints l) ∧ len2 ≤ maxLen := by
    obtain ⟨fuel, hf⟩ := h2
    rcases open_ints Try.underlying22 Try.underlying2 (by kernel_rfl) hf with ⟨hcs, _⟩ | ⟨x, l, c, zs, hcs, _, hl, hm, hz, _, hcell, hwz⟩
    · simp [Value.cells] at hcs
      obtain ⟨rfl, rfl, rfl⟩ := hcs
      exact ⟨[], Reads.empty, by simp [maxLen]⟩
    · simp [Value.cells] at hcs
      obtain ⟨rfl, rfl, rfl⟩ := hcs
      obtain ⟨l, hl2⟩ := ints_of hl (by simpa using hz) hcell
      exact ⟨l, hl2, Nat.le_trans hl hm⟩
  obtain ⟨c3, e3, y3, z3, m3, rfl, rfl, rfl, hy3, hz3⟩ := open_agg2 Try.underlying24 (by kernel_rfl) (by kernel_rfl) (hval 3 24 v3 rfl rfl) h3
  obtain ⟨x3, f3, rfl, wx3⟩ := DataW.trod_int Try.underlying2 hy3
  obtain ⟨u3, g3, rfl, wu3⟩ := DataW.trod_int Try.underlying2 hz3
  simp at f3 g3
  subst f3 g3
  have bx3 := bounds_i64 wx3
  have bu3 := bounds_i64 wu3
  obtain ⟨c4, e4, y4, z4, m4, rfl, rfl, rfl, hy4, hz4⟩ := open_agg2 Try.underlying24 (by kernel_rfl) (by kernel_rfl) (hval 4 24 v4 rfl rfl) h4
  obtain ⟨x4, f4, rfl, wx4⟩ := DataW.trod_int Try.underlying2 hy4
  obtain ⟨u4, g4, rfl, wu4⟩ := DataW.trod_int Try.underlying2 hz4
  simp at f4 g4
  subst f4 g4
  have bx4 := bounds_i64 wx4
  have bu4 := bounds_i64 wu4
  obtain ⟨a5, rfl, rfl, rfl, w5⟩ := open_int Try.underlying2 (hval 5 2 v5 rfl rfl) h5
  have b5 := bounds_i64 w5
  obtain ⟨a6, rfl, rfl, rfl, w6⟩ := open_int Try.underlying2 (hval 6 2 v6 rfl rfl) h6
  have b6 := bounds_i64 w6
  clear hA0 hval0
  refine (ViewBoth_walk a0 a1 a2 len2 cap2 l2 x3 u3 x4 u4 a5 a6 W b0.1 b0.2 b1.1 b1.2 hl2 hn2 bx3.1 bx3.2 bu3.1 bu3.2 bx4.1 bx4.2 bu4.1 bu4.2 b5.1 b5.2 b6.1 b6.2).mono fun e W' ⟨he, bel⟩ => ?_
  subst he
  exact ⟨_, rfl, _, _, _, [], _, [], hW', trodAll_mk1 (shut_bool Try.underlying4 _), (trodAll_cons_mk (Below.trod laidOut (by kernel_rfl) (of_decide_eq_true (by kernel_rfl)) k0 bel lt0) (trodAll_cons_mk (Below.trod laidOut (by kernel_rfl) (of_decide_eq_true (by kernel_rfl)) k1 bel lt1) (trodAll_cons_mk (Below.trod laidOut (by kernel_rfl) (of_decide_eq_true (by kernel_rfl)) k2 bel lt2) (trodAll_cons_mk (Below.trod laidOut (by kernel_rfl) (of_decide_eq_true (by kernel_rfl)) k3 bel lt3) (trodAll_cons_mk (Below.trod laidOut (by kernel_rfl) (of_decide_eq_true (by kernel_rfl)) k4 bel lt4) (trodAll_cons_mk (Below.trod laidOut (by kernel_rfl) (of_decide_eq_true (by kernel_rfl)) k5 bel lt5) (trodAll_cons_mk (Below.trod laidOut (by kernel_rfl) (of_decide_eq_true (by kernel_rfl)) k6 bel lt6) trodAll_mk0))))))), rfl, bel.frame _, fun h => by cases h⟩

theorem over : Rows.viewBothRow.holds Try.pinned (OpenSpec.ofChange Rows.viewBothSpec) :=
  OpenClaim.holds_of_wide 4 Try.f4 rfl rfl rfl rfl rfl rfl rfl ⟨rfl, rfl, rfl, rfl, rfl⟩ rfl rfl rfl rfl rfl (by kernel_rfl) Try.func4 (by kernel_rfl)
    (of_decide_eq_true (by kernel_rfl)) (by unfold Func.isWrapper; first | (rw [if_pos (by decide +kernel)]; kernel_rfl) | (rw [if_neg (by decide +kernel)]; exact ⟨rfl, rfl⟩))
    (fun os started H enc _ => lifted os started H enc)
end Go.Proofs.Ytfgmnkbiciaahaa.viewBothRow
namespace Go.Proofs.Ytfgmnkbiciaahaa

theorem viewBoth_holds : Rows.ViewBothSaid := viewBothRow.over
#print axioms viewBoth_holds
end Go.Proofs.Ytfgmnkbiciaahaa

