/-
  Texts of the proofs, one behind the other: SyClear, SyMore.
-/
import Derived.Test.YtojlgfkjnkjcmaaGreatDoorPartZ
import Derived.Lib.SliceRun
import Derived.Test.YtojlgfkjnkjcmaaGreatDoorPartB
/-
  A row's tail cleared.
-/
namespace Go.Proofs.YtojlgfkjnkjcmaaGreatDoor
open Go.RowKit
namespace Sy
set_option linter.unusedVariables false
set_option linter.unusedSimpArgs false
set_option maxRecDepth 100000
set_option maxHeartbeats 4000000

/-- some cells of a part of the heap written by an operation that hands back u -/
theorem OpAt.write {G : Gl} {o : Oper} {st : St} {K : St → Prop} {A A' : HP} (b off : Nat) (ys : List Value) (u : Value) (rest : List HP) (hsel : notSel o.op = true) (hp : ∀ h, sepL st.h G.R h → sepL (A :: rest) G.R h) (hr : allR st o.op.operands.toList = true) (h1 : ∀ u ∈ ys, u.oneCell' = true)
    (hrun : ∀ w w', (storeCells ⟨b, off, none⟩ ys).run G.P w = .ok () w' → (execOp (evR st) o).run G.P w = .ok (.value u) w')
    (hA : ∀ h, A h → ∃ ty cs, h b = some (.cells cs ty (0, 0)) ∧ off + ys.length ≤ cs.size ∧ A' fun j => if j = b then some (.cells (putL cs.toList off ys).toArray ty (0, 0)) else h j)
    (k : putK G { st with h := A' :: rest } o.dst (.v u) none K) : OpAt G o st K := by
  refine .mk fun ρ a w m mm => ?_
  obtain ⟨h, s1, s2, d0, s3⟩ := mem_split mm
  obtain ⟨g1, g2, d, rfl, a1, a2⟩ := hp h s2
  obtain ⟨ty, cs, hb, hoff, hA'⟩ := hA g1 a1
  have hc : execOp a.eval o = execOp (evR st) o := execOp_congr o (fun cs b => notSel_spec hsel cs b) fun x hx => allR_sound m hr x (by simpa using hx)
  have hwb : w.heap[b]? = some (.cells cs ty (0, 0)) := s1.left b _ hb
  have hg2 : g2 b = none := by
    rcases d b with e | e
    · rw [hb] at e; cases e
    · exact e
  have hob : obj st ρ w b = none := by
    rcases d0 b with e | e
    · exact e
    · unfold un at e; rw [hb] at e; cases e
  have hst := run_storeCells_at (P := G.P) b off ty ys 0 cs w hwb (by omega) h1
  simp only [Nat.add_zero] at hst
  have hrun' : (execOp (evR st) o).run G.P w = .ok (.value u) (w.setRow b (putL cs.toList off ys).toArray) := hrun w _ (by simpa [putL] using hst)
  generalize hW : w.setRow b (putL cs.toList off ys).toArray = w' at hrun'
  have hh : w'.heap[b]? = some (.cells (putL cs.toList off ys).toArray ty (0, 0)) := by rw [← hW]; exact setRow_heap w b cs _ ty (0, 0) hwb
  have hne : ∀ j, j ≠ b → w'.heap[j]? = w.heap[j]? := fun j hj => by
    rw [← hW]
    simp only [World.setRow, Array.getElem?_modify]
    rw [if_neg (fun e => hj e.symm)]
  have hwd : Wd w w' := by
    rw [← hW]
    exact ⟨rfl, rfl, rfl, by simp [World.setRow]⟩
  have old : ∀ {g : Hl}, g b = none → Sub g w → Sub g w' := fun {g} hgb s j ob e => by
    have : j ≠ b := fun c => by subst c; rw [hgb] at e; cases e
    rw [hne j this]; exact s j ob e
  generalize hq : (fun j => if j = b then some (Obj.cells (putL cs.toList off ys).toArray ty (0, 0)) else g1 j) = g1' at hA'
  have dom : ∀ j, g1' j = none ↔ g1 j = none := fun j => by
    rw [← hq]
    simp only
    by_cases c : j = b
    · subst c; simp [hb]
    · simp [c]
  have sub1 : Sub g1' w' := fun j ob e => by
    rw [← hq] at e
    simp only at e
    by_cases c : j = b
    · subst c; rw [if_pos rfl] at e; rw [← e]; exact hh
    · rw [if_neg c] at e; rw [hne j c]; exact s1.left j ob e
  have mm' : Mem G { st with h := A' :: rest } ρ w' := by
    refine mem_join (g := un (obj st ρ w) (un g1' g2)) mm hwd ((old hob s3).un (sub1.un (old hg2 (s1.right d)))) ⟨un g1' g2, fun j => ?_, rfl, g1', g2, fun j => ?_, rfl, hA', a2⟩
    · rcases d0 j with e | e
      · exact .inl e
      · exact .inr (un_none.2 ⟨(dom j).2 (un_none.1 e).1, (un_none.1 e).2⟩)
    · rcases d j with e | e
      · exact .inl ((dom j).2 e)
      · exact .inr e
  obtain ⟨st', k', m', mm2⟩ := putK_go k (ρ := ρ) (v := u) rfl (m.same rfl) mm'
  unfold Oper.wp
  rw [hc, hrun']
  exact ⟨st', ρ, k', m', mm2, Ext.refl _⟩
/-- the tail of a row cleared -/
theorem OpAt.clear {G : Gl} {o : Oper} {st : St} {K : St → Prop} {t e : TypeId} {x : Operand} {i : TypeInfo} {z : Value} {A A' : HP} (b off n c : Nat) (rest : List HP) (ho : o.op = .call { callee := .builtin .clear, args := #[x], argTypes := #[t] }) (hp : ∀ h, sepL st.h G.R h → sepL (A :: rest) G.R h) (hx : evR st x = .slice (some ⟨b, off, none⟩) n c) (hn : 0 < n)
    (hr : allR st o.op.operands.toList = true) (hu : G.P.underlying t = some (.slice e)) (hi : G.P.info? e = some i) (hz : i.zero = some z) (h1 : ∀ u ∈ (Builtin.zeroCells z.cells n).toList, u.oneCell' = true)
    (hA : ∀ h, A h → ∃ ty cs, h b = some (.cells cs ty (0, 0)) ∧ off + (Builtin.zeroCells z.cells n).toList.length ≤ cs.size ∧ A' fun j => if j = b then some (.cells (putL cs.toList off (Builtin.zeroCells z.cells n).toList).toArray ty (0, 0)) else h j)
    (k : putK G { st with h := A' :: rest } o.dst (.v (.tuple #[])) none K) : OpAt G o st K := by
  refine OpAt.write b off _ (.tuple #[]) rest (by rw [ho]; rfl) hp hr h1 (fun w w' hs => ?_) hA k
  have hn' : n ≠ 0 := by omega
  simp [execOp, ho, resolve, invoke, builtin, hx, Builtin.clear_, underlying, zeroValue, typeInfo, hu, hi, hz, hn', hs]
/-- what is behind a place of a slice -/
theorem OpAt.from {G : Gl} {o : Oper} {st : St} {K : St → Prop} {t e : TypeId} {x l : Operand} {i : TypeInfo} (b off n c lo : Nat) (k : IntKind) (ho : o.op = .slice t x (some l) none none) (hx : evR st x = .slice (some ⟨b, off, none⟩) n c) (hl : evR st l = .int k (lo : Int)) (hr : allR st o.op.operands.toList = true)
    (hu : G.P.underlying t = some (.slice e)) (hi : G.P.info? e = some i) (h1 : lo ≤ n) (h2 : lo < c) (kk : putK G st o.dst (.v (.slice (some ⟨b, off + lo * i.size, none⟩) (n - lo) (c - lo))) none K) : OpAt G o st K := by
  refine OpAt.val _ (by rw [ho]; rfl) hr (fun w _ => ?_) kk
  have h3 : ¬ c = lo := by omega
  have h4 : (lo : Int) ≤ (n : Int) := by omega
  have hsz : (sizeOf e).run G.P w = .ok i.size w := by simp [sizeOf, typeInfo, hi]
  simp [execOp, ho, hx, hl, Instr.sliceAt, Instr.slice, run_underlying hu, Instr.sliceBounds, Instr.sliceBound, asIntOf, h1, hsz, h3, Addr.add]
/-- the front of a row -/
theorem row_cut {g n m cap size : Nat} {e : TypeId} {xs : List Value} (h : m ≤ n) {hl : Hl} (r : rowH (.slice (some ⟨g, 0, none⟩) n cap) n e size xs hl) : rowH (.slice (some ⟨g, 0, none⟩) m cap) m e size (xs.take (m * size)) hl := by
  obtain ⟨hx, r⟩ := r
  rcases r with ⟨c, _⟩ | ⟨g', cap', cur, h1, h2, h3, h4, h5, h6⟩
  · cases c
  injection h1 with e1 e2 e3
  injection e1 with e1
  injection e1 with e1
  subst e1 e3
  have hm : m * size ≤ n * size := Nat.mul_le_mul_right _ h
  refine ⟨by rw [List.length_take]; omega, .inr ⟨g, cap, cur, rfl, h2, by omega, h4, h5, ?_⟩⟩
  rw [← h6, List.take_take, Nat.min_eq_left hm]
end Sy
end Go.Proofs.YtojlgfkjnkjcmaaGreatDoor

/-
  Symbolic runs: an object of the call's own comes to be a plain block ahead of a drawn region; what is behind a place of a slice, be it empty.
-/
namespace Go.Proofs.YtojlgfkjnkjcmaaGreatDoor
open Go.RowKit
set_option linter.unusedVariables false
set_option linter.unusedSimpArgs false
set_option maxRecDepth 100000
set_option maxHeartbeats 4000000
namespace Sy

theorem RegAt.expose {G : Gl} {id : Nat} {os : Array Oper} {st : St} {K : St → Prop} (n : Nat) (h : Sy.expose G st n False fun _ st' => RegAt G id os st' K) : RegAt G id os st K := .mk fun ρ a w m mm => by
  rcases expose_sound h with h | ⟨t, vs, h, he⟩
  · exact h.elim
  · obtain ⟨b, e1, eb, m', mm'⟩ := he ρ a w m mm
    obtain ⟨q⟩ := h b eb
    exact q ρ a w m' mm'
/-- what is behind a place of a slice, be it empty -/
theorem OpAt.from2 {G : Gl} {o : Oper} {st : St} {K : St → Prop} {t e : TypeId} {x l : Operand} {i : TypeInfo} (b off n c lo : Nat) (k : IntKind) (ho : o.op = .slice t x (some l) none none) (hx : evR st x = .slice (some ⟨b, off, none⟩) n c) (hl : evR st l = .int k (lo : Int)) (hr : allR st o.op.operands.toList = true)
    (hu : G.P.underlying t = some (.slice e)) (hi : G.P.info? e = some i) (h1 : lo ≤ n) (h2 : n ≤ c) (kk : ∀ A, (A = some ⟨b, off + lo * i.size, none⟩ ∨ lo = n) → putK G st o.dst (.v (.slice A (n - lo) (c - lo))) none K) : OpAt G o st K := by
  by_cases h3 : lo < c
  · exact OpAt.from b off n c lo k ho hx hl hr hu hi h1 h3 (kk _ (.inl rfl))
  · refine OpAt.val _ (by rw [ho]; rfl) hr (fun w _ => ?_) (kk (some ⟨b, off, none⟩) (.inr (by omega)))
    have h3 : c = lo := by omega
    have h4 : (lo : Int) ≤ (n : Int) := by omega
    have hsz : (sizeOf e).run G.P w = .ok i.size w := by simp [sizeOf, typeInfo, hi]
    simp [execOp, ho, hx, hl, Instr.sliceAt, Instr.slice, run_underlying hu, Instr.sliceBounds, Instr.sliceBound, asIntOf, h1, hsz, h3, Addr.add]
/-- the rest of a slice that is only read -/
theorem Sl.behind {R : HP} {b off n lo size : Nat} {A : Option Addr} {xs : List Value} (h : Sl R (some ⟨b, off, none⟩) n size xs) (hl : lo ≤ n) (hA : A = some ⟨b, off + lo * size, none⟩ ∨ lo = n) : Sl R A (n - lo) size (xs.drop (lo * size)) := fun w s => by
  obtain ⟨h1, h2⟩ := h w s
  refine ⟨by rw [List.length_drop, h1, Nat.sub_mul], fun hn => ?_⟩
  obtain ⟨ad, e, hb, hc⟩ := h2 (by omega)
  injection e with e
  subst e
  rcases hA with rfl | hA
  · refine ⟨_, rfl, hb, fun j u hu => ?_⟩
    have := hc (lo * size + j) u (by rw [← hu, List.getElem?_drop])
    rw [add_plain] at this ⊢
    rw [← this, Nat.add_assoc]
  · omega
/-- an operation that hands back a value, in a drawn region -/
theorem RunQ.val {G : Gl} {o : Oper} {st : St} {K : SV → Prop} (v : Value) (hsel : notSel o.op = true) (hr : allR st o.op.operands.toList = true) (hrun : ∀ w, Sat (sepL st.h G.R) w → (execOp (evR st) o).run G.P w = .ok (.value v) w) (k : K (.v v)) : RunQ G o st K := .mk v (fun ρ a w m mm => by
  rw [execOp_congr o (fun cs b => notSel_spec hsel cs b) fun x hx => allR_sound m hr x (by simpa using hx)]
  exact hrun w mm.sat) k
/-- the parts that are left, seen in the memory in which the call ends -/
theorem FnR.seen {P : Program} {R : HP} {f : FuncId} {args : List Value} {pre : List HP} {p q : Value → List HP → Prop} (h : FnR P R f args pre p) (hq : ∀ v hs, p v hs → ∀ w, Sat (sepL hs R) w → ∃ hs', q v hs' ∧ Sat (sepL hs' R) w) : FnR P R f args pre q := by
  intro w s
  refine (h w s).mono ?_
  rintro e w' ⟨v, hs, rfl, hv, s', hw⟩
  obtain ⟨hs', h1, h2⟩ := hq v hs hv w' s'
  exact ⟨v, hs', rfl, h1, h2, hw⟩
/-- quiet operations first, then one for which all before it are done and all behind it wait, then groups -/
def qgB (l : List Oper) (b : Nat) (gs : List (List Stp × Nat)) : Bool := Region.noSelect l.toArray && (decide (b < l.length) && (decide (grpLen gs + (b + 1) = l.length) && (Region.sinkB .any l.toArray b && (chainW l.toArray b && (headW l.toArray b (Array.replicate l.toArray.size false) &&
  lexW l.toArray (fun ls' => decide (Region.ready .any l.toArray ls' = [b]) && grpsB l.toArray gs (ls'.setIfInBounds b true)) b 0 (Array.replicate l.toArray.size false))))))
def qgG (G : Gl) (l : List Oper) (b : Nat) (gs : List (List Stp × Nat)) (st : St) (K : St → Prop) : Prop := opsG (opQ G) G l (l.take b) st fun st => match l[b]? with
  | some o => match o.guard with
    | none => op1 G o st fun st => grpsG G l gs st K
    | some _ => False
  | none => False
theorem RegAt.quietGroups {G : Gl} {id : Nat} {l : List Oper} {st : St} {K : St → Prop} (b : Nat) (gs : List (List Stp × Nat)) (hm : G.P.follows .mixedOrders = true) (hB : qgB l b gs = true) (h : qgG G l b gs st K) (hax : axFree G.AX l = true := by rfl) : RegAt G id l.toArray st K := by
  simp only [qgB, Bool.and_eq_true, decide_eq_true_eq] at hB
  obtain ⟨hsel, hbl, hlen, hsink, hchain, hhead, hlex⟩ := hB
  refine .mk fun ρ a w m mm => ?_
  refine wp_region_any hm ?_
  have mm := mm.drew
  have hx : ∀ e a w, PXE G e a w → (fun e a' w' => (e = Exit.normal ∧ ∃ st' ρ', K st' ∧ Tm G st' ρ' a' ∧ Mem G st' ρ' w') ∨ PXE G e a' w') e a w := fun e a w hp => .inr hp
  have good : Good fun st => match l[b]? with
    | some o => match o.guard with
      | none => op1 G o st fun st => grpsG G l gs st K
      | some _ => False
    | none => False := fun st h => by
      split at h
      · split at h
        · exact (op1_sound h (grpsG_good gs)).1
        · exact h.elim
      · exact h.elim
  have hq := (opsQ_sound h good).2 ρ a _ m mm
  have htl : (l.take b).length = b := by rw [List.length_take]; omega
  have key := Firsts.lexW (C := Mem G st ρ) (F := fun ls' => decide (Region.ready .any l.toArray ls' = [b]) && grpsB l.toArray gs (ls'.setIfInBounds b true)) hsel hsink hchain (by simpa using hbl) (fun ls' h => by simp only [Bool.and_eq_true, decide_eq_true_eq] at h; exact h.1)
    (l.take b) 0 _ a (fun j hj => by
      rw [htl] at hj
      simp [hj]) (by rw [htl]; omega) (headW_spec hhead) (by rw [htl]; exact hlex) hq
  have key := Firsts.any (Q := fun e a' w' => (e = Exit.normal ∧ ∃ st' ρ', K st' ∧ Tm G st' ρ' a' ∧ Mem G st' ρ' w') ∨ PXE G e a' w') (g := grpLen gs + 1) (fun ls' a' w' mm' hL => by
    obtain ⟨hF, st', hs, hsame, m'⟩ := hL
    simp only [Bool.and_eq_true, decide_eq_true_eq] at hF
    refine ⟨(fun h1 => by rw [hF.1] at h1; cases h1), fun i hi => ?_⟩
    rw [hF.1] at hi
    have hib : i = b := by simpa using hi
    subst hib
    split at hs
    · rename_i o ho
      split at hs
      · rename_i hg
        have ho' : l.toArray[i]? = some o := by simpa using ho
        unfold wpOp
        simp only [ho']
        rw [if_pos (wanted_none hg _)]
        left
        refine Oper.wp_mono (fun a2 w2 ⟨st2, ρ2, k2, m2, mm2⟩ => ?_) ((op1_sound hs (grpsG_good gs)).2 ρ a' w' _ hx m' (hsame.mem.2 mm'))
        exact grps_sound hx hsel (fun o ho v c a w hq => by rcases hq with ⟨hq, _⟩ | hq; cases hq; exact .inr (hq.put (axFree_spec hax o ho))) (fun st ρ a w k m mm => .inl ⟨rfl, st, ρ, k, m, mm⟩) gs _ st2 ρ2 a2 w2 hF.2 k2 m2 mm2
      · exact hs.elim
    · exact hs.elim) _ _ _ _ mm key
  rw [htl] at key
  rw [show b + (grpLen gs + 1) = l.toArray.size by rw [List.size_toArray]; omega] at key
  exact key
end Sy
end Go.Proofs.YtojlgfkjnkjcmaaGreatDoor

