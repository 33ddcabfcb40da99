/-
  Symbolic runs: an object of the call's own comes to be a plain block ahead of a drawn region; what is behind a place of a slice, be it empty.
-/
import Derived.Test.YteplckkoiffnnaaGreatDoorSyClear
import Derived.Test.YteplckkoiffnnaaGreatDoorSySub
import Derived.Test.YteplckkoiffnnaaGreatDoorSySl
namespace Go.Proofs.YteplckkoiffnnaaGreatDoor
open Go.RowKit
set_option linter.unusedVariables false
set_option linter.unusedSimpArgs false
set_option maxRecDepth 100000
set_option maxHeartbeats 4000000
namespace Sy

theorem RegAt.expose {G : Gl} {id : Nat} {os : Array Oper} {st : St} {K : St → Prop} (n : Nat) (h : Sy.expose G st n False fun _ st' => RegAt G id os st' K) : RegAt G id os st K := .mk fun ρ a w m mm => by
  rcases expose_sound h with h | ⟨t, vs, h, he⟩
  · exact h.elim
  · obtain ⟨b, e1, eb, m', mm'⟩ := he ρ a w m mm
    obtain ⟨q⟩ := h b eb
    exact q ρ a w m' mm'
/-- what is behind a place of a slice, be it empty -/
theorem OpAt.from2 {G : Gl} {o : Oper} {st : St} {K : St → Prop} {t e : TypeId} {x l : Operand} {i : TypeInfo} (b off n c lo : Nat) (k : IntKind) (ho : o.op = .slice t x (some l) none none) (hx : evR st x = .slice (some ⟨b, off, none⟩) n c) (hl : evR st l = .int k (lo : Int)) (hr : allR st o.op.operands.toList = true)
    (hu : G.P.underlying t = some (.slice e)) (hi : G.P.info? e = some i) (h1 : lo ≤ n) (h2 : n ≤ c) (kk : ∀ A, (A = some ⟨b, off + lo * i.size, none⟩ ∨ lo = n) → putK G st o.dst (.v (.slice A (n - lo) (c - lo))) none K) : OpAt G o st K := by
  by_cases h3 : lo < c
  · exact OpAt.from b off n c lo k ho hx hl hr hu hi h1 h3 (kk _ (.inl rfl))
  · refine OpAt.val _ (by rw [ho]; rfl) hr (fun w _ => ?_) (kk (some ⟨b, off, none⟩) (.inr (by omega)))
    have h3 : c = lo := by omega
    have h4 : (lo : Int) ≤ (n : Int) := by omega
    have hsz : (sizeOf e).run G.P w = .ok i.size w := by simp [sizeOf, typeInfo, hi]
    simp [execOp, ho, hx, hl, Instr.sliceAt, Instr.slice, run_underlying hu, Instr.sliceBounds, Instr.sliceBound, asIntOf, h1, hsz, h3, Addr.add]
/-- the rest of a slice that is only read -/
theorem Sl.behind {R : HP} {b off n lo size : Nat} {A : Option Addr} {xs : List Value} (h : Sl R (some ⟨b, off, none⟩) n size xs) (hl : lo ≤ n) (hA : A = some ⟨b, off + lo * size, none⟩ ∨ lo = n) : Sl R A (n - lo) size (xs.drop (lo * size)) := fun w s => by
  obtain ⟨h1, h2⟩ := h w s
  refine ⟨by rw [List.length_drop, h1, Nat.sub_mul], fun hn => ?_⟩
  obtain ⟨ad, e, hb, hc⟩ := h2 (by omega)
  injection e with e
  subst e
  rcases hA with rfl | hA
  · refine ⟨_, rfl, hb, fun j u hu => ?_⟩
    have := hc (lo * size + j) u (by rw [← hu, List.getElem?_drop])
    rw [add_plain] at this ⊢
    rw [← this, Nat.add_assoc]
  · omega
/-- an operation that hands back a value, in a drawn region -/
theorem RunQ.val {G : Gl} {o : Oper} {st : St} {K : SV → Prop} (v : Value) (hsel : notSel o.op = true) (hr : allR st o.op.operands.toList = true) (hrun : ∀ w, Sat (sepL st.h G.R) w → (execOp (evR st) o).run G.P w = .ok (.value v) w) (k : K (.v v)) : RunQ G o st K := .mk v (fun ρ a w m mm => by
  rw [execOp_congr o (fun cs b => notSel_spec hsel cs b) fun x hx => allR_sound m hr x (by simpa using hx)]
  exact hrun w mm.sat) k
/-- the parts that are left, seen in the memory in which the call ends -/
theorem FnR.seen {P : Program} {R : HP} {f : FuncId} {args : List Value} {pre : List HP} {p q : Value → List HP → Prop} (h : FnR P R f args pre p) (hq : ∀ v hs, p v hs → ∀ w, Sat (sepL hs R) w → ∃ hs', q v hs' ∧ Sat (sepL hs' R) w) : FnR P R f args pre q := by
  intro w s
  refine (h w s).mono ?_
  rintro e w' ⟨v, hs, rfl, hv, s', hw⟩
  obtain ⟨hs', h1, h2⟩ := hq v hs hv w' s'
  exact ⟨v, hs', rfl, h1, h2, hw⟩
/-- quiet operations first, then one for which all before it are done and all behind it wait, then groups -/
def qgB (l : List Oper) (b : Nat) (gs : List (List Stp × Nat)) : Bool := Region.noSelect l.toArray && (decide (b < l.length) && (decide (grpLen gs + (b + 1) = l.length) && (Region.sinkB .any l.toArray b && (chainW l.toArray b && (headW l.toArray b (Array.replicate l.toArray.size false) &&
  lexW l.toArray (fun ls' => decide (Region.ready .any l.toArray ls' = [b]) && grpsB l.toArray gs (ls'.setIfInBounds b true)) b 0 (Array.replicate l.toArray.size false))))))
def qgG (G : Gl) (l : List Oper) (b : Nat) (gs : List (List Stp × Nat)) (st : St) (K : St → Prop) : Prop := opsG (opQ G) G l (l.take b) st fun st => match l[b]? with
  | some o => match o.guard with
    | none => op1 G o st fun st => grpsG G l gs st K
    | some _ => False
  | none => False
theorem RegAt.quietGroups {G : Gl} {id : Nat} {l : List Oper} {st : St} {K : St → Prop} (b : Nat) (gs : List (List Stp × Nat)) (hm : G.P.follows .mixedOrders = true) (hB : qgB l b gs = true) (h : qgG G l b gs st K) (hax : axFree G.AX l = true := by rfl) : RegAt G id l.toArray st K := by
  simp only [qgB, Bool.and_eq_true, decide_eq_true_eq] at hB
  obtain ⟨hsel, hbl, hlen, hsink, hchain, hhead, hlex⟩ := hB
  refine .mk fun ρ a w m mm => ?_
  refine wp_region_any hm ?_
  have mm := mm.drew
  have hx : ∀ e a w, PXE G e a w → (fun e a' w' => (e = Exit.normal ∧ ∃ st' ρ', K st' ∧ Tm G st' ρ' a' ∧ Mem G st' ρ' w') ∨ PXE G e a' w') e a w := fun e a w hp => .inr hp
  have good : Good fun st => match l[b]? with
    | some o => match o.guard with
      | none => op1 G o st fun st => grpsG G l gs st K
      | some _ => False
    | none => False := fun st h => by
      split at h
      · split at h
        · exact (op1_sound h (grpsG_good gs)).1
        · exact h.elim
      · exact h.elim
  have hq := (opsQ_sound h good).2 ρ a _ m mm
  have htl : (l.take b).length = b := by rw [List.length_take]; omega
  have key := Firsts.lexW (C := Mem G st ρ) (F := fun ls' => decide (Region.ready .any l.toArray ls' = [b]) && grpsB l.toArray gs (ls'.setIfInBounds b true)) hsel hsink hchain (by simpa using hbl) (fun ls' h => by simp only [Bool.and_eq_true, decide_eq_true_eq] at h; exact h.1)
    (l.take b) 0 _ a (fun j hj => by
      rw [htl] at hj
      simp [hj]) (by rw [htl]; omega) (headW_spec hhead) (by rw [htl]; exact hlex) hq
  have key := Firsts.any (Q := fun e a' w' => (e = Exit.normal ∧ ∃ st' ρ', K st' ∧ Tm G st' ρ' a' ∧ Mem G st' ρ' w') ∨ PXE G e a' w') (g := grpLen gs + 1) (fun ls' a' w' mm' hL => by
    obtain ⟨hF, st', hs, hsame, m'⟩ := hL
    simp only [Bool.and_eq_true, decide_eq_true_eq] at hF
    refine ⟨(fun h1 => by rw [hF.1] at h1; cases h1), fun i hi => ?_⟩
    rw [hF.1] at hi
    have hib : i = b := by simpa using hi
    subst hib
    split at hs
    · rename_i o ho
      split at hs
      · rename_i hg
        have ho' : l.toArray[i]? = some o := by simpa using ho
        unfold wpOp
        simp only [ho']
        rw [if_pos (wanted_none hg _)]
        left
        refine Oper.wp_mono (fun a2 w2 ⟨st2, ρ2, k2, m2, mm2⟩ => ?_) ((op1_sound hs (grpsG_good gs)).2 ρ a' w' _ hx m' (hsame.mem.2 mm'))
        exact grps_sound hx hsel (fun o ho v c a w hq => by rcases hq with ⟨hq, _⟩ | hq; cases hq; exact .inr (hq.put (axFree_spec hax o ho))) (fun st ρ a w k m mm => .inl ⟨rfl, st, ρ, k, m, mm⟩) gs _ st2 ρ2 a2 w2 hF.2 k2 m2 mm2
      · exact hs.elim
    · exact hs.elim) _ _ _ _ mm key
  rw [htl] at key
  rw [show b + (grpLen gs + 1) = l.toArray.size by rw [List.size_toArray]; omega] at key
  exact key
end Sy
end Go.Proofs.YteplckkoiffnnaaGreatDoor
