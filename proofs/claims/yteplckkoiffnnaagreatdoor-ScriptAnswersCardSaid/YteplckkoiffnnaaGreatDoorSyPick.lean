/-
  Symbolic runs: a round's end where other objects bear the names of the round's start.
-/
import Derived.Test.YteplckkoiffnnaaGreatDoorSyTree
namespace Go.Proofs.YteplckkoiffnnaaGreatDoor
open Go.RowKit
namespace Sy
set_option linter.unusedVariables false
set_option linter.unusedSimpArgs false

def renV (is : List Nat) : SV → Option SV
  | .p m off => match is[m]? with
    | some j => some (.p j off)
    | none => none
  | x => some x
def renL (is : List Nat) : List SV → Option (List SV)
  | [] => some []
  | x :: l => match renV is x with
    | some y => match renL is l with
      | some r => some (y :: r)
      | none => none
    | none => none
def pickT (is : List Nat) (src : List (Nat × SV)) : List (Nat × SV) → Prop
  | [] => True
  | (t, x) :: r => (∃ y, renV is x = some y ∧ getT src t = some y) ∧ pickT is src r
def pickO (is : List Nat) (src : List (Nat × TypeId × List SV)) : List (Nat × TypeId × List SV) → Prop
  | [] => True
  | (k, x) :: r => (∃ j l, is[k]? = some j ∧ renL is x.2 = some l ∧ getO src j = some (x.1, l)) ∧ pickO is src r
def nodupB : List Nat → Bool
  | [] => true
  | x :: l => !l.contains x && nodupB l
theorem nodupB_spec : ∀ {l : List Nat}, nodupB l = true → l.Nodup
  | [], _ => by simp
  | x :: l, h => by
    simp only [nodupB, Bool.and_eq_true, Bool.not_eq_true'] at h
    rw [List.nodup_cons]
    refine ⟨fun c => ?_, nodupB_spec h.2⟩
    have : l.contains x = true := by simpa using c
    rw [this] at h
    cases h.1
theorem pickT_get {is : List Nat} {src : List (Nat × SV)} : ∀ {l : List (Nat × SV)} {t : Nat} {x : SV}, pickT is src l → getT l t = some x → ∃ y, renV is x = some y ∧ getT src t = some y
  | [], t, x, _, h => by cases h
  | (k, y) :: l, t, x, hl, h => by
    simp only [getT] at h
    split at h
    · rename_i e
      have := beq_of e
      subst this
      injection h with h
      subst h
      exact hl.1
    · exact pickT_get hl.2 h
theorem pickO_mem {is : List Nat} {src : List (Nat × TypeId × List SV)} : ∀ {l : List (Nat × TypeId × List SV)} {x : Nat × TypeId × List SV}, pickO is src l → x ∈ l → ∃ j r, is[x.1]? = some j ∧ renL is x.2.2 = some r ∧ getO src j = some (x.2.1, r)
  | [], x, _, h => by cases h
  | (k, y) :: l, x, hl, h => by
    rcases List.mem_cons.1 h with rfl | h
    · exact hl.1
    · exact pickO_mem hl.2 h
/-- the named blocks anew -/
def pickR (is ρ : List Nat) : List Nat := is.map fun j => ρ.getD j 0
theorem pickR_at {is ρ : List Nat} {k j : Nat} (h : is[k]? = some j) (hj : j < ρ.length) : (pickR is ρ)[k]? = ρ[j]? := by
  unfold pickR
  rw [List.getElem?_map, h, List.getElem?_eq_getElem hj]
  simp [List.getD_eq_getElem?_getD, List.getElem?_eq_getElem hj]
theorem den_pick {is ρ : List Nat} (hlt : ∀ j ∈ is, j < ρ.length) {x y : SV} (h : renV is x = some y) : x.den (pickR is ρ) = y.den ρ := by
  cases x with
  | v x => simp only [renV, Option.some.injEq] at h; subst h; rfl
  | k b => simp only [renV, Option.some.injEq] at h; subst h; rfl
  | p m off =>
    simp only [renV] at h
    cases hj : is[m]? with
    | none => rw [hj] at h; cases h
    | some j =>
      rw [hj] at h
      simp only [Option.some.injEq] at h
      subst h
      simp only [SV.den]
      rw [pickR_at hj (hlt j (List.mem_of_getElem? hj))]
theorem denL_pick {is ρ : List Nat} (hlt : ∀ j ∈ is, j < ρ.length) : ∀ {l r : List SV}, renL is l = some r → denL (pickR is ρ) l = denL ρ r
  | [], r, h => by simp only [renL, Option.some.injEq] at h; subst h; rfl
  | x :: l, r, h => by
    unfold renL at h
    split at h
    · rename_i y hy
      split at h
      · rename_i r' hr
        injection h with h
        subst h
        have h1 := den_pick hlt hy
        have h2 := denL_pick hlt hr
        unfold denL at *
        rw [List.mapM_cons, List.mapM_cons, h1, h2]
      · cases h
    · cases h
theorem Le.pick {G : Gl} {st st' : St} (is : List Nat) (hn : is.length = st'.n) (hlt : is.all (fun j => Nat.blt j st.n) = true) (hnd : nodupB is = true) (hB : is.take G.B.length = List.range G.B.length) (ht : pickT is st.t st'.t) (ho : pickO is st.o st'.o) (hno : nodupB (st'.o.map (·.1)) = true)
    (hh : ∀ h, sepL st.h G.R h → ∃ h', (∀ i o, h' i = some o → h i = some o) ∧ sepL st'.h G.R h') : Le G st st' := by
  intro ρ a w m mm
  obtain ⟨m1, m2, m3, m4, m5, m6, mk, h, m7, m8, m9⟩ := mm
  obtain ⟨h', hs, hp⟩ := hh h m8
  have hl : ∀ j ∈ is, j < ρ.length := fun j hj => by
    have := List.all_eq_true.1 hlt j hj
    rw [m2]
    exact Nat.le_of_ble_eq_true this
  have hnd' := nodupB_spec hnd
  refine ⟨pickR is ρ, ⟨m.size, m.defs, fun t x e => ?_⟩, ⟨m1, ?_, ?_, fun b hb => ?_, nodupB_spec hno, fun x hx => ?_, ?_, h', m7.mono hs, hp, fun x hx b e => ?_⟩⟩
  · obtain ⟨y, e1, e2⟩ := pickT_get ht e
    rw [den_pick hl e1]
    exact m.get t y e2
  · rw [← hn]; simp [pickR]
  · refine List.pairwise_iff_getElem.2 fun i j hil hjl hij e => ?_
    have hjl' : j < is.length := by simpa [pickR] using hjl
    have hi : i < is.length := by omega
    have e : (pickR is ρ)[i]? = (pickR is ρ)[j]? := by rw [List.getElem?_eq_getElem hil, List.getElem?_eq_getElem hjl, e]
    have a1 := pickR_at (ρ := ρ) (List.getElem?_eq_getElem hi) (hl _ (List.getElem_mem hi))
    have a2 := pickR_at (ρ := ρ) (List.getElem?_eq_getElem hjl') (hl _ (List.getElem_mem hjl'))
    rw [a1, a2] at e
    have b1 := hl _ (List.getElem_mem hi)
    have b2 := hl _ (List.getElem_mem hjl')
    rw [List.getElem?_eq_getElem b1, List.getElem?_eq_getElem b2] at e
    injection e with e
    have := (List.getElem_inj m3).1 e
    have := (List.getElem_inj hnd').1 this
    omega
  · obtain ⟨k, hk, e⟩ := List.mem_iff_getElem.1 hb
    have hk' : k < is.length := by simpa [pickR] using hk
    have a1 := pickR_at (ρ := ρ) (List.getElem?_eq_getElem hk') (hl _ (List.getElem_mem hk'))
    rw [List.getElem?_eq_getElem hk, List.getElem?_eq_getElem (hl _ (List.getElem_mem hk'))] at a1
    injection a1 with a1
    rw [← e, a1]
    exact m4 _ (List.getElem_mem _)
  · obtain ⟨j, r, e1, e2, e3⟩ := pickO_mem ho hx
    obtain ⟨b, cs, f1, f2, f3⟩ := m6 _ (getO_mem e3)
    exact ⟨b, cs, by rw [pickR_at e1 (hl j (List.mem_of_getElem? e1))]; exact f1, by rw [denL_pick hl e2]; exact f2, f3⟩
  · obtain ⟨q, rfl⟩ := mk
    refine ⟨pickR (is.drop G.B.length) (G.B ++ q), ?_⟩
    have : pickR is (G.B ++ q) = pickR (is.take G.B.length) (G.B ++ q) ++ pickR (is.drop G.B.length) (G.B ++ q) := by unfold pickR; rw [← List.map_append, List.take_append_drop]
    rw [this, hB]
    congr 1
    apply List.ext_getElem?
    intro i
    by_cases c : i < G.B.length
    · rw [pickR_at (by rw [List.getElem?_range c]) (by simp; omega), List.getElem?_append_left c]
    · rw [List.getElem?_eq_none (by simp [pickR]; omega), List.getElem?_eq_none (by omega)]
  · obtain ⟨j, r, e1, e2, e3⟩ := pickO_mem ho hx
    rw [pickR_at e1 (hl j (List.mem_of_getElem? e1))] at e
    have := m9 _ (getO_mem e3) b e
    cases e' : h' b with
    | none => rfl
    | some o => rw [hs b o e'] at this; cases this
/-- .. and all orders come to one state -/
theorem RegAt.joins {G : Gl} {id : Nat} {l : List Oper} {st : St} {K : St → Prop} (gs : List (Tr × Nat)) (Kp : List Nat) (S : List (Nat × SV)) (O : List (Nat × TypeId × List SV)) (nn : Nat) (H : List HP) (hm : G.P.follows .mixedOrders = true) (hB : treesOk l gs = true)
    (h : treesG G l gs st fun st' => Le G st' ⟨S ++ keepT st.t Kp, O, nn, H, True⟩) (k : forceL (S ++ keepT st.t Kp) fun t => K ⟨t, O, nn, H, True⟩) (hax : axFree G.AX l = true := by rfl) : RegAt G id l.toArray st K := by
  obtain ⟨h⟩ := RegAt.trees (id := id) gs hm hB h hax
  refine .mk fun ρ a w m mm => ?_
  refine wp_mono (h ρ a w m mm) ?_
  rintro e a' w' (⟨rfl, st', ρ', hle, m', mm'⟩ | hp)
  · obtain ⟨ρ2, m2, mm2⟩ := hle ρ' a' w' m' mm'
    exact .inl ⟨rfl, _, ρ2, forceL_eq k, m2, mm2⟩
  · exact .inr hp
def asK0 (st : St) (K : St → St → Prop) : Prop := match st with
  | ⟨t, o, n, h, c⟩ => K ⟨t, o, n, [], c⟩ ⟨t, o, n, h, c⟩
theorem asK0_eq (st : St) (K : St → St → Prop) : asK0 st K = K { st with h := [] } st := by cases st; rfl
/-- groups that keep the objects, and what is only read -/
def treesG0 (G : Gl) (all : List Oper) : List (Tr × Nat) → St → (St → Prop) → Prop
  | [], st, K => stp st K
  | (g, _) :: r, st, K => asK0 st fun st0 st => treeG G all g.hasT st0 g st fun st => treesG0 G all r st K
theorem treesG0_good {G : Gl} {all : List Oper} {K : St → Prop} : ∀ gs : List (Tr × Nat), Good fun st => treesG0 G all gs st K
  | [] => good_stp
  | (g, n) :: r => fun st h => by
    have h : asK0 st fun st0 st => treeG G all g.hasT st0 g st fun st => treesG0 G all r st K := h
    rw [asK0_eq] at h
    exact treeG_good (treesG0_good r) g _ h
theorem trees0_sound {G : Gl} {all : List Oper} {Q : Exit → Act → World → Prop} {K : St → Prop} (hx : ∀ e a w, PXE G e a w → Q e a w) (hsel : Region.noSelect all.toArray = true) (hQ : ∀ o ∈ all, ∀ v c a w, Q (.panic c) (Act.put a o.dst v) w → Q (.panic c) a w) (hend : ∀ st ρ a w, K st → Tm G st ρ a → Mem G st ρ w → Q .normal a w) :
    ∀ (gs : List (Tr × Nat)) (ls : Array Bool) (st : St) (ρ : List Nat) (a : Act) (w : World), treesB all.toArray gs ls = true → treesG0 G all gs st K → Tm G st ρ a → Mem G st ρ w → wpAny G.P .any all.toArray Q (treeLen gs) ls a w
  | [], ls, st, ρ, a, w, hB, h, m, mm => by
    simp only [treesB, decide_eq_true_eq] at hB
    exact ⟨hB, hend { st with c := True } ρ a w (stp_iff.1 h).2 (m.same rfl) (mm.same rfl rfl rfl)⟩
  | (g, n) :: r, ls, st, ρ, a, w, hB, h, m, mm => by
    simp only [treesB, Bool.and_eq_true, Bool.or_eq_true, decide_eq_true_eq] at hB
    obtain ⟨hw, hh, hs⟩ := hB
    have h : asK0 st fun st0 st => treeG G all g.hasT st0 g st fun st => treesG0 G all r st K := h
    rw [asK0_eq] at h
    have key := tree_sound (F := fun ls' => treesB all.toArray r ls') (kp := g.hasT) (st0 := { st with h := [] }) (ρ0 := ρ) hx hsel hQ hw (treesG0_good r) g ls st ρ a w (headW_spec hh) hs h m mm fun _ => ⟨⟨[], by simp⟩, mem_nil mm⟩
    exact HdG.any (g := treeLen r) (fun ls' a' w' ⟨⟨hF, _⟩, st', ρ', k, m', mm'⟩ => trees0_sound hx hsel hQ hend r ls' st' ρ' a' w' hF k m' mm') _ _ _ _ key
theorem RegAt.trees0 {G : Gl} {id : Nat} {l : List Oper} {st : St} {K : St → Prop} (gs : List (Tr × Nat)) (hm : G.P.follows .mixedOrders = true) (hB : treesOk l gs = true) (h : treesG0 G l gs st K) (hax : axFree G.AX l = true := by rfl) : RegAt G id l.toArray st K := by
  simp only [treesOk, Bool.and_eq_true, decide_eq_true_eq] at hB
  obtain ⟨h1, h2, h3⟩ := hB
  refine .mk fun ρ a w m mm => ?_
  refine wp_region_any hm ?_
  have key := trees0_sound (Q := fun e a' w' => (e = .normal ∧ ∃ st' ρ', K st' ∧ Tm G st' ρ' a' ∧ Mem G st' ρ' w') ∨ PXE G e a' w') (fun e a w hp => .inr hp) h1 (fun o ho v c a w hq => by rcases hq with ⟨hq, _⟩ | hq; cases hq; exact .inr (hq.put (axFree_spec hax o ho))) (fun st ρ a w k m mm => .inl ⟨rfl, st, ρ, k, m, mm⟩) gs _ st ρ a _ h3 h m mm.drew
  rw [h2] at key
  simpa using key
theorem RegAt.joins0 {G : Gl} {id : Nat} {l : List Oper} {st : St} {K : St → Prop} (gs : List (Tr × Nat)) (Kp : List Nat) (S : List (Nat × SV)) (O : List (Nat × TypeId × List SV)) (nn : Nat) (H : List HP) (hm : G.P.follows .mixedOrders = true) (hB : treesOk l gs = true)
    (h : treesG0 G l gs st fun st' => Le G st' ⟨S ++ keepT st.t Kp, O, nn, H, True⟩) (k : forceL (S ++ keepT st.t Kp) fun t => K ⟨t, O, nn, H, True⟩) (hax : axFree G.AX l = true := by rfl) : RegAt G id l.toArray st K := by
  obtain ⟨h⟩ := RegAt.trees0 (id := id) gs hm hB h hax
  refine .mk fun ρ a w m mm => ?_
  refine wp_mono (h ρ a w m mm) ?_
  rintro e a' w' (⟨rfl, st', ρ', hle, m', mm'⟩ | hp)
  · obtain ⟨ρ2, m2, mm2⟩ := hle ρ' a' w' m' mm'
    exact .inl ⟨rfl, _, ρ2, forceL_eq k, m2, mm2⟩
  · exact .inr hp
end Sy
end Go.Proofs.YteplckkoiffnnaaGreatDoor
