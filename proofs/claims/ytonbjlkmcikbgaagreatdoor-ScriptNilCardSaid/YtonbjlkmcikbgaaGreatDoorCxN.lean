/-
  Closed runs: regions, code, calls: sound.
-/
import Derived.Test.YtonbjlkmcikbgaaGreatDoorCxM
namespace Go.Proofs.YtonbjlkmcikbgaaGreatDoor
open Go.RowKit
namespace Cx
set_option linter.unusedVariables false
set_option linter.unusedSimpArgs false

theorem floatsFrom_mem {ms : List Nat} {m i : Nat} : ∀ {l : List Oper} {p k : Nat} {o : Oper}, l[k]? = some o → isH o = true → Nat.testBit m (p + k) = false → (∀ q : Nat, ms[p + k]? = some q → Nat.testBit q i = false) → (i, p + k) ∈ floatsFrom ms m i p l
  | [], p, k, o, h, _, _, _ => by simp at h
  | x :: l, p, 0, o, h, hH, hb, hq => by
    simp at h
    subst h
    unfold floatsFrom
    rw [hH]
    simp only [Nat.add_zero] at hb hq ⊢
    rw [hb]
    cases hm : ms[p]? with
    | none => simp
    | some q => simp [hq q hm]
  | x :: l, p, k + 1, o, h, hH, hb, hq => by
    have ih := floatsFrom_mem (ms := ms) (m := m) (i := i) (l := l) (p := p + 1) (k := k) (o := o) (by simpa using h) hH (by rwa [show p + 1 + k = p + (k + 1) by omega]) (by rwa [show p + 1 + k = p + (k + 1) by omega])
    rw [show p + 1 + k = p + (k + 1) by omega] at ih
    unfold floatsFrom
    split
    · exact ih
    · split
      · exact ih
      · exact List.mem_cons_of_mem _ ih
theorem floats_mem {all : List Oper} {ms : List Nat} {m p : Nat} {op : Oper} (hp : all[p]? = some op) (hH : isH op = true) : ∀ {l : List Oper} {i k : Nat} {o : Oper}, l[k]? = some o → isL o = true → ms[i + k]? = some m → Nat.testBit m p = false → (∀ q : Nat, ms[p]? = some q → Nat.testBit q (i + k) = false) → (i + k, p) ∈ floats all ms i l
  | [], i, k, o, h, _, _, _, _ => by simp at h
  | x :: l, i, 0, o, h, hL, hm, hb, hq => by
    simp at h
    subst h
    unfold floats
    rw [hL]
    simp only [Nat.add_zero] at hm hq ⊢
    rw [hm]
    refine List.mem_append.2 (.inl ?_)
    have := floatsFrom_mem (ms := ms) (m := m) (i := i) (l := all) (p := 0) (k := p) hp hH (by rwa [Nat.zero_add]) (by rwa [Nat.zero_add])
    rwa [Nat.zero_add] at this
  | x :: l, i, k + 1, o, h, hL, hm, hb, hq => by
    have ih := floats_mem hp hH (l := l) (i := i + 1) (k := k) (o := o) (by simpa using h) hL (by rwa [show i + 1 + k = i + (k + 1) by omega]) hb (by rwa [show i + 1 + k = i + (k + 1) by omega])
    rw [show i + 1 + k = i + (k + 1) by omega] at ih
    unfold floats
    split
    · exact ih
    · split
      · exact List.mem_append.2 (.inr ih)
      · exact ih
theorem floatsOk_mem {P : Program} {all : List Oper} {rs : List Rc} : ∀ {l : List (Nat × Nat)}, floatsOk P all rs l = true → ∀ i p, (i, p) ∈ l → float1 P all rs i p = true
  | [], _, i, p, h => by cases h
  | (j, q) :: l, hl, i, p, h => by
    unfold floatsOk at hl
    split at hl
    · rename_i e
      rcases List.mem_cons.1 h with h | h
      · injection h with h1 h2
        rw [h1, h2]; exact e
      · exact floatsOk_mem hl i p h
    · cases hl

theorem cnt_set : ∀ (l : List Bool) (i : Nat), l[i]? = some false → (l.set i true).count false + 1 = l.count false
  | [], i, h => by simp at h
  | x :: l, 0, h => by
    simp at h
    subst h
    simp
  | x :: l, i + 1, h => by
    have := cnt_set l i (by simpa using h)
    simp only [List.set_cons_succ, List.count_cons]
    omega
section
variable {P : Program} {call : Callee} {all : List Oper} {N : Nat} {ms : List Nat} {rs : List Rc} {t0 : Tm} {h0 : Hp} {c0 : Nat} {tF : Tm} {hF : Hp} {cF : Nat} {pF : Pend}
variable {ρ0 : Rn} {w0 : World} {a0 : Act}
theorem any_sound (X : Cxt P call N all ms rs t0 h0 c0 tF hF cF pF) (tm0 : TmOK N t0 ρ0 a0) (g0 : GOK ρ0) {Q : Exit → Act → World → Prop} (hQ : ∀ ρ q ls a w, DI all ms rs hF N ρ0 h0 c0 w0 cF a0 ρ q ls a w → (∀ i, i < all.length → ls.getD i false = true) → Q .normal a w) :
    ∀ (fuel : Nat) (ρ : Rn) (q : Nat) (ls : Array Bool) (a : Act) (w : World), ls.toList.count false = fuel → DI all ms rs hF N ρ0 h0 c0 w0 cF a0 ρ q ls a w → wpAny P .any all.toArray Q fuel ls a w := by
  -- as long as not all are done, one may come up
  have more : ∀ {ρ q ls a w}, DI all ms rs hF N ρ0 h0 c0 w0 cF a0 ρ q ls a w → Region.ready .any all.toArray ls = [] → ∀ i, i < all.length → ls.getD i false = true := by
    intro ρ q ls a w I hr i
    induction i using Nat.strongRecOn with
    | _ i ih =>
      intro hi
      cases hd : ls.getD i false with
      | true => rfl
      | false =>
        have hsz := I.size
        have : ls.getD i true = false := by
          rw [Array.getD_eq_getD_getElem?, Array.getElem?_eq_getElem (by omega)] at hd ⊢
          exact hd
        have hm := ready_of (ops := all) (i := i) this (List.getElem?_eq_getElem hi) fun p hp => ih p (X.M.low i _ (List.getElem?_eq_getElem hi) p hp) (by have := X.M.low i _ (List.getElem?_eq_getElem hi) p hp; omega)
        rw [hr] at hm
        cases hm
  intro fuel
  induction fuel with
  | zero =>
    intro ρ q ls a w hc I
    have none : Region.ready .any all.toArray ls = [] := by
      cases hr : Region.ready .any all.toArray ls with
      | nil => rfl
      | cons i l =>
        obtain ⟨hun, o, ho, hp⟩ := mem_ready (ops := all) (ls := ls) (i := i) (by rw [hr]; exact List.mem_cons_self)
        obtain ⟨hi, hsz⟩ := getD_both hun
        have : false ∈ ls.toList := by
          have h2 : ls[i]? = some false := by
            rw [Array.getD_eq_getD_getElem?, Array.getElem?_eq_getElem hsz] at hi
            rw [Array.getElem?_eq_getElem hsz]
            simpa using hi
          exact List.mem_of_getElem? (by rw [Array.getElem?_toList]; exact h2)
        have := List.count_pos_iff.2 this
        omega
    exact ⟨none, hQ ρ q ls a w I (more I none)⟩
  | succ fuel ih =>
    intro ρ q ls a w hc I
    refine ⟨fun none => hQ ρ q ls a w I (more I none), fun i hi => ?_⟩
    refine wpOp_mono (fun a' w' ⟨ρ', q', I'⟩ => ih ρ' q' _ a' w' ?_ I') (I.step X tm0 g0 hi Q)
    obtain ⟨hun, _⟩ := mem_ready (ops := all) hi
    obtain ⟨hi', hsz⟩ := getD_both hun
    have h2 : ls.toList[i]? = some false := by
      rw [Array.getD_eq_getD_getElem?, Array.getElem?_eq_getElem hsz] at hi'
      rw [Array.getElem?_toList, Array.getElem?_eq_getElem hsz]
      simpa using hi'
    have := cnt_set _ i h2
    rw [Array.toList_setIfInBounds]
    omega
end

/-- from one state to another -/
def Go (N : Nat) (s s' : S) (ρ : Rn) (a : Act) (w : World) (K : Act → World → Prop) : Prop := ∀ ρ' a' w', TmOK N s'.t ρ' a' → Ran ρ s.h s.c w ρ' s'.h s'.c w' → a'.defers = a.defers → K a' w'
theorem put_sound {N : Nat} {s s' : S} {d : Option Nat} {v : Value} (h : put N s.t s.h s.c d v = some s') (hN : N ≤ cap0) : s'.h = s.h ∧ s'.c = s.c ∧ ∀ ρ a u, TmOK N s.t ρ a → Den ρ v u → TmOK N s'.t ρ (a.put d u) ∧ (a.put d u).defers = a.defers := by
  cases d with
  | some i =>
    have h : gd (Nat.blt i N) (Tr.setK (some v) 24 s.t i fun t => some ⟨t, s.h, s.c⟩) = some s' := h
    simp only [gd_some, Tr.setK_eq, Option.some.injEq] at h
    obtain ⟨hlt, rfl⟩ := h
    have hlt := blt_of hlt
    refine ⟨rfl, rfl, fun ρ a u m hu => ⟨⟨by simp [Act.put, m.1], fun k x hk => ?_⟩, rfl⟩⟩
    rw [Tr.put _ _ _ (by omega)] at hk
    split at hk
    · rename_i e
      injection hk with hk
      subst hk
      subst e
      refine ⟨hlt, ?_⟩
      have : (a.put (some k) u).tmps.getD k undef = u := by simp [Act.put, m.1, hlt]
      rw [this]; exact hu
    · rename_i e
      obtain ⟨h1, h2⟩ := m.2 k x hk
      refine ⟨h1, ?_⟩
      have : (a.put (some i) u).tmps.getD k undef = a.tmps.getD k undef := by simp [Act.put, Array.getD_eq_getD_getElem?, Array.getElem?_setIfInBounds_ne (Ne.symm e)]
      rw [this]; exact h2
  | none =>
    have h : some (⟨s.t, s.h, s.c⟩ : S) = some s' := h
    simp only [Option.some.injEq] at h
    subst h
    exact ⟨rfl, rfl, fun ρ a u m hu => ⟨m, rfl⟩⟩
section
variable {P : Program} {call : Callee} {N : Nat}
theorem tm_ev {ρ : Rn} {t : Tm} {a : Act} (g : GOK ρ) (m : TmOK N t ρ a) (l : List Operand) : EvOK ρ t a.eval l := fun x hx v hv => ev_sound g hv fun k _ hg => (m.2 k v hg).2
theorem step_sound (hN : N ≤ cap0) (hcall : CallOK P call) {all : List Oper} {o : Oper} {s s' : S} (h : step P call N all o s = some s') : s.c ≤ s'.c ∧ ∀ ρ a w Q K, GOK ρ → TmOK N s.t ρ a → Lay ρ s.h w → Free ρ s.c s'.c → Go N s s' ρ a w K →
    if Region.wanted o (yielded all.toArray a.tmps) then o.wp P a w K Q else K (a.put o.dst undef) w := by
  obtain ⟨st, sh, sc⟩ := s
  have h : bd (want all st o) (fun w => Bool.rec (motive := fun _ => Option S) (put N st sh sc o.dst undef)
    (bd (opV P st sh sc o) fun r => OR.rec (motive := fun _ => Option S) (fun v h c => put N st h c o.dst v) (fun f args => bd (call f args sh sc) fun r => put N st r.2.1 r.2.2 o.dst r.1) r) w) = some s' := h
  rw [bd_some] at h
  obtain ⟨b, hb, h⟩ := h
  have wn : ∀ {ρ a}, TmOK N st ρ a → Region.wanted o (yielded all.toArray a.tmps) = b := fun m => want_sound hb m.1 fun k _ v hv => m.2 k v hv
  cases b with
  | false =>
    have h : put N st sh sc o.dst undef = some s' := h
    obtain ⟨e1, e2, e3⟩ := put_sound (s := ⟨st, sh, sc⟩) h hN
    refine ⟨by rw [e2]; exact Nat.le_refl _, fun ρ a w Q K g m l f hk => ?_⟩
    rw [wn m]
    obtain ⟨m', d⟩ := e3 ρ a undef m (.flat rfl)
    exact hk ρ _ w m' (by rw [e1, e2]; exact .refl l) d
  | true =>
    have h : bd (opV P st sh sc o) (fun r => OR.rec (motive := fun _ => Option S) (fun v h c => put N st h c o.dst v) (fun f args => bd (call f args sh sc) fun r => put N st r.2.1 r.2.2 o.dst r.1) r) = some s' := h
    rw [bd_some] at h
    obtain ⟨r, hr, h⟩ := h
    cases r with
    | val v h1 c1 =>
      have h : put N st h1 c1 o.dst v = some s' := h
      obtain ⟨hc, H⟩ := opV_sound hr
      obtain ⟨e1, e2, e3⟩ := put_sound (s := ⟨st, h1, c1⟩) h hN
      simp only at e1 e2 e3
      refine ⟨by rw [e2]; exact hc, fun ρ a w Q K g m l f hk => ?_⟩
      rw [wn m]
      rw [e2] at f
      obtain ⟨n, u, w', ρ', g1, g2, g3, g4⟩ := H ρ w a.eval (tm_ev g m _) l f
      obtain ⟨m', d⟩ := e3 ρ' a u (m.le g4.le) g3
      exact upon_val g1 g2 (hk ρ' _ w' m' (by rw [e1, e2]; exact g4) d)
    | ent f args =>
      have h : bd (call f args sh sc) (fun r => put N st r.2.1 r.2.2 o.dst r.1) = some s' := h
      rw [bd_some] at h
      obtain ⟨z, hz, h⟩ := h
      obtain ⟨hc, H⟩ := hcall _ _ _ _ _ _ _ hz
      obtain ⟨e1, e2, e3⟩ := put_sound (s := ⟨st, z.2.1, z.2.2⟩) h hN
      simp only at e1 e2 e3
      refine ⟨by rw [e2]; exact hc, fun ρ a w Q K g m l fr hk => ?_⟩
      rw [wn m]
      rw [e2] at fr
      obtain ⟨us, g1, g2⟩ := opV_sound hr ρ w a.eval (tm_ev g m _) l
      show o.wp P a w K Q
      unfold Oper.wp
      rw [g1]
      refine (H ρ w us g g2 l fr).mono ?_
      rintro e w' ⟨u, ρ', rfl, k1, k2⟩
      obtain ⟨m', d⟩ := e3 ρ' a u (m.le k2.le) k1
      exact hk ρ' _ w' m' (by rw [e1, e2]; exact k2) d
theorem steps_sound (hN : N ≤ cap0) (hcall : CallOK P call) {all : List Oper} : ∀ {l : List Oper} {s s' : S}, steps P call N all l s = some s' → s.c ≤ s'.c ∧ ∀ ρ a w Q, GOK ρ → TmOK N s.t ρ a → Lay ρ s.h w → Free ρ s.c s'.c → Go N s s' ρ a w (Q .normal) → wpList P all.toArray Q l a w
  | [], s, s', h => by
    have h : some s = some s' := h
    simp only [Option.some.injEq] at h
    subst h
    exact ⟨Nat.le_refl _, fun ρ a w Q g m l f hk => hk ρ a w m (.refl l) rfl⟩
  | o :: l, s, s', h => by
    have h : bd (step P call N all o s) (steps P call N all l) = some s' := h
    rw [bd_some] at h
    obtain ⟨s1, h1, h2⟩ := h
    obtain ⟨c1, H1⟩ := step_sound hN hcall h1
    obtain ⟨c2, H2⟩ := steps_sound hN hcall h2
    refine ⟨Nat.le_trans c1 c2, fun ρ a w Q g m ly f hk => ?_⟩
    have := H1 ρ a w Q (wpList P all.toArray Q l) g m ly (f.left c2) fun ρ' a' w' m' rn d => H2 ρ' a' w' Q (g.le rn.le) m' rn.lay (rn.free f) fun ρ2 a2 w2 m2 rn2 d2 => hk ρ2 a2 w2 m2 (rn.trans rn2) (d2.trans d)
    unfold wpList
    split
    · rename_i hw; rw [if_pos hw] at this; exact .inl this
    · rename_i hw; rw [if_neg hw] at this; exact this
end
end Cx
end Go.Proofs.YtonbjlkmcikbgaaGreatDoor
