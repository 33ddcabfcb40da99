/-
  Closed runs: facts of the traces.
-/
import Derived.Test.YtonbjlkmcikbgaaGreatDoorCxH
namespace Go.Proofs.YtonbjlkmcikbgaaGreatDoor
open Go.RowKit
namespace Cx
set_option linter.unusedVariables false
set_option linter.unusedSimpArgs false

/-- the program's variables are called as they are -/
def GOK (ρ : Rn) : Prop := ∀ g, ∃ x, ρ (gbase + g) = some x ∧ x.b = g
/-- what a call must keep to -/
def CallOK (P : Program) (call : Callee) : Prop := ∀ f args h c v h' c', call f args h c = some (v, h', c') → c ≤ c' ∧ ∀ ρ w (us : List Value), GOK ρ → DenL ρ args us → Lay ρ h w → Free ρ c c' →
  Calls P f us.toArray w fun e w' => ∃ u ρ', e = .returned u ∧ Den ρ' v u ∧ Ran ρ h c w ρ' h' c' w'
def TmOK (N : Nat) (t : Tm) (ρ : Rn) (a : Act) : Prop := a.tmps.size = N ∧ ∀ k v, t.get k = some v → k < N ∧ Den ρ v (a.tmps.getD k undef)
theorem GOK.le {ρ ρ' : Rn} (h : GOK ρ) (l : Le ρ ρ') : GOK ρ' := fun g => by
  obtain ⟨x, h1, h2⟩ := h g
  exact ⟨x, l _ _ h1, h2⟩
theorem TmOK.le {N : Nat} {t : Tm} {ρ ρ' : Rn} {a : Act} (m : TmOK N t ρ a) (h : Le ρ ρ') : TmOK N t ρ' a := ⟨m.1, fun k v e => ⟨(m.2 k v e).1, (m.2 k v e).2.le h⟩⟩
theorem ev_sound {ρ : Rn} {t : Tm} {a : Act} {x : Operand} {v : Value} (g : GOK ρ) (h : evl t x = some v) (m : ∀ k, x = .tmp k → t.get k = some v → Den ρ v (a.tmps.getD k undef)) : Den ρ v (a.eval x) := by
  cases x with
  | tmp k => exact m k rfl h
  | const c =>
    have h : gd (flat c) (some c) = some v := h
    simp only [gd_some, Option.some.injEq] at h
    obtain ⟨hf, rfl⟩ := h
    exact .flat hf
  | global n =>
    have h : some (Value.pointer (some ⟨gbase + n, 0, none⟩)) = some v := h
    injection h with h
    subst h
    obtain ⟨x, h1, h2⟩ := g n
    have := Den.ptr (off := 0) h1
    rw [h2] at this
    exact this
  | func f =>
    have h : some (Value.func (.func f) ⟨[]⟩ ⟨[]⟩) = some v := h
    injection h with h
    subst h
    exact .flat rfl

/-- pending objects over a heap -/
def ovL : Pend → HF → HF
  | [], h => h
  | (i, c, ob) :: l, h => fun n => if n = c then some ob else ovL l h n
def NmInj (L : Pend) : Prop := ∀ x ∈ L, ∀ y ∈ L, x.2.1 = y.2.1 → x = y
theorem ovL_in {L : Pend} {h : HF} (hi : NmInj L) {x : Nat × Nat × Ob} (hx : x ∈ L) : ovL L h x.2.1 = some x.2.2 := by
  induction L with
  | nil => cases hx
  | cons y l ih =>
    obtain ⟨i, c, ob⟩ := y
    simp only [ovL]
    split
    · rename_i e
      have := hi x hx (i, c, ob) List.mem_cons_self e
      subst this
      rfl
    · rename_i e
      rcases List.mem_cons.1 hx with rfl | hx
      · exact absurd rfl e
      · exact ih (fun a ha b hb => hi a (List.mem_cons_of_mem _ ha) b (List.mem_cons_of_mem _ hb)) hx
theorem ovL_out {h : HF} {n : Nat} : ∀ {L : Pend}, (∀ x ∈ L, x.2.1 ≠ n) → ovL L h n = h n
  | [], _ => rfl
  | (i, c, ob) :: l, hn => by
    simp only [ovL]
    rw [if_neg (fun e => hn _ List.mem_cons_self e.symm)]
    exact ovL_out fun x hx => hn x (List.mem_cons_of_mem _ hx)
theorem ovL_cases {L : Pend} (h : HF) (hi : NmInj L) (n : Nat) : (∃ x ∈ L, x.2.1 = n ∧ ovL L h n = some x.2.2) ∨ ((∀ x ∈ L, x.2.1 ≠ n) ∧ ovL L h n = h n) := by
  by_cases c : ∃ x ∈ L, x.2.1 = n
  · obtain ⟨x, hx, rfl⟩ := c
    exact .inl ⟨x, hx, rfl, ovL_in hi hx⟩
  · have c' : ∀ x ∈ L, x.2.1 ≠ n := fun x hx e => c ⟨x, hx, e⟩
    exact .inr ⟨c', ovL_out c'⟩
theorem absorb_spec {α : Type} {m : Nat} : ∀ {pend : Pend} {h : Hp} {K : Hp → Pend → Option α} {r : α}, absorb m pend h K = some r →
    ∃ h', K h' (pend.filter fun x => !Nat.testBit m x.1) = some r ∧ h'.get = ovL (pend.filter fun x => Nat.testBit m x.1) h.get
  | [], h, K, r, e => ⟨h, e, rfl⟩
  | (i, c, ob) :: l, h, K, r, e => by
    unfold absorb at e
    split at e
    · rename_i hb
      simp only [gd_some] at e
      obtain ⟨hc, e⟩ := e
      obtain ⟨h', hk, hg⟩ := absorb_spec e
      rw [Tr.setK_eq] at hk
      refine ⟨_, by simpa [List.filter_cons, hb] using hk, ?_⟩
      funext n
      rw [Tr.put _ _ _ (blt_of hc), hg]
      simp [List.filter_cons, hb, ovL]
    · rename_i hb
      obtain ⟨h', hk, hg⟩ := absorb_spec e
      exact ⟨h', by simpa [List.filter_cons, hb] using hk, by simpa [List.filter_cons, hb] using hg⟩
theorem layAll_spec {α : Type} : ∀ {pend : Pend} {h : Hp} {K : Hp → Option α} {r : α}, layAll pend h K = some r → ∃ h', K h' = some r ∧ h'.get = ovL pend h.get
  | [], h, K, r, e => ⟨h, e, rfl⟩
  | (i, c, ob) :: l, h, K, r, e => by
    simp only [layAll, gd_some] at e
    obtain ⟨hc, e⟩ := e
    obtain ⟨h', hk, hg⟩ := layAll_spec e
    rw [Tr.setK_eq] at hk
    refine ⟨_, hk, ?_⟩
    funext n
    rw [Tr.put _ _ _ (blt_of hc), hg]
    rfl

def isNk : Kd → Bool
  | .N => true
  | _ => false
section
variable {P : Program} {call : Callee} {all : List Oper}
/-- what a record says -/
structure RcOK (P : Program) (call : Callee) (all : List Oper) (m i : Nat) (o : Oper) (pend : Pend) (r : Rc) (pend' : Pend) : Prop where
  skip : r.kd = .skip → want all r.t o = some false ∧ r.v = undef ∧ r.c' = r.c ∧ pend' = pend
  T : r.kd = .T → want all r.t o = some true ∧ opV P r.t .lf r.c o = some (.val r.v .lf r.c) ∧ r.c' = r.c ∧ pend' = pend
  L : r.kd = .L → want all r.t o = some true ∧ ldV P r.t r.s o = some r.v ∧ r.c' = r.c ∧ pend' = pend
  N : r.kd = .N → want all r.t o = some true ∧ kindOp o.op = .N ∧ opV P r.t .lf r.c o = some (.val r.v r.h' (r.c + 1)) ∧ r.c' = r.c + 1 ∧ ∃ ob, r.h'.get r.c = some ob ∧ pend' = (i, r.c, ob) :: pend
  H : r.kd = .H → want all r.t o = some true ∧ isH o = true ∧ pend' = (pend.filter fun x => !Nat.testBit m x.1) ∧ r.h.get = ovL (pend.filter fun x => Nat.testBit m x.1) r.s.get ∧
    (opV P r.t r.h r.c o = some (.val r.v r.h' r.c') ∨ ∃ f args, opV P r.t r.h r.c o = some (.ent f args) ∧ call f args r.h r.c = some (r.v, r.h', r.c'))
theorem rec1_ok {m i : Nat} {o : Oper} {t : Tm} {h : Hp} {c : Nat} {pend pend' : Pend} {r : Rc} (e : rec1 P call all m i o t h c pend = some (r, pend')) : r.t = t ∧ r.s = h ∧ r.c = c ∧ RcOK P call all m i o pend r pend' := by
  simp only [rec1, bd_some] at e
  obtain ⟨w, hw, e⟩ := e
  cases w with
  | false =>
    simp only [Option.some.injEq, Prod.mk.injEq] at e
    obtain ⟨rfl, rfl⟩ := e
    exact ⟨rfl, rfl, rfl, ⟨fun _ => ⟨hw, rfl, rfl, rfl⟩, (fun h => by cases h), (fun h => by cases h), (fun h => by cases h), (fun h => by cases h)⟩⟩
  | true =>
    simp only at e
    split at e
    · simp only [bd_some] at e
      obtain ⟨q, hq, e⟩ := e
      split at e
      · rename_i v c2
        simp only [gd_some, Option.some.injEq, Prod.mk.injEq] at e
        obtain ⟨hc, rfl, rfl⟩ := e
        have hc := beq_of hc
        subst hc
        exact ⟨rfl, rfl, rfl, ⟨(fun h => by cases h), fun _ => ⟨hw, hq, rfl, rfl⟩, (fun h => by cases h), (fun h => by cases h), (fun h => by cases h)⟩⟩
      · cases e
    · simp only [bd_some, Option.some.injEq, Prod.mk.injEq] at e
      obtain ⟨v, hv, rfl, rfl⟩ := e
      exact ⟨rfl, rfl, rfl, ⟨(fun h => by cases h), (fun h => by cases h), fun _ => ⟨hw, hv, rfl, rfl⟩, (fun h => by cases h), (fun h => by cases h)⟩⟩
    · simp only [bd_some] at e
      obtain ⟨q, hq, e⟩ := e
      split at e
      · rename_i hkN _ v h1 c2
        simp only [bd_some, gd_some, Option.some.injEq, Prod.mk.injEq] at e
        obtain ⟨ob, hob, hc, rfl, rfl⟩ := e
        have hc := beq_of hc
        subst hc
        exact ⟨rfl, rfl, rfl, ⟨(fun h => by cases h), (fun h => by cases h), (fun h => by cases h), fun _ => ⟨hw, hkN, hq, rfl, ob, hob, rfl⟩, (fun h => by cases h)⟩⟩
      · cases e
    · rename_i hk
      have hH : isH o = true := by unfold isH; rw [hk]
      obtain ⟨hp, e, hg⟩ := absorb_spec e
      simp only [bd_some] at e
      obtain ⟨q, hq, e⟩ := e
      split at e
      · simp only [Option.some.injEq, Prod.mk.injEq] at e
        obtain ⟨rfl, rfl⟩ := e
        exact ⟨rfl, rfl, rfl, ⟨(fun h => by cases h), (fun h => by cases h), (fun h => by cases h), (fun h => by cases h), fun _ => ⟨hw, hH, rfl, hg, .inl hq⟩⟩⟩
      · simp only [bd_some, Option.some.injEq, Prod.mk.injEq] at e
        obtain ⟨z, hz, rfl, rfl⟩ := e
        exact ⟨rfl, rfl, rfl, ⟨(fun h => by cases h), (fun h => by cases h), (fun h => by cases h), (fun h => by cases h), fun _ => ⟨hw, hH, rfl, hg, .inr ⟨_, _, hq, hz⟩⟩⟩⟩
    · cases e
theorem RcOK.cc {m i : Nat} {o : Oper} {pend pend' : Pend} {r : Rc} (ok : RcOK P call all m i o pend r pend') (hcall : CallOK P call) : r.c ≤ r.c' := by
  cases hk : r.kd with
  | skip => rw [(ok.skip hk).2.2.1]; exact Nat.le_refl _
  | T => rw [(ok.T hk).2.2.1]; exact Nat.le_refl _
  | L => rw [(ok.L hk).2.2.1]; exact Nat.le_refl _
  | N => rw [(ok.N hk).2.2.2.1]; omega
  | H =>
    rcases (ok.H hk).2.2.2.2 with h | ⟨f, args, _, h⟩
    · exact (opV_sound h).1
    · exact (hcall _ _ _ _ _ _ _ h).1

variable {N : Nat} {ms : List Nat} {t0 : Tm} {h0 : Hp} {c0 : Nat}
theorem Tra.len {i : Nat} {prs : List Rc} {t : Tm} {h : Hp} {c : Nat} {pend : Pend} (T : Tra P call N all ms t0 h0 c0 i prs t h c pend) : prs.length = i := by
  induction T with
  | nil => rfl
  | snoc _ _ _ _ _ ih => simp [ih]
theorem Tra.sub {i : Nat} {prs : List Rc} {t : Tm} {h : Hp} {c : Nat} {pend : Pend} (T : Tra P call N all ms t0 h0 c0 i prs t h c pend) : ∀ k r, prs[k]? = some r →
    ∃ o m pk pk', all[k]? = some o ∧ ms[k]? = some m ∧ Tra P call N all ms t0 h0 c0 k (prs.take k) r.t r.s r.c pk ∧ RcOK P call all m k o pk r pk' := by
  induction T with
  | nil => intro k r hk; simp at hk
  | @snoc i prs t t' h c pend pend' o m r T ho hm hr ht ih =>
    intro k q hk
    have hl := T.len
    rcases Nat.lt_or_ge k prs.length with hlt | hge
    · rw [List.getElem?_append_left hlt] at hk
      have := ih k q hk
      rw [List.take_append_of_le_length (by omega)]
      exact this
    · have hki : k = i := by
        have := (List.getElem?_eq_some_iff.1 hk).1
        simp at this
        omega
      subst hki
      rw [List.getElem?_append_right (by omega), hl, Nat.sub_self] at hk
      simp at hk
      subst hk
      obtain ⟨e1, e2, e3, ok⟩ := rec1_ok hr
      refine ⟨o, m, pend, pend', ho, hm, ?_, ok⟩
      rw [e1, e2, e3, List.take_append_of_le_length (by omega), List.take_of_length_le (by omega)]
      exact T
theorem Tra.temps {i : Nat} {prs : List Rc} {t : Tm} {h : Hp} {c : Nat} {pend : Pend} (hN : N ≤ cap0) (T : Tra P call N all ms t0 h0 c0 i prs t h c pend) : ∀ s v, t.get s = some v →
    (∃ j oj rj, j < i ∧ all[j]? = some oj ∧ prs[j]? = some rj ∧ oj.dst = some s ∧ v = rj.v) ∨ (t0.get s = some v ∧ ∀ j oj, j < i → all[j]? = some oj → oj.dst ≠ some s) := by
  induction T with
  | nil => intro s v hv; exact .inr ⟨hv, fun j oj hj => by omega⟩
  | @snoc i prs t t' h c pend pend' o m r T ho hm hr ht ih =>
    intro s v hv
    have hl := T.len
    have old : t.get s = some v → o.dst ≠ some s → (∃ j oj rj, j < i + 1 ∧ all[j]? = some oj ∧ (prs ++ [r])[j]? = some rj ∧ oj.dst = some s ∧ v = rj.v) ∨ (t0.get s = some v ∧ ∀ j oj, j < i + 1 → all[j]? = some oj → oj.dst ≠ some s) := by
      intro hv hne
      rcases ih s v hv with ⟨j, oj, rj, h1, h2, h3, h4, h5⟩ | ⟨h1, h2⟩
      · exact .inl ⟨j, oj, rj, by omega, h2, by rw [List.getElem?_append_left (by omega)]; exact h3, h4, h5⟩
      · refine .inr ⟨h1, fun j oj hj hoj => ?_⟩
        rcases Nat.lt_or_ge j i with hlt | hge
        · exact h2 j oj hlt hoj
        · have : j = i := by omega
          subst this
          rw [ho] at hoj
          injection hoj with hoj
          subst hoj
          exact hne
    cases hd : o.dst with
    | none =>
      simp only [setT, hd, Option.some.injEq] at ht
      subst ht
      exact old hv (by rw [hd]; simp)
    | some d =>
      simp only [setT, hd, gd_some, Tr.setK_eq, Option.some.injEq] at ht
      obtain ⟨hlt, rfl⟩ := ht
      have hlt := blt_of hlt
      rw [Tr.put _ _ _ (by omega)] at hv
      split at hv
      · rename_i hs
        injection hv with hv
        subst hv
        subst hs
        exact .inl ⟨i, o, r, by omega, ho, by rw [List.getElem?_append_right (by omega), hl]; simp, hd, rfl⟩
      · rename_i hs
        exact old hv (by rw [hd]; intro e; injection e with e; exact hs e.symm)
theorem Tra.dst {i : Nat} {prs : List Rc} {t : Tm} {h : Hp} {c : Nat} {pend : Pend} (T : Tra P call N all ms t0 h0 c0 i prs t h c pend) : ∀ j oj d, j < i → all[j]? = some oj → oj.dst = some d → d < N := by
  induction T with
  | nil => intro j oj d hj; omega
  | @snoc i prs t t' h c pend pend' o m r T ho hm hr ht ih =>
    intro j oj d hj hoj hd
    rcases Nat.lt_or_ge j i with hlt | hge
    · exact ih j oj d hlt hoj hd
    · have : j = i := by omega
      subst this
      rw [ho] at hoj
      injection hoj with hoj
      subst hoj
      simp only [setT, hd, gd_some] at ht
      exact blt_of ht.1
def stg (prs : List Rc) (h : Hp) (k : Nat) : Hp := match prs[k]? with
  | some r => r.s
  | none => h
theorem Tra.stage {i : Nat} {prs : List Rc} {t : Tm} {h : Hp} {c : Nat} {pend : Pend} (T : Tra P call N all ms t0 h0 c0 i prs t h c pend) : ∀ k, k ≤ i → (∀ p r, k ≤ p → prs[p]? = some r → isHk r.kd = false) → stg prs h k = h := by
  induction T with
  | nil => intro k hk _; simp [stg]
  | @snoc i prs t t' h c pend pend' o m r T ho hm hr ht ih =>
    intro k hk hno
    have hl := T.len
    obtain ⟨e1, e2, e3, ok⟩ := rec1_ok hr
    rcases Nat.lt_or_ge i k with hlt | hge
    · unfold stg
      rw [List.getElem?_eq_none (by simp; omega)]
    · have hlast : isHk r.kd = false := hno i r hge (by rw [List.getElem?_append_right (by omega), hl]; simp)
      have hnx : r.next = h := by
        rw [Rc.next_eq, hlast]
        exact e2
      rw [hnx]
      rcases Nat.lt_or_ge k i with hki | hki
      · have := ih k (by omega) fun p q hp hq => hno p q hp (by rw [List.getElem?_append_left (List.getElem?_eq_some_iff.1 hq).1]; exact hq)
        unfold stg at this ⊢
        rw [List.getElem?_append_left (by omega)]
        exact this
      · have : k = i := by omega
        subst this
        unfold stg
        rw [List.getElem?_append_right (by omega), hl, Nat.sub_self]
        simpa using e2
theorem Tra.next {i : Nat} {prs : List Rc} {t : Tm} {h : Hp} {c : Nat} {pend : Pend} (T : Tra P call N all ms t0 h0 c0 i prs t h c pend) : ∀ k r, prs[k]? = some r → stg prs h (k + 1) = r.next ∧ (k + 1 = i → h = r.next) := by
  induction T with
  | nil => intro k r hk; simp at hk
  | @snoc i prs t t' h c pend pend' o m r T ho hm hr ht ih =>
    intro k q hk
    have hl := T.len
    obtain ⟨e1, e2, e3, ok⟩ := rec1_ok hr
    rcases Nat.lt_or_ge k prs.length with hlt | hge
    · rw [List.getElem?_append_left hlt] at hk
      obtain ⟨h1, h2⟩ := ih k q hk
      refine ⟨?_, fun e => by omega⟩
      rcases Nat.lt_or_ge (k + 1) i with hki | hki
      · unfold stg at h1 ⊢
        rw [List.getElem?_append_left (by omega)]
        rw [List.getElem?_eq_getElem (by omega : k + 1 < prs.length)] at h1 ⊢
        exact h1
      · have hki : k + 1 = i := by omega
        unfold stg
        rw [List.getElem?_append_right (by omega), hl, hki, Nat.sub_self]
        simp only [List.getElem?_cons_zero]
        rw [e2]
        exact h2 hki
    · have hki : k = i := by
        have := (List.getElem?_eq_some_iff.1 hk).1
        simp at this
        omega
      subst hki
      rw [List.getElem?_append_right (by omega), hl, Nat.sub_self] at hk
      simp at hk
      subst hk
      refine ⟨?_, fun _ => rfl⟩
      unfold stg
      rw [List.getElem?_eq_none (by simp; omega)]
theorem Tra.count {i : Nat} {prs : List Rc} {t : Tm} {h : Hp} {c : Nat} {pend : Pend} (hcall : CallOK P call) (T : Tra P call N all ms t0 h0 c0 i prs t h c pend) : c0 ≤ c ∧ ∀ (k : Nat) (r : Rc), prs[k]? = some r → c0 ≤ r.c ∧ r.c ≤ r.c' ∧ r.c' ≤ c := by
  induction T with
  | nil => exact ⟨Nat.le_refl _, fun k r hk => by simp at hk⟩
  | @snoc i prs t t' h c pend pend' o m r T ho hm hr ht ih =>
    have hl := T.len
    obtain ⟨e1, e2, e3, ok⟩ := rec1_ok hr
    have hcc := ok.cc hcall
    refine ⟨by omega, fun k q hk => ?_⟩
    rcases Nat.lt_or_ge k prs.length with hlt | hge
    · rw [List.getElem?_append_left hlt] at hk
      have := ih.2 k q hk
      omega
    · have hki : k = i := by
        have := (List.getElem?_eq_some_iff.1 hk).1
        simp at this
        omega
      subst hki
      rw [List.getElem?_append_right (by omega), hl, Nat.sub_self] at hk
      simp at hk
      subst hk
      omega
end
end Cx
end Go.Proofs.YtonbjlkmcikbgaaGreatDoor
