/-
  Closed runs: what the traces of a region show.
-/
import Derived.Test.YtonbjlkmcikbgaaGreatDoorCxG
import Derived.Orders
namespace Go.Proofs.YtonbjlkmcikbgaaGreatDoor
open Go.RowKit
namespace Cx
set_option linter.unusedVariables false
set_option linter.unusedSimpArgs false

theorem lor_bit {a b i : Nat} (h : Nat.testBit (Nat.lor a b) i = true) : Nat.testBit a i = true ∨ Nat.testBit b i = true := by
  have : Nat.testBit (a ||| b) i = true := h
  rw [Nat.testBit_or] at this
  simpa using this
theorem pow_bit {p i : Nat} (h : Nat.testBit (2 ^ p) i = true) : p = i := by
  rw [Nat.testBit_two_pow] at h
  simpa using h
theorem maskOf_bit {ms : List Nat} : ∀ {l : List Nat} {m : Nat}, maskOf ms l = some m → ∀ j, Nat.testBit m j = true → ∃ p ∈ l, p < ms.length ∧ (j = p ∨ ∃ a, ms[p]? = some a ∧ Nat.testBit a j = true)
  | [], m, h, j, hj => by simp [maskOf] at h; subst h; simp at hj
  | p :: l, m, h, j, hj => by
    simp only [maskOf, bd_some, Option.some.injEq] at h
    obtain ⟨a, ha, r, hr, rfl⟩ := h
    have hp := (List.getElem?_eq_some_iff.1 ha).1
    rcases lor_bit hj with h1 | h1
    · exact ⟨p, List.mem_cons_self, hp, .inr ⟨a, ha, h1⟩⟩
    · rcases lor_bit h1 with h1 | h1
      · exact ⟨p, List.mem_cons_self, hp, .inl (pow_bit h1).symm⟩
      · obtain ⟨q, hq, h2⟩ := maskOf_bit hr j h1
        exact ⟨q, List.mem_cons_of_mem _ hq, h2⟩
theorem maskOf_mem {ms : List Nat} : ∀ {l : List Nat} {m : Nat}, maskOf ms l = some m → ∀ p ∈ l, p < ms.length
  | p :: l, m, h, q, hq => by
    simp only [maskOf, bd_some, Option.some.injEq] at h
    obtain ⟨a, ha, r, hr, rfl⟩ := h
    rcases List.mem_cons.1 hq with rfl | hq
    · exact (List.getElem?_eq_some_iff.1 ha).1
    · exact maskOf_mem hr q hq
theorem masks_spec : ∀ {l : List Oper} {acc ms : List Nat}, masks l acc = some ms → ms.length = acc.length + l.length ∧ (∀ i, i < acc.length → ms[i]? = acc[i]?) ∧
    ∀ k o, l[k]? = some o → ∃ m, ms[acc.length + k]? = some m ∧ maskOf (ms.take (acc.length + k)) (preds o) = some m
  | [], acc, ms, h => by
    simp only [masks, Option.some.injEq] at h
    subst h
    exact ⟨by simp, fun i _ => rfl, fun k o hk => by simp at hk⟩
  | o :: l, acc, ms, h => by
    simp only [masks, bd_some] at h
    obtain ⟨m, hm, h⟩ := h
    obtain ⟨h1, h2, h3⟩ := masks_spec h
    simp only [List.length_append, List.length_cons, List.length_nil] at h1 h2 h3
    have hpre : ∀ i, i < acc.length → ms[i]? = acc[i]? := fun i hi => by
      rw [h2 i (by omega), List.getElem?_append_left hi]
    refine ⟨by simp; omega, hpre, fun k o' hk => ?_⟩
    cases k with
    | zero =>
      simp at hk
      subst hk
      refine ⟨m, by rw [Nat.add_zero, h2 _ (by omega)]; simp, ?_⟩
      have : ms.take (acc.length + 0) = acc := by
        apply List.ext_getElem?
        intro i
        rw [List.getElem?_take]
        split
        · exact hpre i (by omega)
        · rw [List.getElem?_eq_none (by omega)]
      rw [this]; exact hm
    | succ k =>
      have := h3 k o' (by simpa using hk)
      rw [show acc.length + (0 + 1) + k = acc.length + (k + 1) by omega] at this
      exact this
structure Msk (all : List Oper) (ms : List Nat) : Prop where
  len : ms.length = all.length
  get : ∀ (i : Nat) (o : Oper), all[i]? = some o → ∃ m : Nat, ms[i]? = some m
  bit : ∀ (i : Nat) (o : Oper) (m : Nat), all[i]? = some o → ms[i]? = some m → ∀ j, Nat.testBit m j = true → ∃ p ∈ preds o, p < i ∧ (j = p ∨ ∃ a : Nat, ms[p]? = some a ∧ Nat.testBit a j = true)
  low : ∀ (i : Nat) (o : Oper), all[i]? = some o → ∀ p ∈ preds o, p < i
theorem masks_ok {all : List Oper} {ms : List Nat} (h : masks all [] = some ms) : Msk all ms := by
  obtain ⟨h1, _, h3⟩ := masks_spec h
  simp only [List.length_nil, Nat.zero_add] at h1 h3
  have hlen : ∀ i o, all[i]? = some o → (ms.take i).length = i := fun i o hi => by
    have := (List.getElem?_eq_some_iff.1 hi).1
    simp; omega
  refine ⟨h1, fun i o hi => ?_, fun i o m hi hm j hj => ?_, fun i o hi p hp => ?_⟩
  · obtain ⟨m, hm, _⟩ := h3 i o hi
    exact ⟨m, hm⟩
  · obtain ⟨m', hm', hk⟩ := h3 i o hi
    rw [hm] at hm'
    injection hm' with hm'
    subst hm'
    obtain ⟨p, hp, hlt, hx⟩ := maskOf_bit hk j hj
    rw [hlen i o hi] at hlt
    refine ⟨p, hp, hlt, hx.imp id fun ⟨a, ha, hb⟩ => ⟨a, ?_, hb⟩⟩
    rw [List.getElem?_take_of_lt hlt] at ha
    exact ha
  · obtain ⟨m', hm', hk⟩ := h3 i o hi
    have := maskOf_mem hk p hp
    rw [hlen i o hi] at this
    exact this
/-- closed: what is done waits for nothing that is not done -/
def Closed (all : List Oper) (ls : Array Bool) : Prop := ∀ j oj, all[j]? = some oj → ls.getD j false = true → ∀ p ∈ preds oj, ls.getD p false = true
theorem anc_done {all : List Oper} {ms : List Nat} (M : Msk all ms) {ls : Array Bool} (C : Closed all ls) : ∀ (i : Nat) (o : Oper) (m : Nat), all[i]? = some o → ms[i]? = some m → (∀ p ∈ preds o, ls.getD p false = true) → ∀ j, Nat.testBit m j = true → ls.getD j false = true := by
  intro i
  induction i using Nat.strongRecOn with
  | _ i ih =>
    intro o m hi hm hp j hj
    obtain ⟨p, hpm, hlt, hx⟩ := M.bit i o m hi hm j hj
    rcases hx with rfl | ⟨a, ha, hb⟩
    · exact hp _ hpm
    · have hpl : p < all.length := by
        have := (List.getElem?_eq_some_iff.1 hi).1
        omega
      have hp' : all[p]? = some all[p] := List.getElem?_eq_getElem hpl
      exact ih p hlt all[p] a hp' ha (C p _ hp' (hp p hpm)) j hb
theorem anc_done' {all : List Oper} {ms : List Nat} (M : Msk all ms) {ls : Array Bool} (C : Closed all ls) {i : Nat} {o : Oper} {m : Nat} (hi : all[i]? = some o) (hm : ms[i]? = some m) (hd : ls.getD i false = true) {j : Nat} (hj : Nat.testBit m j = true) : ls.getD j false = true :=
  anc_done M C i o m hi hm (C i o hi hd) j hj
theorem mem_ready {ops : List Oper} {ls : Array Bool} {i : Nat} (h : i ∈ Region.ready .any ops.toArray ls) : ls.getD i true = false ∧ ∃ o, ops[i]? = some o ∧ ∀ p ∈ preds o, ls.getD p false = true := by
  unfold Region.ready at h
  rw [List.mem_filter] at h
  obtain ⟨h1, h2⟩ := h
  simp only [Bool.and_eq_true, Bool.not_eq_true'] at h2
  refine ⟨h2.1, ?_⟩
  have h3 := h2.2
  cases ho : ops[i]? with
  | none => simp [ho] at h3
  | some o =>
    refine ⟨o, rfl, fun p hp => ?_⟩
    have ho' : ops.toArray[i]? = some o := by simpa using ho
    simp only [ho', Option.map_some, Option.getD_some] at h3
    simp only [preds, List.mem_map, List.mem_filter] at hp
    obtain ⟨e, ⟨he, hb⟩, rfl⟩ := hp
    have := Array.all_eq_true'.1 h3 e (by simpa using he)
    rw [hb] at this
    simpa using this
theorem ready_of {ops : List Oper} {ls : Array Bool} {i : Nat} {o : Oper} (hl : ls.getD i true = false) (ho : ops[i]? = some o) (hp : ∀ p ∈ preds o, ls.getD p false = true) : i ∈ Region.ready .any ops.toArray ls := by
  unfold Region.ready
  rw [List.mem_filter]
  have hi := (List.getElem?_eq_some_iff.1 ho).1
  refine ⟨by simpa using hi, ?_⟩
  have ho' : ops.toArray[i]? = some o := by simpa using ho
  simp only [hl, Bool.not_false, Bool.true_and, ho', Option.map_some, Option.getD_some]
  rw [Array.all_eq_true']
  intro e he
  cases hb : Region.binds .any e with
  | false => rfl
  | true =>
    have := hp e.on (by simp only [preds, List.mem_map, List.mem_filter]; exact ⟨e, ⟨by simpa using he, hb⟩, rfl⟩)
    simp [this]

theorem pairs_spec {all : List Oper} {m : Nat} {o : Oper} : ∀ {l : List Oper} {j : Nat}, pairsOk all m o j l = true → ∀ k oj, l[k]? = some oj → pairOk all m o (j + k) oj = true
  | [], j, _, k, oj, hk => by simp at hk
  | x :: l, j, h, k, oj, hk => by
    unfold pairsOk at h
    split at h
    · rename_i hx
      cases k with
      | zero => simp at hk; subst hk; exact hx
      | succ k =>
        have := pairs_spec h k oj (by simpa using hk)
        rwa [show j + 1 + k = j + (k + 1) by omega] at this
    · cases h
theorem stat_spec {all M : List Oper} {ms : List Nat} : ∀ {l : List Oper} {i : Nat}, statFrom all M ms i l = true → ∀ k o m, l[k]? = some o → ms[i + k]? = some m → pairsOk all m o 0 (all.take (i + k)) = true
  | [], i, _, k, o, m, hk, _ => by simp at hk
  | x :: l, i, h, k, o, m, hk, hm => by
    unfold statFrom at h
    split at h
    · rename_i m' hm'
      split at h
      · rename_i hx
        cases k with
        | zero =>
          simp at hk; subst hk
          rw [Nat.add_zero] at hm
          rw [hm'] at hm
          injection hm with hm
          subst hm
          exact hx
        | succ k =>
          have := stat_spec h k o m (by simpa using hk) (by rwa [show i + 1 + k = i + (k + 1) by omega])
          rwa [show i + 1 + k = i + (k + 1) by omega] at this
      · cases h
    · cases h
theorem stat_pair {all : List Oper} {ms : List Nat} (h : stat all ms = true) {i j : Nat} {o oj : Oper} {m : Nat} (hi : all[i]? = some o) (hm : ms[i]? = some m) (hji : j < i) (hj : all[j]? = some oj) : pairOk all m o j oj = true := by
  have h1 := stat_spec h i o m hi (by rwa [Nat.zero_add])
  rw [Nat.zero_add] at h1
  have := pairs_spec h1 j oj (by rw [List.getElem?_take_of_lt hji]; exact hj)
  rwa [Nat.zero_add] at this
theorem hasN_mem {t : Nat} : ∀ {l : List Nat}, hasN t l = true ↔ t ∈ l
  | [] => by simp [hasN]
  | s :: l => by
    unfold hasN
    split
    · rename_i e; simp [beq_of e]
    · rename_i e
      have := beq_no e
      simp [hasN_mem (l := l), Ne.symm this]
theorem sameO_of {d : Option Nat} {e : Option Nat} (h : sameO d e = false) {t : Nat} (hd : d = some t) : e ≠ some t := by
  rintro rfl
  subst hd
  simp only [sameO] at h
  rw [Nat.beq_refl] at h
  cases h
theorem slots_mem {t : Nat} : ∀ {l : List Operand}, .tmp t ∈ l → t ∈ slots l
  | x :: l, h => by
    rcases List.mem_cons.1 h with rfl | h
    · exact List.mem_cons_self
    · have := slots_mem h
      cases x <;> first | exact List.mem_cons_of_mem _ this | exact this
theorem reads_slots {all : List Oper} {o : Oper} {t : Nat} (h : .tmp t ∈ o.op.operands.toList) : t ∈ reads all o := by
  have := slots_mem h
  unfold reads
  split
  · exact this
  · split
    · split
      · exact List.mem_cons_of_mem _ this
      · exact this
    · exact this

/-- the traces -/
inductive Tra (P : Program) (call : Callee) (N : Nat) (all : List Oper) (ms : List Nat) (t0 : Tm) (h0 : Hp) (c0 : Nat) : Nat → List Rc → Tm → Hp → Nat → Pend → Prop
  | nil : Tra P call N all ms t0 h0 c0 0 [] t0 h0 c0 []
  | snoc {i : Nat} {prs : List Rc} {t t' : Tm} {h : Hp} {c : Nat} {pend pend' : Pend} {o : Oper} {m : Nat} {r : Rc} (T : Tra P call N all ms t0 h0 c0 i prs t h c pend) (ho : all[i]? = some o) (hm : ms[i]? = some m) (hr : rec1 P call all m i o t h c pend = some (r, pend')) (ht : setT N t o.dst r.v = some t') :
      Tra P call N all ms t0 h0 c0 (i + 1) (prs ++ [r]) t' r.next r.c' pend'
theorem recs_tra {P : Program} {call : Callee} {N : Nat} {all : List Oper} {ms : List Nat} {t0 : Tm} {h0 : Hp} {c0 : Nat} : ∀ {l : List Oper} {i : Nat} {prs rs : List Rc} {t : Tm} {h : Hp} {c : Nat} {pend : Pend} {f : Fin}, (∀ k, l[k]? = all[i + k]?) →
    Tra P call N all ms t0 h0 c0 i prs t h c pend → recs P call N all ms i l t h c pend = some (rs, f) → Tra P call N all ms t0 h0 c0 (i + l.length) (prs ++ rs) f.t f.h f.c f.pend
  | [], i, prs, rs, t, h, c, pend, f, _, T, hr => by
    simp only [recs, Option.some.injEq, Prod.mk.injEq] at hr
    obtain ⟨rfl, rfl⟩ := hr
    simpa using T
  | o :: l, i, prs, rs, t, h, c, pend, f, hl, T, hr => by
    replace hr : bd ms[i]? (fun m => bd (rec1 P call all m i o t h c pend) fun q => bd (setT N t o.dst q.1.v) fun t => bd (recs P call N all ms (i + 1) l t q.1.next q.1.c' q.2) fun r => some (q.1 :: r.1, r.2)) = some (rs, f) := hr
    simp only [bd_some, Option.some.injEq, Prod.mk.injEq] at hr
    obtain ⟨m, hm, q, hq, t', ht, r, hr, rfl, rfl⟩ := hr
    have ho : all[i]? = some o := by simpa using (hl 0).symm
    have := recs_tra (fun k => by have := hl (k + 1); simp at this; rw [this]; congr 1; omega) (T.snoc ho hm hq ht) (show recs P call N all ms (i + 1) l t' q.1.next q.1.c' q.2 = some (r.1, r.2) from hr)
    rw [show i + (o :: l).length = i + 1 + l.length by simp; omega]
    simpa using this
end Cx
end Go.Proofs.YtonbjlkmcikbgaaGreatDoor
