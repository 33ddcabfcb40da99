/-
  Closed runs: a region that draws its order: one operation more.
-/
import Derived.Test.YtonbjlkmcikbgaaGreatDoorCxJ
namespace Go.Proofs.YtonbjlkmcikbgaaGreatDoor
open Go.RowKit
namespace Cx
set_option linter.unusedVariables false
set_option linter.unusedSimpArgs false

/-- what a region is run with -/
structure Cxt (P : Program) (call : Callee) (N : Nat) (all : List Oper) (ms : List Nat) (rs : List Rc) (t0 : Tm) (h0 : Hp) (c0 : Nat) (tF : Tm) (hF : Hp) (cF : Nat) (pF : Pend) : Prop where
  T : Tra P call N all ms t0 h0 c0 all.length rs tF hF cF pF
  M : Msk all ms
  S : stat all ms = true
  call : CallOK P call
  N : N ≤ cap0
  fl : ∀ (i p : Nat) (o : Oper) (r rp : Rc) (m mp : Nat), all[i]? = some o → rs[i]? = some r → r.kd = .L → rs[p]? = some rp → isHk rp.kd = true → ms[i]? = some m → ms[p]? = some mp → Nat.testBit m p = false → Nat.testBit mp i = false →
    (p < i → ldV P r.t rp.s o = some r.v) ∧ (i < p → ldV P r.t rp.h' o = some r.v)
noncomputable def HD (ms : List Nat) (rs : List Rc) (hF : Hp) (ls : Array Bool) (q : Nat) : HF := ovL (pfl ms rs ls q) (stg rs hF q).get
/-- how far it has come -/
structure DI (all : List Oper) (ms : List Nat) (rs : List Rc) (hF : Hp) (N : Nat) (ρ0 : Rn) (h0 : Hp) (c0 : Nat) (w0 : World) (cF : Nat) (a0 : Act) (ρ : Rn) (q : Nat) (ls : Array Bool) (a : Act) (w : World) : Prop where
  size : ls.size = all.length
  closed : Closed all ls
  fr1 : ∀ (p : Nat) (r : Rc), rs[p]? = some r → isHk r.kd = true → p < q → ls.getD p false = true
  fr2 : ∀ (p : Nat) (r : Rc), rs[p]? = some r → isHk r.kd = true → q ≤ p → ls.getD p false = false
  qn : q ≤ all.length
  ran : RanF ρ0 h0.get c0 w0 ρ (HD ms rs hF ls q) cF w
  dj : ∀ x ∈ pfl ms rs ls q, (stg rs hF q).get x.2.1 = none
  fre : ∀ (j : Nat) (r : Rc), rs[j]? = some r → ls.getD j false = false → Free ρ r.c r.c'
  tsz : a.tmps.size = N
  defs : a.defers = a0.defers
  t1 : ∀ (j : Nat) (oj : Oper) (rj : Rc) (d : Nat), all[j]? = some oj → rs[j]? = some rj → ls.getD j false = true → oj.dst = some d → Den ρ rj.v (a.tmps.getD d undef)
  t2 : ∀ d, (∀ (j : Nat) (oj : Oper), all[j]? = some oj → ls.getD j false = true → oj.dst ≠ some d) → a.tmps.getD d undef = a0.tmps.getD d undef

theorem getD_set_self {ls : Array Bool} {i : Nat} (h : i < ls.size) (d : Bool) : (ls.setIfInBounds i true).getD i d = true := by simp [h]
theorem getD_set_ne {ls : Array Bool} {i j : Nat} (h : i ≠ j) (d : Bool) : (ls.setIfInBounds i true).getD j d = ls.getD j d := by
  simp [Array.getD_eq_getD_getElem?, Array.getElem?_setIfInBounds_ne h]
theorem getD_both {ls : Array Bool} {i : Nat} (h : ls.getD i true = false) : ls.getD i false = false ∧ i < ls.size := by
  have hi : i < ls.size := by
    rcases Nat.lt_or_ge i ls.size with c | c
    · exact c
    · rw [Array.getD_eq_getD_getElem?, Array.getElem?_eq_none c] at h; cases h
  refine ⟨?_, hi⟩
  rw [Array.getD_eq_getD_getElem?, Array.getElem?_eq_getElem hi] at h ⊢
  exact h
section
variable {P : Program} {call : Callee} {all : List Oper} {N : Nat} {ms : List Nat} {rs : List Rc} {t0 : Tm} {h0 : Hp} {c0 : Nat} {tF : Tm} {hF : Hp} {cF : Nat} {pF : Pend}
variable {ρ0 ρ : Rn} {w0 w : World} {a0 a : Act} {q : Nat} {ls : Array Bool}
theorem Cxt.pflInj (X : Cxt P call N all ms rs t0 h0 c0 tF hF cF pF) (ls : Array Bool) (q : Nat) : NmInj (pfl ms rs ls q) := fun x hx y hy e => X.T.nm X.call (pfl_mem.1 hx).1 (pfl_mem.1 hy).1 e
/-- the same frontier, said otherwise -/
theorem Cxt.front (X : Cxt P call N all ms rs t0 h0 c0 tF hF cF pF) {q q' : Nat} (hq : q ≤ q') (hn : q' ≤ all.length) (no : ∀ (p : Nat) (r : Rc), rs[p]? = some r → isHk r.kd = true → q ≤ p → p < q' → False) :
    stg rs hF q = stg rs hF q' ∧ ∀ j, Unabs ms rs q j ↔ Unabs ms rs q' j := by
  refine ⟨?_, fun j => ⟨fun h p rp m h1 h2 h3 h4 => ?_, fun h p rp m h1 h2 h3 h4 => h p rp m h1 h2 (by omega) h4⟩⟩
  · have hlen := X.T.len
    rcases Nat.lt_or_ge q' all.length with hlt | hge
    · have hq' : rs[q']? = some rs[q'] := List.getElem?_eq_getElem (by omega)
      obtain ⟨o, m, pk, pk', _, _, T', _⟩ := X.T.sub q' _ hq'
      have := T'.stage q hq fun p r hp hr => by
        have hpq : p < q' := by
          have := (List.getElem?_eq_some_iff.1 hr).1
          simp at this
          omega
        rw [List.getElem?_take_of_lt hpq] at hr
        cases hk : isHk r.kd with
        | false => rfl
        | true => exact (no p r hr hk hp hpq).elim
      have e2 : stg rs hF q' = rs[q'].s := by unfold stg; rw [hq']
      rw [e2, ← this]
      unfold stg
      rcases Nat.lt_or_ge q q' with hl | hg
      · rw [List.getElem?_take_of_lt hl, List.getElem?_eq_getElem (by omega)]
      · have : q = q' := by omega
        subst this
        rw [hq', List.getElem?_eq_none (by simp; omega)]
    · have hqe : q' = all.length := by omega
      subst hqe
      have := X.T.stage q hq fun p r hp hr => by
        cases hk : isHk r.kd with
        | false => rfl
        | true => exact (no p r hr hk hp (by have := (List.getElem?_eq_some_iff.1 hr).1; omega)).elim
      rw [this]
      unfold stg
      rw [List.getElem?_eq_none (by omega)]
  · rcases Nat.lt_or_ge p q with hpq | hpq
    · exact h p rp m h1 h2 hpq h4
    · exact (no p rp h1 h2 hpq h3).elim
theorem pfl_front {q q' : Nat} (h : ∀ j, Unabs ms rs q j ↔ Unabs ms rs q' j) (x : Nat × Nat × Ob) : x ∈ pfl ms rs ls q ↔ x ∈ pfl ms rs ls q' := by
  rw [pfl_mem, pfl_mem, h]
theorem DI.move (X : Cxt P call N all ms rs t0 h0 c0 tF hF cF pF) (I : DI all ms rs hF N ρ0 h0 c0 w0 cF a0 ρ q ls a w) {q' : Nat} (hn : q' ≤ all.length) (f1 : ∀ (p : Nat) (r : Rc), rs[p]? = some r → isHk r.kd = true → p < q' → ls.getD p false = true)
    (f2 : ∀ (p : Nat) (r : Rc), rs[p]? = some r → isHk r.kd = true → q' ≤ p → ls.getD p false = false) : DI all ms rs hF N ρ0 h0 c0 w0 cF a0 ρ q' ls a w := by
  have key : stg rs hF q = stg rs hF q' ∧ ∀ j, Unabs ms rs q j ↔ Unabs ms rs q' j := by
    rcases Nat.le_total q q' with h | h
    · exact X.front h hn fun p r hr hk h1 h2 => by
        have e1 := f1 p r hr hk h2
        rw [I.fr2 p r hr hk h1] at e1
        cases e1
    · have := X.front h I.qn fun p r hr hk h1 h2 => by
        have e1 := I.fr1 p r hr hk h2
        rw [f2 p r hr hk h1] at e1
        cases e1
      exact ⟨this.1.symm, fun j => (this.2 j).symm⟩
  have hHD : HD ms rs hF ls q = HD ms rs hF ls q' := by
    unfold HD
    rw [key.1]
    exact ovL_ext (X.pflInj _ _) (X.pflInj _ _) (pfl_front key.2)
  exact ⟨I.size, I.closed, f1, f2, hn, hHD ▸ I.ran, fun x hx => by rw [← key.1]; exact I.dj x ((pfl_front key.2 x).2 hx), I.fre, I.tsz, I.defs, I.t1, I.t2⟩
/-- the operands, where all that is waited for is done -/
theorem DI.ev (X : Cxt P call N all ms rs t0 h0 c0 tF hF cF pF) (I : DI all ms rs hF N ρ0 h0 c0 w0 cF a0 ρ q ls a w) (tm0 : TmOK N t0 ρ0 a0) {i : Nat} {o : Oper} {r : Rc} {m : Nat} (ho : all[i]? = some o) (hr : rs[i]? = some r) (hm : ms[i]? = some m)
    (hi : ls.getD i false = false) (hp : ∀ p ∈ preds o, ls.getD p false = true) {s : Nat} (hs : s ∈ reads all o) {v : Value} (hv : r.t.get s = some v) : s < N ∧ Den ρ v (a.tmps.getD s undef) := by
  obtain ⟨_, _, pk, pk', _, _, T', _⟩ := X.T.sub i r hr
  rcases T'.temps X.N s v hv with ⟨j, oj, rj, hj, hoj, hrj, hd, rfl⟩ | ⟨hv0, hno⟩
  · rw [List.getElem?_take_of_lt hj] at hrj
    refine ⟨X.T.dst j oj s (by have := (List.getElem?_eq_some_iff.1 hoj).1; omega) hoj hd, ?_⟩
    have hpair := stat_pair X.S ho hm hj hoj
    have hb : Nat.testBit m j = true := by
      unfold pairOk at hpair
      cases hb : Nat.testBit m j with
      | true => rfl
      | false =>
        rw [hb] at hpair
        simp only [Bool.and_eq_true, Bool.not_eq_true'] at hpair
        have : hasO oj.dst (reads all o) = true := by rw [hd]; exact hasN_mem.2 hs
        rw [hpair.2.1] at this
        cases this
    exact I.t1 j oj rj s hoj hrj (anc_done X.M I.closed i o m ho hm hp j hb) hd
  · obtain ⟨h1, h2⟩ := tm0.2 s v hv0
    refine ⟨h1, ?_⟩
    rw [I.t2 s fun j oj hoj hdone hd => ?_]
    · exact h2.le I.ran.le
    · rcases Nat.lt_trichotomy j i with hlt | rfl | hlt
      · exact hno j oj hlt hoj hd
      · rw [hi] at hdone; cases hdone
      · obtain ⟨mj, hmj⟩ := X.M.get j oj hoj
        have hpair := stat_pair X.S hoj hmj hlt ho
        unfold pairOk at hpair
        cases hb : Nat.testBit mj i with
        | true =>
          have := anc_done' X.M I.closed hoj hmj hdone hb
          rw [hi] at this
          cases this
        | false =>
          rw [hb] at hpair
          simp only [Bool.and_eq_true, Bool.not_eq_true'] at hpair
          have : hasO oj.dst (reads all o) = true := by rw [hd]; exact hasN_mem.2 hs
          rw [hpair.2.2.1] at this
          cases this
theorem want_sound {t : Tm} {o : Oper} {b : Bool} (h : want all t o = some b) {a : Act} {ρ : Rn} (hN : a.tmps.size = N) (m : ∀ s ∈ reads all o, ∀ v, t.get s = some v → s < N ∧ Den ρ v (a.tmps.getD s undef)) : Region.wanted o (yielded all.toArray a.tmps) = b := by
  unfold want at h
  split at h
  · rename_i hg
    injection h with h
    subst h
    unfold Region.wanted
    rw [hg]
  · rename_i j w hg
    simp only [bd_some, nth_eq] at h
    obtain ⟨oj, hj, d, hd, h⟩ := h
    have hrd : d ∈ reads all o := by unfold reads; rw [hg]; simp only [hj, hd]; exact List.mem_cons_self
    have y : ∀ v, t.get d = some v → yielded all.toArray a.tmps j = (match a.tmps.getD d undef with | .bool b => some b | _ => none) := fun v hv => by
      have hlt := (m d hrd v hv).1
      have : a.tmps[d]? = some (a.tmps.getD d undef) := by simp [Array.getD_eq_getD_getElem?, hN, hlt]
      unfold yielded
      simp only [List.getElem?_toArray, hj, hd, Option.bind_eq_bind, Option.bind_some, this]
      cases a.tmps.getD d undef <;> rfl
    split at h
    · rename_i b' hv
      injection h with h
      subst h
      have e := (m d hrd _ hv).2.bool_inv
      unfold Region.wanted
      simp only [hg, y _ hv, e]
      cases b' <;> cases w <;> rfl
    · rename_i l hv
      injection h with h
      subst h
      obtain ⟨l⟩ := l
      obtain ⟨x, e, _⟩ := (m d hrd _ hv).2.tup_inv
      unfold Region.wanted
      simp only [hg, y _ hv, e]
      rfl
    · cases h
/-- the memory is as it must be; the rest of what is to be shown behind an operation -/
theorem DI.done (X : Cxt P call N all ms rs t0 h0 c0 tF hF cF pF) (I : DI all ms rs hF N ρ0 h0 c0 w0 cF a0 ρ q ls a w) {i : Nat} {o : Oper} {r : Rc} {m : Nat} (ho : all[i]? = some o) (hr : rs[i]? = some r) (hm : ms[i]? = some m)
    (hi : ls.getD i true = false) (hp : ∀ p ∈ preds o, ls.getD p false = true) {q' : Nat} {ρ' : Rn} {w' : World} {u : Value} (hn : q' ≤ all.length)
    (f1 : ∀ (p : Nat) (r : Rc), rs[p]? = some r → isHk r.kd = true → p < q' → (ls.setIfInBounds i true).getD p false = true) (f2 : ∀ (p : Nat) (r : Rc), rs[p]? = some r → isHk r.kd = true → q' ≤ p → (ls.setIfInBounds i true).getD p false = false)
    (rn : RanF ρ (HD ms rs hF ls q) r.c w ρ' (HD ms rs hF (ls.setIfInBounds i true) q') r.c' w') (dj : ∀ x ∈ pfl ms rs (ls.setIfInBounds i true) q', (stg rs hF q').get x.2.1 = none) (hu : Den ρ' r.v u) :
    DI all ms rs hF N ρ0 h0 c0 w0 cF a0 ρ' q' (ls.setIfInBounds i true) (a.put o.dst u) w' := by
  obtain ⟨hi', hsz⟩ := getD_both hi
  have cnt := (X.T.count X.call).2 i r hr
  have other : ∀ j, j ≠ i → (ls.setIfInBounds i true).getD j false = ls.getD j false := fun j hj => getD_set_ne (Ne.symm hj) _
  have dd : ∀ (j : Nat) (oj : Oper) (d : Nat), j ≠ i → all[j]? = some oj → oj.dst = some d → o.dst ≠ some d := fun j oj d hj hoj hd => by
    rcases Nat.lt_or_ge j i with hlt | hge
    · have hpair := stat_pair X.S ho hm hlt hoj
      unfold pairOk at hpair
      cases hb : Nat.testBit m j with
      | true => rw [hb] at hpair; simp only [Bool.not_eq_true'] at hpair; exact sameO_of hpair hd
      | false => rw [hb] at hpair; simp only [Bool.and_eq_true, Bool.not_eq_true'] at hpair; exact sameO_of hpair.1 hd
    · obtain ⟨mj, hmj⟩ := X.M.get j oj hoj
      have hpair := stat_pair X.S hoj hmj (by omega) ho
      intro e
      unfold pairOk at hpair
      cases hb : Nat.testBit mj i with
      | true => rw [hb] at hpair; simp only [Bool.not_eq_true'] at hpair; exact sameO_of hpair e hd
      | false => rw [hb] at hpair; simp only [Bool.and_eq_true, Bool.not_eq_true'] at hpair; exact sameO_of hpair.1 e hd
  have put_ne : ∀ d, o.dst ≠ some d → (a.put o.dst u).tmps.getD d undef = a.tmps.getD d undef := fun d hd => by
    cases hdd : o.dst with
    | none => rfl
    | some k =>
      have hk : k ≠ d := fun e => hd (by rw [hdd, e])
      simp [Act.put, Array.getD_eq_getD_getElem?, Array.getElem?_setIfInBounds_ne hk]
  refine ⟨by simp [I.size], fun j oj hoj hj p hpj => ?_, f1, f2, hn, I.ran.trans2 rn cnt.1 cnt.2.2, dj, fun j rj hrj hj => ?_, ?_, ?_, fun j oj rj d hoj hrj hj hd => ?_, fun d hd => ?_⟩
  · by_cases hji : j = i
    · subst hji
      rw [ho] at hoj
      injection hoj with hoj
      subst hoj
      have := X.M.low j o ho p hpj
      rw [other p (by omega)]
      exact hp p hpj
    · rw [other j hji] at hj
      have := I.closed j oj hoj hj p hpj
      by_cases hpi : p = i
      · subst hpi; exact getD_set_self hsz _
      · rw [other p hpi]; exact this
  · by_cases hji : j = i
    · subst hji; rw [getD_set_self hsz] at hj; cases hj
    · rw [other j hji] at hj
      intro n h1 h2
      have hf := I.fre j rj hrj hj n h1 h2
      rw [rn.out n ?_]
      · exact hf
      · rcases Nat.lt_or_ge j i with hlt | hge
        · have := X.T.order X.call hrj hr hlt
          omega
        · have := X.T.order X.call hr hrj (by omega)
          omega
  · cases hd : o.dst <;> simp [Act.put, I.tsz]
  · cases hd : o.dst <;> simp [Act.put, I.defs]
  · by_cases hji : j = i
    · subst hji
      rw [ho] at hoj
      injection hoj with hoj
      subst hoj
      rw [hr] at hrj
      injection hrj with hrj
      subst hrj
      have hdN := X.T.dst j o d (by have := (List.getElem?_eq_some_iff.1 ho).1; omega) ho hd
      have : (a.put o.dst u).tmps.getD d undef = u := by rw [hd]; simp [Act.put, I.tsz, hdN]
      rw [this]
      exact hu
    · rw [other j hji] at hj
      rw [put_ne d (dd j oj d hji hoj hd)]
      exact (I.t1 j oj rj d hoj hrj hj hd).le rn.le
  · have h1 : o.dst ≠ some d := hd i o ho (getD_set_self hsz _)
    rw [put_ne d h1]
    refine I.t2 d fun j oj hoj hj => ?_
    by_cases hji : j = i
    · subst hji; rw [hi'] at hj; cases hj
    · exact hd j oj hoj (by rw [other j hji]; exact hj)
end
end Cx
end Go.Proofs.YtonbjlkmcikbgaaGreatDoor
