/-
  Texts of the proofs, one behind the other: CxK, CxL, CxM, CxN, CxO, CxP, CxQ, CxR, ScO, JoinShelf, ScJ, ScW, OpenFl, OpenRep, ScP, ScL, ScM, ScH, ScI, SyLit, ScAn, ScS, ScA.
-/
import Derived.Test.YteplckkoiffnnaaGreatDoorSaA
import Derived.Defers
import Derived.Recover
import Derived.Test.YteplckkoiffnnaaGreatDoorTintShelf
import Derived.Test.YteplckkoiffnnaaGreatDoorNumLib
import Derived.Shelf.Strings.OnBuilder
import Derived.Ground.SlgnProg
import Derived.Test.YteplckkoiffnnaaGreatDoorProg
import Derived.Test.YteplckkoiffnnaaGreatDoorTintE
import Derived.Test.YteplckkoiffnnaaGreatDoorOpenSl
import Derived.Test.YteplckkoiffnnaaGreatDoorSySl
import Derived.Test.YteplckkoiffnnaaGreatDoorSyBld
import Derived.Deep.Strs
import Derived.ChangeArms
import Derived.Test.YteplckkoiffnnaaGreatDoorHmix
import Derived.Test.YteplckkoiffnnaaGreatDoorSyMore
import Derived.Test.YteplckkoiffnnaaGreatDoorBldS
import Derived.Test.YteplckkoiffnnaaGreatDoorSyPick
import Derived.Test.YteplckkoiffnnaaGreatDoorSyOwn
/-
  Closed runs: a region that draws its order: one operation more.
-/
namespace Go.Proofs.YteplckkoiffnnaaGreatDoor
open Go.RowKit
namespace Cx
set_option linter.unusedVariables false
set_option linter.unusedSimpArgs false

/-- what a region is run with -/
structure Cxt (P : Program) (call : Callee) (N : Nat) (all : List Oper) (ms : List Nat) (rs : List Rc) (t0 : Tm) (h0 : Hp) (c0 : Nat) (tF : Tm) (hF : Hp) (cF : Nat) (pF : Pend) : Prop where
  T : Tra P call N all ms t0 h0 c0 all.length rs tF hF cF pF
  M : Msk all ms
  S : stat all ms = true
  call : CallOK P call
  N : N ≤ cap0
  fl : ∀ (i p : Nat) (o : Oper) (r rp : Rc) (m mp : Nat), all[i]? = some o → rs[i]? = some r → r.kd = .L → rs[p]? = some rp → isHk rp.kd = true → ms[i]? = some m → ms[p]? = some mp → Nat.testBit m p = false → Nat.testBit mp i = false →
    (p < i → ldV P r.t rp.s o = some r.v) ∧ (i < p → ldV P r.t rp.h' o = some r.v)
noncomputable def HD (ms : List Nat) (rs : List Rc) (hF : Hp) (ls : Array Bool) (q : Nat) : HF := ovL (pfl ms rs ls q) (stg rs hF q).get
/-- how far it has come -/
structure DI (all : List Oper) (ms : List Nat) (rs : List Rc) (hF : Hp) (N : Nat) (ρ0 : Rn) (h0 : Hp) (c0 : Nat) (w0 : World) (cF : Nat) (a0 : Act) (ρ : Rn) (q : Nat) (ls : Array Bool) (a : Act) (w : World) : Prop where
  size : ls.size = all.length
  closed : Closed all ls
  fr1 : ∀ (p : Nat) (r : Rc), rs[p]? = some r → isHk r.kd = true → p < q → ls.getD p false = true
  fr2 : ∀ (p : Nat) (r : Rc), rs[p]? = some r → isHk r.kd = true → q ≤ p → ls.getD p false = false
  qn : q ≤ all.length
  ran : RanF ρ0 h0.get c0 w0 ρ (HD ms rs hF ls q) cF w
  dj : ∀ x ∈ pfl ms rs ls q, (stg rs hF q).get x.2.1 = none
  fre : ∀ (j : Nat) (r : Rc), rs[j]? = some r → ls.getD j false = false → Free ρ r.c r.c'
  tsz : a.tmps.size = N
  defs : a.defers = a0.defers
  t1 : ∀ (j : Nat) (oj : Oper) (rj : Rc) (d : Nat), all[j]? = some oj → rs[j]? = some rj → ls.getD j false = true → oj.dst = some d → Den ρ rj.v (a.tmps.getD d undef)
  t2 : ∀ d, (∀ (j : Nat) (oj : Oper), all[j]? = some oj → ls.getD j false = true → oj.dst ≠ some d) → a.tmps.getD d undef = a0.tmps.getD d undef

theorem getD_set_self {ls : Array Bool} {i : Nat} (h : i < ls.size) (d : Bool) : (ls.setIfInBounds i true).getD i d = true := by simp [h]
theorem getD_set_ne {ls : Array Bool} {i j : Nat} (h : i ≠ j) (d : Bool) : (ls.setIfInBounds i true).getD j d = ls.getD j d := by
  simp [Array.getD_eq_getD_getElem?, Array.getElem?_setIfInBounds_ne h]
theorem getD_both {ls : Array Bool} {i : Nat} (h : ls.getD i true = false) : ls.getD i false = false ∧ i < ls.size := by
  have hi : i < ls.size := by
    rcases Nat.lt_or_ge i ls.size with c | c
    · exact c
    · rw [Array.getD_eq_getD_getElem?, Array.getElem?_eq_none c] at h; cases h
  refine ⟨?_, hi⟩
  rw [Array.getD_eq_getD_getElem?, Array.getElem?_eq_getElem hi] at h ⊢
  exact h
section
variable {P : Program} {call : Callee} {all : List Oper} {N : Nat} {ms : List Nat} {rs : List Rc} {t0 : Tm} {h0 : Hp} {c0 : Nat} {tF : Tm} {hF : Hp} {cF : Nat} {pF : Pend}
variable {ρ0 ρ : Rn} {w0 w : World} {a0 a : Act} {q : Nat} {ls : Array Bool}
theorem Cxt.pflInj (X : Cxt P call N all ms rs t0 h0 c0 tF hF cF pF) (ls : Array Bool) (q : Nat) : NmInj (pfl ms rs ls q) := fun x hx y hy e => X.T.nm X.call (pfl_mem.1 hx).1 (pfl_mem.1 hy).1 e
/-- the same frontier, said otherwise -/
theorem Cxt.front (X : Cxt P call N all ms rs t0 h0 c0 tF hF cF pF) {q q' : Nat} (hq : q ≤ q') (hn : q' ≤ all.length) (no : ∀ (p : Nat) (r : Rc), rs[p]? = some r → isHk r.kd = true → q ≤ p → p < q' → False) :
    stg rs hF q = stg rs hF q' ∧ ∀ j, Unabs ms rs q j ↔ Unabs ms rs q' j := by
  refine ⟨?_, fun j => ⟨fun h p rp m h1 h2 h3 h4 => ?_, fun h p rp m h1 h2 h3 h4 => h p rp m h1 h2 (by omega) h4⟩⟩
  · have hlen := X.T.len
    rcases Nat.lt_or_ge q' all.length with hlt | hge
    · have hq' : rs[q']? = some rs[q'] := List.getElem?_eq_getElem (by omega)
      obtain ⟨o, m, pk, pk', _, _, T', _⟩ := X.T.sub q' _ hq'
      have := T'.stage q hq fun p r hp hr => by
        have hpq : p < q' := by
          have := (List.getElem?_eq_some_iff.1 hr).1
          simp at this
          omega
        rw [List.getElem?_take_of_lt hpq] at hr
        cases hk : isHk r.kd with
        | false => rfl
        | true => exact (no p r hr hk hp hpq).elim
      have e2 : stg rs hF q' = rs[q'].s := by unfold stg; rw [hq']
      rw [e2, ← this]
      unfold stg
      rcases Nat.lt_or_ge q q' with hl | hg
      · rw [List.getElem?_take_of_lt hl, List.getElem?_eq_getElem (by omega)]
      · have : q = q' := by omega
        subst this
        rw [hq', List.getElem?_eq_none (by simp; omega)]
    · have hqe : q' = all.length := by omega
      subst hqe
      have := X.T.stage q hq fun p r hp hr => by
        cases hk : isHk r.kd with
        | false => rfl
        | true => exact (no p r hr hk hp (by have := (List.getElem?_eq_some_iff.1 hr).1; omega)).elim
      rw [this]
      unfold stg
      rw [List.getElem?_eq_none (by omega)]
  · rcases Nat.lt_or_ge p q with hpq | hpq
    · exact h p rp m h1 h2 hpq h4
    · exact (no p rp h1 h2 hpq h3).elim
theorem pfl_front {q q' : Nat} (h : ∀ j, Unabs ms rs q j ↔ Unabs ms rs q' j) (x : Nat × Nat × Ob) : x ∈ pfl ms rs ls q ↔ x ∈ pfl ms rs ls q' := by
  rw [pfl_mem, pfl_mem, h]
theorem DI.move (X : Cxt P call N all ms rs t0 h0 c0 tF hF cF pF) (I : DI all ms rs hF N ρ0 h0 c0 w0 cF a0 ρ q ls a w) {q' : Nat} (hn : q' ≤ all.length) (f1 : ∀ (p : Nat) (r : Rc), rs[p]? = some r → isHk r.kd = true → p < q' → ls.getD p false = true)
    (f2 : ∀ (p : Nat) (r : Rc), rs[p]? = some r → isHk r.kd = true → q' ≤ p → ls.getD p false = false) : DI all ms rs hF N ρ0 h0 c0 w0 cF a0 ρ q' ls a w := by
  have key : stg rs hF q = stg rs hF q' ∧ ∀ j, Unabs ms rs q j ↔ Unabs ms rs q' j := by
    rcases Nat.le_total q q' with h | h
    · exact X.front h hn fun p r hr hk h1 h2 => by
        have e1 := f1 p r hr hk h2
        rw [I.fr2 p r hr hk h1] at e1
        cases e1
    · have := X.front h I.qn fun p r hr hk h1 h2 => by
        have e1 := I.fr1 p r hr hk h2
        rw [f2 p r hr hk h1] at e1
        cases e1
      exact ⟨this.1.symm, fun j => (this.2 j).symm⟩
  have hHD : HD ms rs hF ls q = HD ms rs hF ls q' := by
    unfold HD
    rw [key.1]
    exact ovL_ext (X.pflInj _ _) (X.pflInj _ _) (pfl_front key.2)
  exact ⟨I.size, I.closed, f1, f2, hn, hHD ▸ I.ran, fun x hx => by rw [← key.1]; exact I.dj x ((pfl_front key.2 x).2 hx), I.fre, I.tsz, I.defs, I.t1, I.t2⟩
/-- the operands, where all that is waited for is done -/
theorem DI.ev (X : Cxt P call N all ms rs t0 h0 c0 tF hF cF pF) (I : DI all ms rs hF N ρ0 h0 c0 w0 cF a0 ρ q ls a w) (tm0 : TmOK N t0 ρ0 a0) {i : Nat} {o : Oper} {r : Rc} {m : Nat} (ho : all[i]? = some o) (hr : rs[i]? = some r) (hm : ms[i]? = some m)
    (hi : ls.getD i false = false) (hp : ∀ p ∈ preds o, ls.getD p false = true) {s : Nat} (hs : s ∈ reads all o) {v : Value} (hv : r.t.get s = some v) : s < N ∧ Den ρ v (a.tmps.getD s undef) := by
  obtain ⟨_, _, pk, pk', _, _, T', _⟩ := X.T.sub i r hr
  rcases T'.temps X.N s v hv with ⟨j, oj, rj, hj, hoj, hrj, hd, rfl⟩ | ⟨hv0, hno⟩
  · rw [List.getElem?_take_of_lt hj] at hrj
    refine ⟨X.T.dst j oj s (by have := (List.getElem?_eq_some_iff.1 hoj).1; omega) hoj hd, ?_⟩
    have hpair := stat_pair X.S ho hm hj hoj
    have hb : Nat.testBit m j = true := by
      unfold pairOk at hpair
      cases hb : Nat.testBit m j with
      | true => rfl
      | false =>
        rw [hb] at hpair
        simp only [Bool.and_eq_true, Bool.not_eq_true'] at hpair
        have : hasO oj.dst (reads all o) = true := by rw [hd]; exact hasN_mem.2 hs
        rw [hpair.2.1] at this
        cases this
    exact I.t1 j oj rj s hoj hrj (anc_done X.M I.closed i o m ho hm hp j hb) hd
  · obtain ⟨h1, h2⟩ := tm0.2 s v hv0
    refine ⟨h1, ?_⟩
    rw [I.t2 s fun j oj hoj hdone hd => ?_]
    · exact h2.le I.ran.le
    · rcases Nat.lt_trichotomy j i with hlt | rfl | hlt
      · exact hno j oj hlt hoj hd
      · rw [hi] at hdone; cases hdone
      · obtain ⟨mj, hmj⟩ := X.M.get j oj hoj
        have hpair := stat_pair X.S hoj hmj hlt ho
        unfold pairOk at hpair
        cases hb : Nat.testBit mj i with
        | true =>
          have := anc_done' X.M I.closed hoj hmj hdone hb
          rw [hi] at this
          cases this
        | false =>
          rw [hb] at hpair
          simp only [Bool.and_eq_true, Bool.not_eq_true'] at hpair
          have : hasO oj.dst (reads all o) = true := by rw [hd]; exact hasN_mem.2 hs
          rw [hpair.2.2.1] at this
          cases this
theorem want_sound {t : Tm} {o : Oper} {b : Bool} (h : want all t o = some b) {a : Act} {ρ : Rn} (hN : a.tmps.size = N) (m : ∀ s ∈ reads all o, ∀ v, t.get s = some v → s < N ∧ Den ρ v (a.tmps.getD s undef)) : Region.wanted o (yielded all.toArray a.tmps) = b := by
  unfold want at h
  split at h
  · rename_i hg
    injection h with h
    subst h
    unfold Region.wanted
    rw [hg]
  · rename_i j w hg
    simp only [bd_some, nth_eq] at h
    obtain ⟨oj, hj, d, hd, h⟩ := h
    have hrd : d ∈ reads all o := by unfold reads; rw [hg]; simp only [hj, hd]; exact List.mem_cons_self
    have y : ∀ v, t.get d = some v → yielded all.toArray a.tmps j = (match a.tmps.getD d undef with | .bool b => some b | _ => none) := fun v hv => by
      have hlt := (m d hrd v hv).1
      have : a.tmps[d]? = some (a.tmps.getD d undef) := by simp [Array.getD_eq_getD_getElem?, hN, hlt]
      unfold yielded
      simp only [List.getElem?_toArray, hj, hd, Option.bind_eq_bind, Option.bind_some, this]
      cases a.tmps.getD d undef <;> rfl
    split at h
    · rename_i b' hv
      injection h with h
      subst h
      have e := (m d hrd _ hv).2.bool_inv
      unfold Region.wanted
      simp only [hg, y _ hv, e]
      cases b' <;> cases w <;> rfl
    · rename_i l hv
      injection h with h
      subst h
      obtain ⟨l⟩ := l
      obtain ⟨x, e, _⟩ := (m d hrd _ hv).2.tup_inv
      unfold Region.wanted
      simp only [hg, y _ hv, e]
      rfl
    · cases h
/-- the memory is as it must be; the rest of what is to be shown behind an operation -/
theorem DI.done (X : Cxt P call N all ms rs t0 h0 c0 tF hF cF pF) (I : DI all ms rs hF N ρ0 h0 c0 w0 cF a0 ρ q ls a w) {i : Nat} {o : Oper} {r : Rc} {m : Nat} (ho : all[i]? = some o) (hr : rs[i]? = some r) (hm : ms[i]? = some m)
    (hi : ls.getD i true = false) (hp : ∀ p ∈ preds o, ls.getD p false = true) {q' : Nat} {ρ' : Rn} {w' : World} {u : Value} (hn : q' ≤ all.length)
    (f1 : ∀ (p : Nat) (r : Rc), rs[p]? = some r → isHk r.kd = true → p < q' → (ls.setIfInBounds i true).getD p false = true) (f2 : ∀ (p : Nat) (r : Rc), rs[p]? = some r → isHk r.kd = true → q' ≤ p → (ls.setIfInBounds i true).getD p false = false)
    (rn : RanF ρ (HD ms rs hF ls q) r.c w ρ' (HD ms rs hF (ls.setIfInBounds i true) q') r.c' w') (dj : ∀ x ∈ pfl ms rs (ls.setIfInBounds i true) q', (stg rs hF q').get x.2.1 = none) (hu : Den ρ' r.v u) :
    DI all ms rs hF N ρ0 h0 c0 w0 cF a0 ρ' q' (ls.setIfInBounds i true) (a.put o.dst u) w' := by
  obtain ⟨hi', hsz⟩ := getD_both hi
  have cnt := (X.T.count X.call).2 i r hr
  have other : ∀ j, j ≠ i → (ls.setIfInBounds i true).getD j false = ls.getD j false := fun j hj => getD_set_ne (Ne.symm hj) _
  have dd : ∀ (j : Nat) (oj : Oper) (d : Nat), j ≠ i → all[j]? = some oj → oj.dst = some d → o.dst ≠ some d := fun j oj d hj hoj hd => by
    rcases Nat.lt_or_ge j i with hlt | hge
    · have hpair := stat_pair X.S ho hm hlt hoj
      unfold pairOk at hpair
      cases hb : Nat.testBit m j with
      | true => rw [hb] at hpair; simp only [Bool.not_eq_true'] at hpair; exact sameO_of hpair hd
      | false => rw [hb] at hpair; simp only [Bool.and_eq_true, Bool.not_eq_true'] at hpair; exact sameO_of hpair.1 hd
    · obtain ⟨mj, hmj⟩ := X.M.get j oj hoj
      have hpair := stat_pair X.S hoj hmj (by omega) ho
      intro e
      unfold pairOk at hpair
      cases hb : Nat.testBit mj i with
      | true => rw [hb] at hpair; simp only [Bool.not_eq_true'] at hpair; exact sameO_of hpair e hd
      | false => rw [hb] at hpair; simp only [Bool.and_eq_true, Bool.not_eq_true'] at hpair; exact sameO_of hpair.1 e hd
  have put_ne : ∀ d, o.dst ≠ some d → (a.put o.dst u).tmps.getD d undef = a.tmps.getD d undef := fun d hd => by
    cases hdd : o.dst with
    | none => rfl
    | some k =>
      have hk : k ≠ d := fun e => hd (by rw [hdd, e])
      simp [Act.put, Array.getD_eq_getD_getElem?, Array.getElem?_setIfInBounds_ne hk]
  refine ⟨by simp [I.size], fun j oj hoj hj p hpj => ?_, f1, f2, hn, I.ran.trans2 rn cnt.1 cnt.2.2, dj, fun j rj hrj hj => ?_, ?_, ?_, fun j oj rj d hoj hrj hj hd => ?_, fun d hd => ?_⟩
  · by_cases hji : j = i
    · subst hji
      rw [ho] at hoj
      injection hoj with hoj
      subst hoj
      have := X.M.low j o ho p hpj
      rw [other p (by omega)]
      exact hp p hpj
    · rw [other j hji] at hj
      have := I.closed j oj hoj hj p hpj
      by_cases hpi : p = i
      · subst hpi; exact getD_set_self hsz _
      · rw [other p hpi]; exact this
  · by_cases hji : j = i
    · subst hji; rw [getD_set_self hsz] at hj; cases hj
    · rw [other j hji] at hj
      intro n h1 h2
      have hf := I.fre j rj hrj hj n h1 h2
      rw [rn.out n ?_]
      · exact hf
      · rcases Nat.lt_or_ge j i with hlt | hge
        · have := X.T.order X.call hrj hr hlt
          omega
        · have := X.T.order X.call hr hrj (by omega)
          omega
  · cases hd : o.dst <;> simp [Act.put, I.tsz]
  · cases hd : o.dst <;> simp [Act.put, I.defs]
  · by_cases hji : j = i
    · subst hji
      rw [ho] at hoj
      injection hoj with hoj
      subst hoj
      rw [hr] at hrj
      injection hrj with hrj
      subst hrj
      have hdN := X.T.dst j o d (by have := (List.getElem?_eq_some_iff.1 ho).1; omega) ho hd
      have : (a.put o.dst u).tmps.getD d undef = u := by rw [hd]; simp [Act.put, I.tsz, hdN]
      rw [this]
      exact hu
    · rw [other j hji] at hj
      rw [put_ne d (dd j oj d hji hoj hd)]
      exact (I.t1 j oj rj d hoj hrj hj hd).le rn.le
  · have h1 : o.dst ≠ some d := hd i o ho (getD_set_self hsz _)
    rw [put_ne d h1]
    refine I.t2 d fun j oj hoj hj => ?_
    by_cases hji : j = i
    · subst hji; rw [hi'] at hj; cases hj
    · exact hd j oj hoj (by rw [other j hji]; exact hj)
end
end Cx
end Go.Proofs.YteplckkoiffnnaaGreatDoor

/-
  Closed runs: a region that draws its order: each operation that may come up next.
-/
namespace Go.Proofs.YteplckkoiffnnaaGreatDoor
open Go.RowKit
namespace Cx
set_option linter.unusedVariables false
set_option linter.unusedSimpArgs false

theorem least_of {R : Nat → Prop} {a : Nat} : ∀ (n : Nat), (∃ p, a ≤ p ∧ p < a + n ∧ R p) → ∃ p, a ≤ p ∧ p < a + n ∧ R p ∧ ∀ x, a ≤ x → x < p → ¬ R x
  | 0, ⟨p, h1, h2, _⟩ => by omega
  | n + 1, ⟨p, h1, h2, h3⟩ => by
    by_cases c : ∃ p, a ≤ p ∧ p < a + n ∧ R p
    · obtain ⟨x, x1, x2, x3, x4⟩ := least_of n c
      exact ⟨x, x1, by omega, x3, x4⟩
    · refine ⟨p, h1, h2, h3, fun x hx hxp hr => c ⟨x, hx, by omega, hr⟩⟩
theorem greatest_of {R : Nat → Prop} {b : Nat} : ∀ (n : Nat), (∃ p, b ≤ p + n ∧ p < b ∧ R p) → ∃ p, b ≤ p + n ∧ p < b ∧ R p ∧ ∀ x, p < x → x < b → ¬ R x
  | 0, ⟨p, h1, h2, _⟩ => by omega
  | n + 1, ⟨p, h1, h2, h3⟩ => by
    by_cases c : ∃ p, b ≤ p + n ∧ p < b ∧ R p
    · obtain ⟨x, x1, x2, x3, x4⟩ := greatest_of n c
      exact ⟨x, by omega, x2, x3, x4⟩
    · exact ⟨p, h1, h2, h3, fun x hx hxp hr => c ⟨x, by omega, hxp, hr⟩⟩
theorem ldV_op {P : Program} {t : Tm} {h : Hp} {c : Nat} {o : Oper} {v : Value} (e : ldV P t h o = some v) : opV P t h c o = some (.val v h c) := by
  unfold ldV at e
  split at e
  · rename_i te x ho
    simp only [bd_some] at e
    obtain ⟨ad, h1, ob, h2, h3⟩ := e
    show disp o.op P t h c o = _
    rw [ho]
    show opLoad P t h c te x = _
    simp [opLoad, h1, h2, h3, bd_mk]
  · cases e
theorem newV_lf {c : Nat} {b : Ob} {q : Hp × Nat} (e : newV .lf c b = some q) (n : Nat) : q.1.get n = if n = c then some b else none := by
  obtain ⟨hc, rfl⟩ := newV_some e
  rw [Tr.put _ _ _ hc]
  rfl
/-- a new object alone -/
theorem single {P : Program} {t : Tm} {c : Nat} {o : Oper} {v : Value} {h1 : Hp} {c2 : Nat} (hk : kindOp o.op = .N) (e : opV P t .lf c o = some (.val v h1 c2)) : ∃ b, ∀ n, h1.get n = if n = c then some b else none := by
  have e : disp o.op P t .lf c o = some (.val v h1 c2) := e
  cases ho : o.op with
  | alloc te =>
    rw [ho] at e
    have e : opAlloc P t .lf c te = some (.val v h1 c2) := e
    simp only [opAlloc, bd_some, Option.some.injEq, OR.val.injEq] at e
    obtain ⟨z, _, q, hq, _, rfl, _⟩ := e
    exact ⟨_, newV_lf hq⟩
  | box te x =>
    rw [ho] at e
    have e : opBox t .lf c te x = some (.val v h1 c2) := e
    simp only [opBox, bd_some, Option.some.injEq, OR.val.injEq] at e
    obtain ⟨z, _, q, hq, _, rfl, _⟩ := e
    exact ⟨_, newV_lf hq⟩
  | buildSlice te n ps =>
    rw [ho] at e
    have e : opLit P t .lf c te n ps.toList = some (.val v h1 c2) := e
    simp only [opLit, bd_some, gd_some, forceL_eq, Option.some.injEq, OR.val.injEq] at e
    obtain ⟨_, _, _, _, _, _, _, _, _, _, _, q, hq, _, rfl, _⟩ := e
    exact ⟨_, newV_lf hq⟩
  | makeSlice te x y =>
    rw [ho] at e
    have e : opMake P t .lf c te x y = some (.val v h1 c2) := e
    simp only [opMake, bd_some, gd_some, forceL_eq, Option.some.injEq, OR.val.injEq] at e
    obtain ⟨_, _, _, _, _, _, _, _, _, _, _, q, hq, _, rfl, _⟩ := e
    exact ⟨_, newV_lf hq⟩
  | call k =>
    rw [ho] at hk
    simp only [kindOp] at hk
    split at hk
    · split at hk <;> cases hk
    · cases hk
  | _ => rw [ho] at hk; cases hk
section
variable {P : Program} {call : Callee} {all : List Oper} {N : Nat} {ms : List Nat} {rs : List Rc} {t0 : Tm} {h0 : Hp} {c0 : Nat} {tF : Tm} {hF : Hp} {cF : Nat} {pF : Pend}
variable {ρ0 ρ : Rn} {w0 w : World} {a0 a : Act} {q : Nat} {ls : Array Bool}
theorem pfl_same {i : Nat} {r : Rc} (hr : rs[i]? = some r) (hk : r.kd ≠ .N) (q : Nat) (x : Nat × Nat × Ob) : x ∈ pfl ms rs (ls.setIfInBounds i true) q ↔ x ∈ pfl ms rs ls q := by
  rw [pfl_mem, pfl_mem]
  by_cases hx : x.1 = i
  · have : ¬ IsN rs x := fun ⟨r', h1, h2, _⟩ => by
      rw [hx, hr] at h1
      injection h1 with h1
      subst h1
      exact hk h2
    exact ⟨fun h => absurd h.1 this, fun h => absurd h.1 this⟩
  · rw [getD_set_ne (Ne.symm hx)]
/-- what the next one runs on, beside what it does not see -/
theorem HD_split (X : Cxt P call N all ms rs t0 h0 c0 tF hF cF pF) (ls : Array Bool) (q : Nat) : HD ms rs hF ls q = ov (ovL (pfl ms rs ls q) fun _ => none) (stg rs hF q).get := by
  funext n
  unfold HD ov
  rcases ovL_cases (stg rs hF q).get (X.pflInj ls q) n with ⟨x, hx, rfl, e⟩ | ⟨hn, e⟩
  · rw [e, ovL_in (X.pflInj ls q) hx]
  · rw [e, ovL_out hn]
theorem lf_none (h : HF) : ov h (Tr.get (Tr.lf : Hp)) = h := by
  funext n
  unfold ov
  cases h n <;> rfl
/-- the stage at which a load may come up shows it the same -/
theorem DI.load (X : Cxt P call N all ms rs t0 h0 c0 tF hF cF pF) (I : DI all ms rs hF N ρ0 h0 c0 w0 cF a0 ρ q ls a w) {i : Nat} {o : Oper} {r : Rc} {m : Nat} (ho : all[i]? = some o) (hr : rs[i]? = some r) (hm : ms[i]? = some m)
    (hi : ls.getD i false = false) (hp : ∀ p ∈ preds o, ls.getD p false = true) (hk : r.kd = .L) (hv : ldV P r.t r.s o = some r.v) : ldV P r.t (stg rs hF q) o = some r.v := by
  have hlen := X.T.len
  have hin : i < all.length := (List.getElem?_eq_some_iff.1 ho).1
  have stp : ∀ (p : Nat) (rp : Rc), rs[p]? = some rp → stg rs hF p = rp.s := fun p rp h => by unfold stg; rw [h]
  let R := fun (p : Nat) => ∃ rp : Rc, rs[p]? = some rp ∧ isHk rp.kd = true
  have unord : ∀ (p : Nat) (rp : Rc), rs[p]? = some rp → isHk rp.kd = true → ∃ mp : Nat, ms[p]? = some mp ∧ ((p < i → ls.getD p false = false → Nat.testBit m p = false ∧ Nat.testBit mp i = false) ∧ (i < p → ls.getD p false = true → Nat.testBit m p = false ∧ Nat.testBit mp i = false)) := by
    intro p rp hrp hkp
    have hpl : p < all.length := by have := (List.getElem?_eq_some_iff.1 hrp).1; omega
    obtain ⟨mp, hmp⟩ := X.M.get p _ (List.getElem?_eq_getElem hpl)
    refine ⟨mp, hmp, fun h1 h2 => ⟨?_, ?_⟩, fun h1 h2 => ⟨?_, ?_⟩⟩
    · cases hb : Nat.testBit m p with
      | false => rfl
      | true => rw [anc_done X.M I.closed i o m ho hm hp p hb] at h2; cases h2
    · cases hb : Nat.testBit mp i with
      | false => rfl
      | true => have := bit_lt X.M p mp hmp i hb; omega
    · cases hb : Nat.testBit m p with
      | false => rfl
      | true => have := bit_lt X.M i m hm p hb; omega
    · cases hb : Nat.testBit mp i with
      | false => rfl
      | true => rw [anc_done' X.M I.closed (List.getElem?_eq_getElem hpl) hmp h2 hb] at hi; cases hi
  rcases Nat.le_total q i with hqi | hqi
  · by_cases c : ∃ p, q ≤ p ∧ p < q + (i - q) ∧ R p
    · obtain ⟨p, p1, p2, ⟨rp, hrp, hkp⟩, hno⟩ := least_of (i - q) c
      have hpi : p < i := by omega
      have := (X.front p1 (by omega) fun x rx hx hkx x1 x2 => hno x x1 x2 ⟨rx, hx, hkx⟩).1
      rw [this, stp p rp hrp]
      obtain ⟨mp, hmp, h1, _⟩ := unord p rp hrp hkp
      obtain ⟨b1, b2⟩ := h1 hpi (I.fr2 p rp hrp hkp p1)
      exact (X.fl i p o r rp m mp ho hr hk hrp hkp hm hmp b1 b2).1 hpi
    · have := (X.front hqi (by omega) fun x rx hx hkx x1 x2 => c ⟨x, x1, by omega, rx, hx, hkx⟩).1
      rw [this, stp i r hr]
      exact hv
  · by_cases c : ∃ p, q ≤ p + (q - i) ∧ p < q ∧ R p
    · obtain ⟨p, p1, p2, ⟨rp, hrp, hkp⟩, hno⟩ := greatest_of (q - i) c
      have hpi : i < p := by
        rcases Nat.lt_or_ge i p with h | h
        · exact h
        · have : p = i := by omega
          subst this
          rw [hr] at hrp
          injection hrp with hrp
          subst hrp
          rw [hk] at hkp
          cases hkp
      have := (X.front (q := p + 1) (q' := q) (by omega) I.qn fun x rx hx hkx x1 x2 => hno x (by omega) x2 ⟨rx, hx, hkx⟩).1
      rw [← this, (X.T.next p rp hrp).1]
      have : rp.next = rp.h' := by rw [Rc.next_eq, hkp]
      rw [this]
      obtain ⟨mp, hmp, _, h1⟩ := unord p rp hrp hkp
      obtain ⟨b1, b2⟩ := h1 hpi (I.fr1 p rp hrp hkp p2)
      exact (X.fl i p o r rp m mp ho hr hk hrp hkp hm hmp b1 b2).2 hpi
    · have := (X.front hqi I.qn fun x rx hx hkx x1 x2 => c ⟨x, by omega, x2, rx, hx, hkx⟩).1
      rw [← this, stp i r hr]
      exact hv
theorem lay_lf {ρ : Rn} {w : World} : Lay ρ .lf w := ⟨(fun n o e => by cases e), fun n m o o' x y e => by cases e⟩
theorem upon_val {o : Oper} {a : Act} {w w' : World} {n : Next} {u : Value} {K : Act → World → Prop} {Q : Exit → Act → World → Prop} (hrun : (execOp a.eval o).run P w = .ok n w') (hn : n = .value u ∨ (n = .skip ∧ u = undef)) (k : K (a.put o.dst u) w') : o.wp P a w K Q := by
  unfold Oper.wp
  rw [hrun]
  rcases hn with rfl | ⟨rfl, rfl⟩
  · exact k
  · exact k
/-- whatever comes up next -/
theorem DI.step (X : Cxt P call N all ms rs t0 h0 c0 tF hF cF pF) (I : DI all ms rs hF N ρ0 h0 c0 w0 cF a0 ρ q ls a w) (tm0 : TmOK N t0 ρ0 a0) (g0 : GOK ρ0) {i : Nat} (hrd : i ∈ Region.ready .any all.toArray ls) (Q : Exit → Act → World → Prop) :
    wpOp P all.toArray Q i (fun a' w' => ∃ ρ' q', DI all ms rs hF N ρ0 h0 c0 w0 cF a0 ρ' q' (ls.setIfInBounds i true) a' w') a w := by
  obtain ⟨hun, o, ho, hp⟩ := mem_ready hrd
  obtain ⟨hi, hsz⟩ := getD_both hun
  have hin : i < all.length := (List.getElem?_eq_some_iff.1 ho).1
  obtain ⟨r, hr⟩ : ∃ r, rs[i]? = some r := ⟨rs[i]'(by rw [X.T.len]; exact hin), List.getElem?_eq_getElem (by rw [X.T.len]; exact hin)⟩
  obtain ⟨o', m, pk, pk', ho', hm, T', ok⟩ := X.T.sub i r hr
  rw [ho] at ho'
  injection ho' with ho'
  subst ho'
  have rd : ∀ s ∈ reads all o, ∀ v, r.t.get s = some v → s < N ∧ Den ρ v (a.tmps.getD s undef) := fun s hs v hv => I.ev X tm0 ho hr hm hi hp hs hv
  have ev : EvOK ρ r.t a.eval o.op.operands.toList := fun x hx v hv => ev_sound (g0.le I.ran.le) hv fun k hk hg => (rd k (reads_slots (hk ▸ hx)) v hg).2
  have wn : ∀ {b}, want all r.t o = some b → Region.wanted o (yielded all.toArray a.tmps) = b := fun h => want_sound h I.tsz rd
  have ho2 : all.toArray[i]? = some o := by simpa using ho
  have fri := I.fre i r hr hi
  -- those that turn no memory
  have same : isHk r.kd = false → ∀ {ρ' : Rn} {w' : World} {u : Value}, RanF ρ (HD ms rs hF ls q) r.c w ρ' (HD ms rs hF (ls.setIfInBounds i true) q) r.c' w' → (∀ x ∈ pfl ms rs (ls.setIfInBounds i true) q, (stg rs hF q).get x.2.1 = none) → Den ρ' r.v u →
      DI all ms rs hF N ρ0 h0 c0 w0 cF a0 ρ' q (ls.setIfInBounds i true) (a.put o.dst u) w' := fun hk {ρ' w' u} rn dj hu => by
    have ne : ∀ (p : Nat) (rp : Rc), rs[p]? = some rp → isHk rp.kd = true → i ≠ p := fun p rp h1 h2 e => by
      subst e
      rw [hr] at h1
      injection h1 with h1
      subst h1
      rw [hk] at h2; cases h2
    exact I.done X ho hr hm hun hp I.qn (fun p rp h1 h2 h3 => by rw [getD_set_ne (ne p rp h1 h2)]; exact I.fr1 p rp h1 h2 h3) (fun p rp h1 h2 h3 => by rw [getD_set_ne (ne p rp h1 h2)]; exact I.fr2 p rp h1 h2 h3) rn dj hu
  have hHD : r.kd ≠ .N → HD ms rs hF (ls.setIfInBounds i true) q = HD ms rs hF ls q := fun hk => by
    unfold HD
    exact ovL_ext (X.pflInj _ _) (X.pflInj _ _) (pfl_same hr hk q)
  have hdj : r.kd ≠ .N → ∀ x ∈ pfl ms rs (ls.setIfInBounds i true) q, (stg rs hF q).get x.2.1 = none := fun hk x hx => I.dj x ((pfl_same hr hk q x).1 hx)
  unfold wpOp
  simp only [ho2]
  cases hkd : r.kd with
  | skip =>
    obtain ⟨h1, h2, h3, _⟩ := ok.skip hkd
    rw [wn h1]
    refine ⟨ρ, q, ?_⟩
    refine same (by rw [hkd]; rfl) ?_ (hdj (by rw [hkd]; simp)) (by rw [h2]; exact .flat rfl)
    rw [hHD (by rw [hkd]; simp), h3]
    exact .refl I.ran.lay
  | T =>
    obtain ⟨h1, h2, h3, _⟩ := ok.T hkd
    rw [wn h1]
    left
    obtain ⟨n, u, w', ρ', e1, e2, e3, e4⟩ := (opV_sound h2).2 ρ w a.eval ev lay_lf (fun n n1 n2 => by omega)
    refine upon_val e1 e2 ⟨ρ', q, same (by rw [hkd]; rfl) ?_ (hdj (by rw [hkd]; simp)) e3⟩
    rw [hHD (by rw [hkd]; simp), h3]
    have b := RanF.beside (r := HD ms rs hF ls q) e4 (by rw [lf_none]; exact I.ran.lay) (fun n => .inr rfl)
    rw [lf_none] at b
    exact b
  | L =>
    obtain ⟨h1, h2, h3, _⟩ := ok.L hkd
    rw [wn h1]
    left
    have hv := I.load X ho hr hm hi hp hkd h2
    have lay : Lay ρ (stg rs hF q) w := by
      have := I.ran.lay
      rw [HD_split X] at this
      refine ⟨fun n ob e => ?_, fun n m ob ob' x y e1 e2 => ?_⟩
      · refine this.ob n ob ?_
        have : ovL (pfl ms rs ls q) (fun _ => none) n = none := by
          rw [ovL_out fun x hx e' => ?_]
          have := I.dj x hx
          rw [e', e] at this; cases this
        rw [ov_r this]; exact e
      · have f : ∀ {k ob}, (stg rs hF q).get k = some ob → ov (ovL (pfl ms rs ls q) fun _ => none) (stg rs hF q).get k = some ob := fun {k ob} e => by
          have : ovL (pfl ms rs ls q) (fun _ => none) k = none := by
            rw [ovL_out fun x hx e' => ?_]
            have := I.dj x hx
            rw [e', e] at this; cases this
          rw [ov_r this]; exact e
        exact this.inj n m ob ob' x y (f e1) (f e2)
    obtain ⟨n, u, w', ρ', e1, e2, e3, e4⟩ := (opV_sound (ldV_op (c := r.c) hv)).2 ρ w a.eval ev lay (fun n n1 n2 => by omega)
    refine upon_val e1 e2 ⟨ρ', q, same (by rw [hkd]; rfl) ?_ (hdj (by rw [hkd]; simp)) e3⟩
    rw [hHD (by rw [hkd]; simp), h3, HD_split X]
    refine RanF.beside e4 (by rw [← HD_split X]; exact I.ran.lay) fun n => ?_
    rcases ovL_cases (fun _ => none) (X.pflInj ls q) n with ⟨x, hx, rfl, _⟩ | ⟨_, e⟩
    · exact .inr (I.dj x hx)
    · exact .inl e
  | N =>
    obtain ⟨h1, hkind, h2, h3, ob, hob, _⟩ := ok.N hkd
    rw [wn h1]
    left
    obtain ⟨n, u, w', ρ', e1, e2, e3, e4⟩ := (opV_sound h2).2 ρ w a.eval ev lay_lf (by rw [← h3]; exact fri)
    obtain ⟨b, hb⟩ := single hkind h2
    have hbo : b = ob := by
      have := hb r.c
      rw [if_pos rfl, hob] at this
      injection this with this
      exact this.symm
    subst hbo
    have isn : IsN rs (i, r.c, b) := ⟨r, hr, hkd, rfl, hob⟩
    -- the name is free as yet
    have free : HD ms rs hF ls q r.c = none := by
      cases e : HD ms rs hF ls q r.c with
      | none => rfl
      | some ob' =>
        obtain ⟨x, us, f1, _⟩ := I.ran.lay.ob _ _ e
        rw [fri r.c (Nat.le_refl _) (by omega)] at f1
        cases f1
    have hst : (stg rs hF q).get r.c = none := by
      unfold HD at free
      rcases ovL_cases (stg rs hF q).get (X.pflInj ls q) r.c with ⟨x, hx, _, e⟩ | ⟨_, e⟩
      · rw [e] at free; cases free
      · rw [e] at free; exact free
    have mem : ∀ x, x ∈ pfl ms rs (ls.setIfInBounds i true) q ↔ x = (i, r.c, b) ∨ x ∈ pfl ms rs ls q := fun x => by
      rw [pfl_mem, pfl_mem]
      by_cases hx : x.1 = i
      · constructor
        · rintro ⟨⟨r', g1, g2, g3, g4⟩, _⟩
          left
          rw [hx, hr] at g1
          injection g1 with g1
          subst g1
          obtain ⟨x1, x2, x3⟩ := x
          simp only at hx g3 g4
          rw [hob] at g4
          injection g4 with g4
          rw [hx, g3, g4]
        · rintro (rfl | ⟨_, h, _⟩)
          · refine ⟨isn, getD_set_self hsz _, fun p rp mp g1 g2 g3 g4 => ?_⟩
            cases hbt : Nat.testBit mp i with
            | false => rfl
            | true =>
              have hpl : p < all.length := by have := (List.getElem?_eq_some_iff.1 g1).1; rw [X.T.len] at this; exact this
              have := anc_done' X.M I.closed (List.getElem?_eq_getElem hpl) g4 (I.fr1 p rp g1 g2 g3) hbt
              rw [hi] at this
              cases this
          · rw [hx, hi] at h; cases h
      · rw [getD_set_ne (Ne.symm hx)]
        constructor
        · exact fun h => .inr h
        · rintro (rfl | h)
          · exact absurd rfl hx
          · exact h
    refine upon_val e1 e2 ⟨ρ', q, same (by rw [hkd]; rfl) ?_ (fun x hx => ?_) e3⟩
    · have bs := RanF.beside (r := HD ms rs hF ls q) e4 (by rw [lf_none]; exact I.ran.lay) (fun n => .inr rfl)
      rw [h3]
      refine bs.congr (lf_none _) ?_
      funext n
      by_cases hn : n = r.c
      · subst hn
        rw [ov_r free, hb, if_pos rfl]
        unfold HD
        rw [← ovL_in (h := (stg rs hF q).get) (X.pflInj _ _) ((mem (i, r.c, b)).2 (.inl rfl))]
      · have e0 : ov (HD ms rs hF ls q) r.h'.get n = HD ms rs hF ls q n := by
          unfold ov
          cases HD ms rs hF ls q n with
          | some _ => rfl
          | none => simp only; rw [hb, if_neg hn]
        rw [e0]
        unfold HD
        rcases ovL_cases (stg rs hF q).get (X.pflInj ls q) n with ⟨x, hx, rfl, e⟩ | ⟨hno, e⟩
        · rw [e, ← ovL_in (h := (stg rs hF q).get) (X.pflInj _ _) ((mem x).2 (.inr hx))]
        · rw [e, ovL_out]
          intro x hx
          rcases (mem x).1 hx with rfl | hx
          · exact fun e => hn e.symm
          · exact hno x hx
    · rcases (mem x).1 hx with rfl | hx
      · exact hst
      · exact I.dj x hx
  | H =>
    obtain ⟨h1, hH, hpk, hget, hcase⟩ := ok.H hkd
    rw [wn h1]
    left
    have hop : ∀ (p : Nat) (rp : Rc) (op : Oper), rs[p]? = some rp → isHk rp.kd = true → all[p]? = some op → isH op = true := fun p rp op g1 g2 g3 => by
      obtain ⟨op', m', pk2, pk2', ho', hm', T'', ok'⟩ := X.T.sub p rp g1
      rw [g3] at ho'
      injection ho' with ho'
      subst ho'
      exact (ok'.H (isHk_of g2)).2.1
    have I := I.move X (q' := i) (by omega) (fun p rp g1 g2 g3 => by
      have hpl : p < all.length := by omega
      have hpair := stat_pair X.S ho hm g3 (List.getElem?_eq_getElem hpl)
      cases hb : Nat.testBit m p with
      | true => exact anc_done X.M I.closed i o m ho hm hp p hb
      | false =>
        unfold pairOk at hpair
        rw [hb, hH, hop p rp _ g1 g2 (List.getElem?_eq_getElem hpl)] at hpair
        simp at hpair) (fun p rp g1 g2 g3 => by
      rcases Nat.lt_or_ge i p with hlt | hge
      · have hpl : p < all.length := by have := (List.getElem?_eq_some_iff.1 g1).1; rw [X.T.len] at this; exact this
        obtain ⟨mp, hmp⟩ := X.M.get p _ (List.getElem?_eq_getElem hpl)
        have hpair := stat_pair X.S (List.getElem?_eq_getElem hpl) hmp hlt ho
        cases hb : Nat.testBit mp i with
        | true =>
          cases hd : ls.getD p false with
          | false => rfl
          | true =>
            have := anc_done' X.M I.closed (List.getElem?_eq_getElem hpl) hmp hd hb
            rw [hi] at this
            cases this
        | false =>
          unfold pairOk at hpair
          rw [hb, hH, hop p rp _ g1 g2 (List.getElem?_eq_getElem hpl)] at hpair
          simp at hpair
      · have : p = i := by omega
        rw [this]; exact hi)
    have hst : stg rs hF i = r.s := by unfold stg; rw [hr]
    have pkm : ∀ x, x ∈ pk ↔ IsN (rs.take i) x ∧ Unabs ms (rs.take i) i x.1 := T'.pend_iff X.M
    have isn_iff : ∀ x : Nat × Nat × Ob, x.1 < i → (IsN (rs.take i) x ↔ IsN rs x) := fun x hx => by
      unfold IsN
      rw [List.getElem?_take_of_lt hx]
    have un_iff : ∀ j, Unabs ms (rs.take i) i j ↔ Unabs ms rs i j := fun j =>
      ⟨fun h p rp mp g1 g2 g3 g4 => h p rp mp (by rw [List.getElem?_take_of_lt g3]; exact g1) g2 g3 g4, fun h p rp mp g1 g2 g3 g4 => h p rp mp (by rw [List.getElem?_take_of_lt g3] at g1; exact g1) g2 g3 g4⟩
    -- what it absorbs; what it leaves
    have amem : ∀ x, x ∈ (pk.filter fun x => Nat.testBit m x.1) ↔ x ∈ pfl ms rs ls i ∧ Nat.testBit m x.1 = true := fun x => by
      rw [List.mem_filter, pkm, pfl_mem]
      constructor
      · rintro ⟨⟨h1, h2⟩, h3⟩
        have hx : x.1 < i := by
          obtain ⟨_, g, _⟩ := h1
          have := (List.getElem?_eq_some_iff.1 g).1
          simp at this
          omega
        exact ⟨⟨(isn_iff x hx).1 h1, anc_done X.M I.closed i o m ho hm hp _ h3, (un_iff _).1 h2⟩, h3⟩
      · rintro ⟨⟨h1, _, h2⟩, h3⟩
        have hx := bit_lt X.M i m hm _ h3
        exact ⟨⟨(isn_iff x hx).2 h1, (un_iff _).2 h2⟩, h3⟩
    let A := pk.filter fun x => Nat.testBit m x.1
    let R := (pfl ms rs ls i).filter fun x => !Nat.testBit m x.1
    have rmem : ∀ x, x ∈ R ↔ x ∈ pfl ms rs ls i ∧ Nat.testBit m x.1 = false := fun x => by simp [R]
    have injA : NmInj A := fun x hx y hy e => X.pflInj ls i x ((amem x).1 hx).1 y ((amem y).1 hy).1 e
    have injR : NmInj R := fun x hx y hy e => X.pflInj ls i x ((rmem x).1 hx).1 y ((rmem y).1 hy).1 e
    have hgA : r.h.get = ovL A r.s.get := hget
    have hR : ∀ x ∈ R, r.h.get x.2.1 = none := fun x hx => by
      rw [hgA, ovL_out]
      · have := I.dj x ((rmem x).1 hx).1
        rwa [hst] at this
      · intro y hy e
        have := X.pflInj ls i y ((amem y).1 hy).1 x ((rmem x).1 hx).1 e
        subst this
        have h1 := ((amem y).1 hy).2
        rw [((rmem y).1 hx).2] at h1
        cases h1
    have hov : HD ms rs hF ls i = ov (ovL R fun _ => none) r.h.get := by
      funext n
      unfold HD
      rw [hst]
      rcases ovL_cases r.s.get (X.pflInj ls i) n with ⟨x, hx, rfl, e⟩ | ⟨hno, e⟩
      · rw [e]
        cases hb : Nat.testBit m x.1 with
        | true =>
          have hxA : x ∈ A := (amem x).2 ⟨hx, hb⟩
          rw [ov_r, hgA, ovL_in injA hxA]
          rw [ovL_out fun y hy e' => ?_]
          have := X.pflInj ls i y ((rmem y).1 hy).1 x hx e'
          subst this
          rw [((rmem y).1 hy).2] at hb
          cases hb
        | false =>
          have hxR : x ∈ R := (rmem x).2 ⟨hx, hb⟩
          exact (ov_l (ovL_in injR hxR)).symm
      · rw [e, ov_r, hgA, ovL_out fun x hx => hno x ((amem x).1 hx).1]
        rw [ovL_out fun x hx => hno x ((rmem x).1 hx).1]
    have hsub : ∀ {n ob}, r.h.get n = some ob → HD ms rs hF ls i n = some ob := fun {n ob} e => by
      rw [hov, ov_r, e]
      rw [ovL_out fun x hx e' => ?_]
      have := hR x hx
      rw [e', e] at this; cases this
    have layh : Lay ρ r.h w := ⟨fun n ob e => I.ran.lay.ob n ob (hsub e), fun n k ob ob' x y e1 e2 => I.ran.lay.inj n k ob ob' x y (hsub e1) (hsub e2)⟩
    have hnext : stg rs hF (i + 1) = r.h' := by
      rw [(X.T.next i r hr).1]
      rw [Rc.next_eq, hkd]
      rfl
    have mem' : ∀ x, x ∈ pfl ms rs (ls.setIfInBounds i true) (i + 1) ↔ x ∈ R := fun x => by
      rw [rmem, pfl_mem, pfl_mem]
      have hne : IsN rs x → i ≠ x.1 := fun ⟨r', g1, g2, _⟩ e => by
        rw [← e, hr] at g1
        injection g1 with g1
        subst g1
        rw [hkd] at g2; cases g2
      have un' : Unabs ms rs (i + 1) x.1 ↔ Unabs ms rs i x.1 ∧ Nat.testBit m x.1 = false := by
        constructor
        · exact fun h => ⟨fun p rp mp g1 g2 g3 g4 => h p rp mp g1 g2 (by omega) g4, h i r m hr (by rw [hkd]; rfl) (by omega) hm⟩
        · rintro ⟨g, hb⟩ p rp mp g1 g2 g3 g4
          rcases Nat.lt_or_ge p i with hlt | hge
          · exact g p rp mp g1 g2 hlt g4
          · have : p = i := by omega
            subst this
            rw [hm] at g4
            injection g4 with g4
            subst g4
            exact hb
      constructor
      · rintro ⟨h1, h2, h3⟩
        rw [getD_set_ne (hne h1)] at h2
        exact ⟨⟨h1, h2, (un'.1 h3).1⟩, (un'.1 h3).2⟩
      · rintro ⟨⟨h1, h2, h3⟩, h4⟩
        exact ⟨h1, by rw [getD_set_ne (hne h1)]; exact h2, un'.2 ⟨h3, h4⟩⟩
    have finish : ∀ {ρ' : Rn} {w' : World} {u : Value}, Den ρ' r.v u → Ran ρ r.h r.c w ρ' r.h' r.c' w' → DI all ms rs hF N ρ0 h0 c0 w0 cF a0 ρ' (i + 1) (ls.setIfInBounds i true) (a.put o.dst u) w' := fun {ρ' w' u} hu rn => by
      have bs := RanF.beside (r := ovL R fun _ => none) rn (by rw [← hov]; exact I.ran.lay) (fun n => by
        rcases ovL_cases (fun _ => none) injR n with ⟨x, hx, rfl, _⟩ | ⟨_, e⟩
        · exact .inr (hR x hx)
        · exact .inl e)
      have hH' : ov (ovL R fun _ => none) r.h'.get = HD ms rs hF (ls.setIfInBounds i true) (i + 1) := by
        unfold HD
        rw [hnext, ovL_ext (h := r.h'.get) (X.pflInj _ _) injR mem']
        funext n
        unfold ov
        rcases ovL_cases r.h'.get injR n with ⟨x, hx, rfl, e⟩ | ⟨hno, e⟩
        · rw [e, ovL_in injR hx]
        · rw [e, ovL_out hno]
      refine I.done X ho hr hm hun hp (by omega) (fun p rp g1 g2 g3 => ?_) (fun p rp g1 g2 g3 => ?_) (bs.congr hov.symm hH') (fun x hx => ?_) hu
      · by_cases hpi : p = i
        · subst hpi; exact getD_set_self hsz _
        · rw [getD_set_ne (Ne.symm hpi)]; exact I.fr1 p rp g1 g2 (by omega)
      · rw [getD_set_ne (by omega)]; exact I.fr2 p rp g1 g2 (by omega)
      · rw [hnext]
        have hxR := (mem' x).1 hx
        cases e : r.h'.get x.2.1 with
        | none => rfl
        | some ob' =>
          have hHx : HD ms rs hF ls i x.2.1 = some x.2.2 := by rw [hov]; exact ov_l (ovL_in injR hxR)
          obtain ⟨y, us, f1, f2, f3, f4, _⟩ := I.ran.lay.ob _ _ hHx
          obtain ⟨k, ob2, z, e1, e2, e3⟩ := rn.own y.b (Array.getElem?_eq_some_iff.1 f4).1 ⟨x.2.1, ob', y, e, rn.le _ _ f1, rfl⟩
          have := I.ran.lay.inj k x.2.1 ob2 x.2.2 z y (hsub e1) hHx e2 f1 e3
          subst this
          rw [hR x hxR] at e1
          cases e1
    rcases hcase with hv | ⟨f, args, hv, hc⟩
    · obtain ⟨n, u, w', ρ', e1, e2, e3, e4⟩ := (opV_sound hv).2 ρ w a.eval ev layh fri
      exact upon_val e1 e2 ⟨ρ', i + 1, finish e3 e4⟩
    · obtain ⟨us, e1, e2⟩ := opV_sound hv ρ w a.eval ev layh
      unfold Oper.wp
      rw [e1]
      refine ((X.call f args r.h r.c r.v r.h' r.c' hc).2 ρ w us (g0.le I.ran.le) e2 layh fri).mono ?_
      rintro e w' ⟨u, ρ', rfl, g1, g2⟩
      exact ⟨ρ', i + 1, finish g1 g2⟩
end
end Cx
end Go.Proofs.YteplckkoiffnnaaGreatDoor

/-
  Closed runs: regions, code, calls: sound.
-/
namespace Go.Proofs.YteplckkoiffnnaaGreatDoor
open Go.RowKit
namespace Cx
set_option linter.unusedVariables false
set_option linter.unusedSimpArgs false

theorem intEq_eq : ∀ {a b : Int}, intEq a b = true → a = b
  | .ofNat a, .ofNat b, h => by rw [beq_of (show Nat.beq a b = true from h)]
  | .negSucc a, .negSucc b, h => by rw [beq_of (show Nat.beq a b = true from h)]
  | .ofNat a, .negSucc b, h => by cases h
  | .negSucc a, .ofNat b, h => by cases h
theorem addrEq_eq {a b : Addr} (h : addrEq a b = true) : a = b := by
  obtain ⟨x, y, z⟩ := a
  obtain ⟨x', y', z'⟩ := b
  cases z <;> cases z' <;> simp only [addrEq, Bool.and_eq_true, Bool.false_eq_true] at h
  rw [beq_of h.1, beq_of h.2]
theorem bytesEq_eq : ∀ {a b : List UInt8}, bytesEq a b = true → a = b
  | [], [], _ => rfl
  | x :: l, y :: m, h => by
    simp only [bytesEq, Bool.and_eq_true] at h
    rw [UInt8.toNat_inj.1 (beq_of h.1), bytesEq_eq h.2]
  | [], y :: m, h => by cases h
  | x :: l, [], h => by cases h
theorem veq_n : ∀ n : Nat, (∀ a b : Value, SizeOf.sizeOf a ≤ n → veq a b = true → a = b) ∧ (∀ a b : List Value, SizeOf.sizeOf a ≤ n → veqs a b = true → a = b) := by
  intro n
  induction n with
  | zero =>
    refine ⟨fun a b hs => ?_, fun a b hs => ?_⟩
    · cases a <;> simp at hs
    · cases a <;> simp at hs
  | succ n ih =>
    refine ⟨fun a b hs h => ?_, fun a b hs h => ?_⟩
    · cases a with
      | bool x => cases b <;> simp only [veq, Bool.false_eq_true, beq_iff_eq] at h; rw [h]
      | int k x =>
        cases b <;> simp only [veq, Bool.false_eq_true, Bool.and_eq_true, decide_eq_true_eq] at h
        rw [h.1, intEq_eq h.2]
      | float k x => cases b <;> simp [veq] at h
      | complex k x y => cases b <;> simp [veq] at h
      | string s =>
        cases b <;> simp only [veq, Bool.false_eq_true] at h
        rename_i s'
        have := bytesEq_eq h
        obtain ⟨⟨x⟩⟩ := s
        obtain ⟨⟨y⟩⟩ := s'
        simp only at this
        rw [this]
      | pointer x =>
        cases x <;> cases b <;> try (simp only [veq, Bool.false_eq_true] at h; done)
        · rename_i y; cases y <;> simp only [veq, Bool.false_eq_true] at h; rfl
        · rename_i y; cases y <;> simp only [veq, Bool.false_eq_true] at h; rw [addrEq_eq h]
      | slice x n c =>
        cases x <;> cases b <;> try (simp only [veq, Bool.false_eq_true] at h; done)
        · rename_i y m d; cases y <;> simp only [veq, Bool.false_eq_true, Bool.and_eq_true] at h; rw [beq_of h.1, beq_of h.2]
        · rename_i y m d; cases y <;> simp only [veq, Bool.false_eq_true, Bool.and_eq_true] at h; rw [addrEq_eq h.1, beq_of h.2.1, beq_of h.2.2]
      | map x => cases b <;> simp [veq] at h
      | chan x => cases b <;> simp [veq] at h
      | func f x y =>
        obtain ⟨x⟩ := x
        obtain ⟨y⟩ := y
        cases f <;> cases x <;> cases b <;> try (simp only [veq, Bool.false_eq_true] at h; done)
        rename_i g x' y'
        obtain ⟨x'⟩ := x'
        obtain ⟨y'⟩ := y'
        cases g <;> cases x' <;> try (simp only [veq, Bool.false_eq_true] at h; done)
        simp only [veq, Bool.and_eq_true] at h
        rw [beq_of h.1, ih.2 y y' (by simp at hs; omega) h.2]
      | nilFunc => cases b <;> simp only [veq, Bool.false_eq_true] at h; rfl
      | iface t x =>
        cases b <;> simp only [veq, Bool.false_eq_true, Bool.and_eq_true] at h
        rename_i u y
        rw [beq_of h.1, ih.1 x y (by simp at hs; omega) h.2]
      | nilIface => cases b <;> simp only [veq, Bool.false_eq_true] at h; rfl
      | agg x =>
        obtain ⟨x⟩ := x
        cases b <;> simp only [veq, Bool.false_eq_true] at h
        rename_i y
        obtain ⟨y⟩ := y
        rw [ih.2 x y (by simp at hs; omega) h]
      | tuple x =>
        obtain ⟨x⟩ := x
        cases b <;> simp only [veq, Bool.false_eq_true] at h
        rename_i y
        obtain ⟨y⟩ := y
        rw [ih.2 x y (by simp at hs; omega) h]
    · cases a with
      | nil => cases b <;> simp only [veqs, Bool.false_eq_true] at h; rfl
      | cons x l =>
        cases b with
        | nil => simp only [veqs, Bool.false_eq_true] at h
        | cons y m =>
          unfold veqs at h
          split at h
          · rename_i e
            rw [ih.1 x y (by simp at hs; omega) e, ih.2 l m (by simp at hs; omega) h]
          · cases h
theorem veq_eq {a b : Value} (h : veq a b = true) : a = b := (veq_n _).1 a b (Nat.le_refl _) h
end Cx
end Go.Proofs.YteplckkoiffnnaaGreatDoor

/-
  Closed runs: regions, code, calls: sound.
-/
namespace Go.Proofs.YteplckkoiffnnaaGreatDoor
open Go.RowKit
namespace Cx
set_option linter.unusedVariables false
set_option linter.unusedSimpArgs false

theorem floatsFrom_mem {ms : List Nat} {m i : Nat} : ∀ {l : List Oper} {p k : Nat} {o : Oper}, l[k]? = some o → isH o = true → Nat.testBit m (p + k) = false → (∀ q : Nat, ms[p + k]? = some q → Nat.testBit q i = false) → (i, p + k) ∈ floatsFrom ms m i p l
  | [], p, k, o, h, _, _, _ => by simp at h
  | x :: l, p, 0, o, h, hH, hb, hq => by
    simp at h
    subst h
    unfold floatsFrom
    rw [hH]
    simp only [Nat.add_zero] at hb hq ⊢
    rw [hb]
    cases hm : ms[p]? with
    | none => simp
    | some q => simp [hq q hm]
  | x :: l, p, k + 1, o, h, hH, hb, hq => by
    have ih := floatsFrom_mem (ms := ms) (m := m) (i := i) (l := l) (p := p + 1) (k := k) (o := o) (by simpa using h) hH (by rwa [show p + 1 + k = p + (k + 1) by omega]) (by rwa [show p + 1 + k = p + (k + 1) by omega])
    rw [show p + 1 + k = p + (k + 1) by omega] at ih
    unfold floatsFrom
    split
    · exact ih
    · split
      · exact ih
      · exact List.mem_cons_of_mem _ ih
theorem floats_mem {all : List Oper} {ms : List Nat} {m p : Nat} {op : Oper} (hp : all[p]? = some op) (hH : isH op = true) : ∀ {l : List Oper} {i k : Nat} {o : Oper}, l[k]? = some o → isL o = true → ms[i + k]? = some m → Nat.testBit m p = false → (∀ q : Nat, ms[p]? = some q → Nat.testBit q (i + k) = false) → (i + k, p) ∈ floats all ms i l
  | [], i, k, o, h, _, _, _, _ => by simp at h
  | x :: l, i, 0, o, h, hL, hm, hb, hq => by
    simp at h
    subst h
    unfold floats
    rw [hL]
    simp only [Nat.add_zero] at hm hq ⊢
    rw [hm]
    refine List.mem_append.2 (.inl ?_)
    have := floatsFrom_mem (ms := ms) (m := m) (i := i) (l := all) (p := 0) (k := p) hp hH (by rwa [Nat.zero_add]) (by rwa [Nat.zero_add])
    rwa [Nat.zero_add] at this
  | x :: l, i, k + 1, o, h, hL, hm, hb, hq => by
    have ih := floats_mem hp hH (l := l) (i := i + 1) (k := k) (o := o) (by simpa using h) hL (by rwa [show i + 1 + k = i + (k + 1) by omega]) hb (by rwa [show i + 1 + k = i + (k + 1) by omega])
    rw [show i + 1 + k = i + (k + 1) by omega] at ih
    unfold floats
    split
    · exact ih
    · split
      · exact List.mem_append.2 (.inr ih)
      · exact ih
theorem floatsOk_mem {P : Program} {all : List Oper} {rs : List Rc} : ∀ {l : List (Nat × Nat)}, floatsOk P all rs l = true → ∀ i p, (i, p) ∈ l → float1 P all rs i p = true
  | [], _, i, p, h => by cases h
  | (j, q) :: l, hl, i, p, h => by
    unfold floatsOk at hl
    split at hl
    · rename_i e
      rcases List.mem_cons.1 h with h | h
      · injection h with h1 h2
        rw [h1, h2]; exact e
      · exact floatsOk_mem hl i p h
    · cases hl

theorem cnt_set : ∀ (l : List Bool) (i : Nat), l[i]? = some false → (l.set i true).count false + 1 = l.count false
  | [], i, h => by simp at h
  | x :: l, 0, h => by
    simp at h
    subst h
    simp
  | x :: l, i + 1, h => by
    have := cnt_set l i (by simpa using h)
    simp only [List.set_cons_succ, List.count_cons]
    omega
section
variable {P : Program} {call : Callee} {all : List Oper} {N : Nat} {ms : List Nat} {rs : List Rc} {t0 : Tm} {h0 : Hp} {c0 : Nat} {tF : Tm} {hF : Hp} {cF : Nat} {pF : Pend}
variable {ρ0 : Rn} {w0 : World} {a0 : Act}
theorem any_sound (X : Cxt P call N all ms rs t0 h0 c0 tF hF cF pF) (tm0 : TmOK N t0 ρ0 a0) (g0 : GOK ρ0) {Q : Exit → Act → World → Prop} (hQ : ∀ ρ q ls a w, DI all ms rs hF N ρ0 h0 c0 w0 cF a0 ρ q ls a w → (∀ i, i < all.length → ls.getD i false = true) → Q .normal a w) :
    ∀ (fuel : Nat) (ρ : Rn) (q : Nat) (ls : Array Bool) (a : Act) (w : World), ls.toList.count false = fuel → DI all ms rs hF N ρ0 h0 c0 w0 cF a0 ρ q ls a w → wpAny P .any all.toArray Q fuel ls a w := by
  -- as long as not all are done, one may come up
  have more : ∀ {ρ q ls a w}, DI all ms rs hF N ρ0 h0 c0 w0 cF a0 ρ q ls a w → Region.ready .any all.toArray ls = [] → ∀ i, i < all.length → ls.getD i false = true := by
    intro ρ q ls a w I hr i
    induction i using Nat.strongRecOn with
    | _ i ih =>
      intro hi
      cases hd : ls.getD i false with
      | true => rfl
      | false =>
        have hsz := I.size
        have : ls.getD i true = false := by
          rw [Array.getD_eq_getD_getElem?, Array.getElem?_eq_getElem (by omega)] at hd ⊢
          exact hd
        have hm := ready_of (ops := all) (i := i) this (List.getElem?_eq_getElem hi) fun p hp => ih p (X.M.low i _ (List.getElem?_eq_getElem hi) p hp) (by have := X.M.low i _ (List.getElem?_eq_getElem hi) p hp; omega)
        rw [hr] at hm
        cases hm
  intro fuel
  induction fuel with
  | zero =>
    intro ρ q ls a w hc I
    have none : Region.ready .any all.toArray ls = [] := by
      cases hr : Region.ready .any all.toArray ls with
      | nil => rfl
      | cons i l =>
        obtain ⟨hun, o, ho, hp⟩ := mem_ready (ops := all) (ls := ls) (i := i) (by rw [hr]; exact List.mem_cons_self)
        obtain ⟨hi, hsz⟩ := getD_both hun
        have : false ∈ ls.toList := by
          have h2 : ls[i]? = some false := by
            rw [Array.getD_eq_getD_getElem?, Array.getElem?_eq_getElem hsz] at hi
            rw [Array.getElem?_eq_getElem hsz]
            simpa using hi
          exact List.mem_of_getElem? (by rw [Array.getElem?_toList]; exact h2)
        have := List.count_pos_iff.2 this
        omega
    exact ⟨none, hQ ρ q ls a w I (more I none)⟩
  | succ fuel ih =>
    intro ρ q ls a w hc I
    refine ⟨fun none => hQ ρ q ls a w I (more I none), fun i hi => ?_⟩
    refine wpOp_mono (fun a' w' ⟨ρ', q', I'⟩ => ih ρ' q' _ a' w' ?_ I') (I.step X tm0 g0 hi Q)
    obtain ⟨hun, _⟩ := mem_ready (ops := all) hi
    obtain ⟨hi', hsz⟩ := getD_both hun
    have h2 : ls.toList[i]? = some false := by
      rw [Array.getD_eq_getD_getElem?, Array.getElem?_eq_getElem hsz] at hi'
      rw [Array.getElem?_toList, Array.getElem?_eq_getElem hsz]
      simpa using hi'
    have := cnt_set _ i h2
    rw [Array.toList_setIfInBounds]
    omega
end

/-- from one state to another -/
def Go (N : Nat) (s s' : S) (ρ : Rn) (a : Act) (w : World) (K : Act → World → Prop) : Prop := ∀ ρ' a' w', TmOK N s'.t ρ' a' → Ran ρ s.h s.c w ρ' s'.h s'.c w' → a'.defers = a.defers → K a' w'
theorem put_sound {N : Nat} {s s' : S} {d : Option Nat} {v : Value} (h : put N s.t s.h s.c d v = some s') (hN : N ≤ cap0) : s'.h = s.h ∧ s'.c = s.c ∧ ∀ ρ a u, TmOK N s.t ρ a → Den ρ v u → TmOK N s'.t ρ (a.put d u) ∧ (a.put d u).defers = a.defers := by
  cases d with
  | some i =>
    have h : gd (Nat.blt i N) (Tr.setK (some v) 24 s.t i fun t => some ⟨t, s.h, s.c⟩) = some s' := h
    simp only [gd_some, Tr.setK_eq, Option.some.injEq] at h
    obtain ⟨hlt, rfl⟩ := h
    have hlt := blt_of hlt
    refine ⟨rfl, rfl, fun ρ a u m hu => ⟨⟨by simp [Act.put, m.1], fun k x hk => ?_⟩, rfl⟩⟩
    rw [Tr.put _ _ _ (by omega)] at hk
    split at hk
    · rename_i e
      injection hk with hk
      subst hk
      subst e
      refine ⟨hlt, ?_⟩
      have : (a.put (some k) u).tmps.getD k undef = u := by simp [Act.put, m.1, hlt]
      rw [this]; exact hu
    · rename_i e
      obtain ⟨h1, h2⟩ := m.2 k x hk
      refine ⟨h1, ?_⟩
      have : (a.put (some i) u).tmps.getD k undef = a.tmps.getD k undef := by simp [Act.put, Array.getD_eq_getD_getElem?, Array.getElem?_setIfInBounds_ne (Ne.symm e)]
      rw [this]; exact h2
  | none =>
    have h : some (⟨s.t, s.h, s.c⟩ : S) = some s' := h
    simp only [Option.some.injEq] at h
    subst h
    exact ⟨rfl, rfl, fun ρ a u m hu => ⟨m, rfl⟩⟩
section
variable {P : Program} {call : Callee} {N : Nat}
theorem tm_ev {ρ : Rn} {t : Tm} {a : Act} (g : GOK ρ) (m : TmOK N t ρ a) (l : List Operand) : EvOK ρ t a.eval l := fun x hx v hv => ev_sound g hv fun k _ hg => (m.2 k v hg).2
theorem step_sound (hN : N ≤ cap0) (hcall : CallOK P call) {all : List Oper} {o : Oper} {s s' : S} (h : step P call N all o s = some s') : s.c ≤ s'.c ∧ ∀ ρ a w Q K, GOK ρ → TmOK N s.t ρ a → Lay ρ s.h w → Free ρ s.c s'.c → Go N s s' ρ a w K →
    if Region.wanted o (yielded all.toArray a.tmps) then o.wp P a w K Q else K (a.put o.dst undef) w := by
  obtain ⟨st, sh, sc⟩ := s
  have h : bd (want all st o) (fun w => Bool.rec (motive := fun _ => Option S) (put N st sh sc o.dst undef)
    (bd (opV P st sh sc o) fun r => OR.rec (motive := fun _ => Option S) (fun v h c => put N st h c o.dst v) (fun f args => bd (call f args sh sc) fun r => put N st r.2.1 r.2.2 o.dst r.1) r) w) = some s' := h
  rw [bd_some] at h
  obtain ⟨b, hb, h⟩ := h
  have wn : ∀ {ρ a}, TmOK N st ρ a → Region.wanted o (yielded all.toArray a.tmps) = b := fun m => want_sound hb m.1 fun k _ v hv => m.2 k v hv
  cases b with
  | false =>
    have h : put N st sh sc o.dst undef = some s' := h
    obtain ⟨e1, e2, e3⟩ := put_sound (s := ⟨st, sh, sc⟩) h hN
    refine ⟨by rw [e2]; exact Nat.le_refl _, fun ρ a w Q K g m l f hk => ?_⟩
    rw [wn m]
    obtain ⟨m', d⟩ := e3 ρ a undef m (.flat rfl)
    exact hk ρ _ w m' (by rw [e1, e2]; exact .refl l) d
  | true =>
    have h : bd (opV P st sh sc o) (fun r => OR.rec (motive := fun _ => Option S) (fun v h c => put N st h c o.dst v) (fun f args => bd (call f args sh sc) fun r => put N st r.2.1 r.2.2 o.dst r.1) r) = some s' := h
    rw [bd_some] at h
    obtain ⟨r, hr, h⟩ := h
    cases r with
    | val v h1 c1 =>
      have h : put N st h1 c1 o.dst v = some s' := h
      obtain ⟨hc, H⟩ := opV_sound hr
      obtain ⟨e1, e2, e3⟩ := put_sound (s := ⟨st, h1, c1⟩) h hN
      simp only at e1 e2 e3
      refine ⟨by rw [e2]; exact hc, fun ρ a w Q K g m l f hk => ?_⟩
      rw [wn m]
      rw [e2] at f
      obtain ⟨n, u, w', ρ', g1, g2, g3, g4⟩ := H ρ w a.eval (tm_ev g m _) l f
      obtain ⟨m', d⟩ := e3 ρ' a u (m.le g4.le) g3
      exact upon_val g1 g2 (hk ρ' _ w' m' (by rw [e1, e2]; exact g4) d)
    | ent f args =>
      have h : bd (call f args sh sc) (fun r => put N st r.2.1 r.2.2 o.dst r.1) = some s' := h
      rw [bd_some] at h
      obtain ⟨z, hz, h⟩ := h
      obtain ⟨hc, H⟩ := hcall _ _ _ _ _ _ _ hz
      obtain ⟨e1, e2, e3⟩ := put_sound (s := ⟨st, z.2.1, z.2.2⟩) h hN
      simp only at e1 e2 e3
      refine ⟨by rw [e2]; exact hc, fun ρ a w Q K g m l fr hk => ?_⟩
      rw [wn m]
      rw [e2] at fr
      obtain ⟨us, g1, g2⟩ := opV_sound hr ρ w a.eval (tm_ev g m _) l
      show o.wp P a w K Q
      unfold Oper.wp
      rw [g1]
      refine (H ρ w us g g2 l fr).mono ?_
      rintro e w' ⟨u, ρ', rfl, k1, k2⟩
      obtain ⟨m', d⟩ := e3 ρ' a u (m.le k2.le) k1
      exact hk ρ' _ w' m' (by rw [e1, e2]; exact k2) d
theorem steps_sound (hN : N ≤ cap0) (hcall : CallOK P call) {all : List Oper} : ∀ {l : List Oper} {s s' : S}, steps P call N all l s = some s' → s.c ≤ s'.c ∧ ∀ ρ a w Q, GOK ρ → TmOK N s.t ρ a → Lay ρ s.h w → Free ρ s.c s'.c → Go N s s' ρ a w (Q .normal) → wpList P all.toArray Q l a w
  | [], s, s', h => by
    have h : some s = some s' := h
    simp only [Option.some.injEq] at h
    subst h
    exact ⟨Nat.le_refl _, fun ρ a w Q g m l f hk => hk ρ a w m (.refl l) rfl⟩
  | o :: l, s, s', h => by
    have h : bd (step P call N all o s) (steps P call N all l) = some s' := h
    rw [bd_some] at h
    obtain ⟨s1, h1, h2⟩ := h
    obtain ⟨c1, H1⟩ := step_sound hN hcall h1
    obtain ⟨c2, H2⟩ := steps_sound hN hcall h2
    refine ⟨Nat.le_trans c1 c2, fun ρ a w Q g m ly f hk => ?_⟩
    have := H1 ρ a w Q (wpList P all.toArray Q l) g m ly (f.left c2) fun ρ' a' w' m' rn d => H2 ρ' a' w' Q (g.le rn.le) m' rn.lay (rn.free f) fun ρ2 a2 w2 m2 rn2 d2 => hk ρ2 a2 w2 m2 (rn.trans rn2) (d2.trans d)
    unfold wpList
    split
    · rename_i hw; rw [if_pos hw] at this; exact .inl this
    · rename_i hw; rw [if_neg hw] at this; exact this
end
end Cx
end Go.Proofs.YteplckkoiffnnaaGreatDoor

/-
  Closed runs: code and calls: sound.
-/
namespace Go.Proofs.YteplckkoiffnnaaGreatDoor
open Go.RowKit
namespace Cx
set_option linter.unusedVariables false
set_option linter.unusedSimpArgs false

section
variable {P : Program} {call : Callee} {N : Nat}
theorem Tra.zero {all : List Oper} {ms : List Nat} {t0 : Tm} {h0 : Hp} {c0 i : Nat} {prs : List Rc} {t : Tm} {h : Hp} {c : Nat} {pend : Pend} (T : Tra P call N all ms t0 h0 c0 i prs t h c pend) (hi : i = 0) : h = h0 := by
  cases T with
  | nil => rfl
  | snoc _ _ _ _ _ => omega
theorem RanF.wide {ρ ρ' : Rn} {h h' : HF} {c c' c2 : Nat} {w w' : World} (a : RanF ρ h c w ρ' h' c' w') (hc : c' ≤ c2) : RanF ρ h c w ρ' h' c2 w' :=
  ⟨a.lay, a.le, fun n hn => a.out n (by omega), Nat.le_trans a.cc hc, a.os, a.tape, a.output, a.size, a.frame, a.own⟩
theorem drawn_sound (hm : P.follows .mixedOrders = true) (hN : N ≤ cap0) (hcall : CallOK P call) {ops : List Oper} {s s' : S} (h : region P call N ops true s = some s') (id : Nat) : s.c ≤ s'.c ∧ ∀ ρ a w Q, GOK ρ → TmOK N s.t ρ a → Lay ρ s.h w → Free ρ s.c s'.c → Go N s s' ρ a w (Q .normal) → (Code.region id ops.toArray true).wp P Q a w := by
  simp only [region, bd_some, gd_some] at h
  obtain ⟨ms, hms, hstat, ⟨rs, fin⟩, hrec, hfl, hlay⟩ := h
  obtain ⟨hE, hlay, hget⟩ := layAll_spec hlay
  injection hlay with hlay
  subst hlay
  simp only at hget hfl
  have M := masks_ok hms
  have T := recs_tra (prs := []) (fun k => by rw [Nat.zero_add]) (.nil) hrec
  rw [Nat.zero_add, List.nil_append] at T
  have X : Cxt P call N ops ms rs s.t s.h s.c fin.t fin.h fin.c fin.pend := ⟨T, M, hstat, hcall, hN, fun i p o r rp m mp ho hr hk hrp hkp hm1 hm2 hb1 hb2 => by
    have hpl : p < ops.length := by have := (List.getElem?_eq_some_iff.1 hrp).1; rw [T.len] at this; exact this
    have hopp : ops[p]? = some ops[p] := List.getElem?_eq_getElem hpl
    obtain ⟨op', m', pk, pk', ho', _, _, ok⟩ := T.sub p rp hrp
    rw [hopp] at ho'
    injection ho' with ho'
    have hH : isH ops[p] = true := by rw [ho']; exact (ok.H (isHk_of hkp)).2.1
    obtain ⟨o2, m2, pk2, pk2', ho2, _, _, ok2⟩ := T.sub i r hr
    rw [ho] at ho2
    injection ho2 with ho2
    subst ho2
    have hld := (ok2.L hk).2.1
    have hL : isL o = true := by
      unfold ldV at hld
      split at hld
      · rename_i e; simp [isL, kindOp, e]
      · cases hld
    have hmem := floats_mem (all := ops) (ms := ms) (m := m) (p := p) hopp hH (l := ops) (i := 0) (k := i) (o := o) ho hL (by rwa [Nat.zero_add]) hb1 (fun q hq => by rw [hm2] at hq; injection hq with hq; subst hq; rwa [Nat.zero_add])
    rw [Nat.zero_add] at hmem
    have hf := floatsOk_mem hfl i p hmem
    unfold float1 at hf
    simp only [ho, hr, hrp, hk, isLk, hkp] at hf
    constructor
    · intro hlt
      have hb : Nat.blt p i = true := Nat.ble_eq_true_of_le (by omega)
      rw [hb] at hf
      split at hf
      · rename_i v hv
        rw [← veq_eq hf]; exact hv
      · cases hf
    · intro hlt
      have hb : Nat.blt p i = false := by
        cases e : Nat.blt p i with
        | false => rfl
        | true => have := blt_of e; omega
      rw [hb] at hf
      split at hf
      · rename_i v hv
        rw [← veq_eq hf]; exact hv
      · cases hf⟩
  have hcnt := T.count hcall
  refine ⟨hcnt.1, fun ρ a w Q g m l f hk => ?_⟩
  simp only at f
  refine wp_region_any hm ?_
  have hls : (Array.replicate ops.toArray.size false : Array Bool).toList.count false = ops.toArray.size := by simp
  refine any_sound X m g (Q := Q) (w0 := w) (fun ρ' q ls a' w' I hall => ?_) _ ρ 0 _ a _ hls ?_
  · have I := I.move X (q' := ops.length) (Nat.le_refl _) (fun p r h1 h2 h3 => hall p h3) (fun p r h1 h2 h3 => by
      have := (List.getElem?_eq_some_iff.1 h1).1
      rw [T.len] at this
      omega)
    have hE' : HD ms rs fin.h ls ops.length = hE.get := by
      unfold HD
      have hst : stg rs fin.h ops.length = fin.h := by
        unfold stg
        rw [List.getElem?_eq_none (by rw [T.len]; exact Nat.le_refl _)]
      have mem : ∀ x, x ∈ pfl ms rs ls ops.length ↔ x ∈ fin.pend := fun x => by
        rw [pfl_mem, T.pend_iff M]
        constructor
        · exact fun ⟨h1, _, h3⟩ => ⟨h1, h3⟩
        · rintro ⟨h1, h3⟩
          refine ⟨h1, hall _ ?_, h3⟩
          obtain ⟨r, h4, _⟩ := h1
          have := (List.getElem?_eq_some_iff.1 h4).1
          rwa [T.len] at this
      rw [hst, hget]
      exact ovL_ext (X.pflInj _ _) (fun x hx y hy e => X.pflInj ls ops.length x ((mem x).2 hx) y ((mem y).2 hy) e) mem
    refine hk ρ' a' w' ⟨I.tsz, fun k v hv => ?_⟩ ?_ I.defs
    · rcases T.temps hN k v hv with ⟨j, oj, rj, h1, h2, h3, h4, rfl⟩ | ⟨h1, h2⟩
      · exact ⟨T.dst j oj k h1 h2 h4, I.t1 j oj rj k h2 h3 (hall j h1) h4⟩
      · obtain ⟨k1, k2⟩ := m.2 k v h1
        refine ⟨k1, ?_⟩
        rw [I.t2 k fun j oj hoj _ => h2 j oj (List.getElem?_eq_some_iff.1 hoj).1 hoj]
        exact k2.le I.ran.le
    · have := I.ran
      rw [hE'] at this
      exact this
  · have none : ∀ j, (Array.replicate ops.toArray.size false : Array Bool).getD j false = false := fun j => by
      rw [Array.getD_eq_getD_getElem?, Array.getElem?_replicate]
      split <;> rfl
    have pnil : ∀ x, x ∉ pfl ms rs (Array.replicate ops.toArray.size false) 0 := fun x hx => by
      have := (pfl_mem.1 hx).2.1
      rw [none] at this
      cases this
    have hst : stg rs fin.h 0 = s.h := by
      unfold stg
      cases hr : rs[0]? with
      | none =>
        have hl := T.len
        have : rs.length = 0 := by
          rcases Nat.eq_zero_or_pos rs.length with e | e
          · exact e
          · rw [List.getElem?_eq_getElem e] at hr; cases hr
        exact T.zero (by omega)
      | some r =>
        obtain ⟨_, _, _, _, _, _, T', _⟩ := T.sub 0 r hr
        exact T'.zero rfl
    have hHD : HD ms rs fin.h (Array.replicate ops.toArray.size false) 0 = s.h.get := by
      unfold HD
      rw [hst]
      funext n
      exact ovL_out fun x hx => absurd hx (pnil x)
    refine ⟨by simp, (fun j oj _ hj => by rw [none] at hj; cases hj), (fun p r _ _ hp => by omega), fun p r _ _ _ => none p, Nat.zero_le _, ?_, fun x hx => absurd hx (pnil x), fun j r hr _ => ?_, m.1, rfl, (fun j oj rj d _ _ hj => by rw [none] at hj; cases hj), fun d _ => rfl⟩
    · rw [hHD]
      exact (RanF.of_below (c := s.c) l ((Below.refl _ _).drew : Below w.heap.size w w.drew)).wide hcnt.1
    · have := hcnt.2 j r hr
      exact fun n h1 h2 => f n (by omega) (by omega)

def exOf : Ex → Exit
  | .normal => .normal
  | .ret => .ret
  | .exit j => .exit j
theorem region_sound (hm : P.follows .mixedOrders = true) (hN : N ≤ cap0) (hcall : CallOK P call) {ops : Array Oper} {draw : Bool} {s s' : S} (h : region P call N ops.toList draw s = some s') (id : Nat) : s.c ≤ s'.c ∧ ∀ ρ a w Q, GOK ρ → TmOK N s.t ρ a → Lay ρ s.h w → Free ρ s.c s'.c → Go N s s' ρ a w (Q .normal) → (Code.region id ops draw).wp P Q a w := by
  cases draw with
  | true =>
    have := drawn_sound hm hN hcall h id
    rwa [Array.toArray_toList] at this
  | false =>
    obtain ⟨h1, h2⟩ := steps_sound hN hcall (show steps P call N ops.toList ops.toList s = some s' from h)
    refine ⟨h1, fun ρ a w Q g m l f hk => wp_region_list ?_⟩
    have := h2 ρ a w Q g m l f hk
    rwa [Array.toArray_toList] at this
theorem code_sound (hm : P.follows .mixedOrders = true) (hN : N ≤ cap0) (hcall : CallOK P call) {fuel : Nat} : ∀ (c : Code) {s s' : S} {ex : Ex}, code P call fuel N c s = some (ex, s') →
    s.c ≤ s'.c ∧ ∀ ρ a w Q, GOK ρ → TmOK N s.t ρ a → Lay ρ s.h w → Free ρ s.c s'.c → Go N s s' ρ a w (Q (exOf ex)) → c.wp P Q a w
  | .skip, s, s', ex, h => by
    have h : some (Ex.normal, s) = some (ex, s') := h
    simp only [Option.some.injEq, Prod.mk.injEq] at h
    obtain ⟨rfl, rfl⟩ := h
    exact ⟨Nat.le_refl _, fun ρ a w Q g m l f hk => wp_skip (hk ρ a w m (.refl l) rfl)⟩
  | .region id ops draw, s, s', ex, h => by
    rw [code_reg] at h
    simp only [bd_some, Option.some.injEq, Prod.mk.injEq] at h
    obtain ⟨s1, h1, rfl, rfl⟩ := h
    exact region_sound hm hN hcall h1 id
  | .seq x y, s, s', ex, h => by
    rw [code_seq, bd_some] at h
    obtain ⟨⟨e1, s1⟩, h1, h2⟩ := h
    obtain ⟨c1, H1⟩ := code_sound hm hN hcall x h1
    cases e1 with
    | normal =>
      have h2 : code P call fuel N y s1 = some (ex, s') := h2
      obtain ⟨c2, H2⟩ := code_sound hm hN hcall y h2
      exact ⟨Nat.le_trans c1 c2, fun ρ a w Q g m l f hk => wp_seq (H1 ρ a w _ g m l (f.left c2) fun ρ' a' w' m' rn d =>
        H2 ρ' a' w' Q (g.le rn.le) m' rn.lay (rn.free f) fun ρ2 a2 w2 m2 rn2 d2 => hk ρ2 a2 w2 m2 (rn.trans rn2) (d2.trans d))⟩
    | ret =>
      have h2 : some (Ex.ret, s1) = some (ex, s') := h2
      simp only [Option.some.injEq, Prod.mk.injEq] at h2
      obtain ⟨rfl, rfl⟩ := h2
      exact ⟨c1, fun ρ a w Q g m l f hk => wp_seq (H1 ρ a w _ g m l f fun ρ' a' w' m' rn d => hk ρ' a' w' m' rn d)⟩
    | exit j =>
      have h2 : some (Ex.exit j, s1) = some (ex, s') := h2
      simp only [Option.some.injEq, Prod.mk.injEq] at h2
      obtain ⟨rfl, rfl⟩ := h2
      exact ⟨c1, fun ρ a w Q g m l f hk => wp_seq (H1 ρ a w _ g m l f fun ρ' a' w' m' rn d => hk ρ' a' w' m' rn d)⟩
  | .cond x y z, s, s', ex, h => by
    rw [code_cond, bd_some] at h
    obtain ⟨b, hb, h⟩ := h
    have hb := boolV_some hb
    cases b with
    | true =>
      have h : code P call fuel N y s = some (ex, s') := h
      obtain ⟨c1, H1⟩ := code_sound hm hN hcall y h
      exact ⟨c1, fun ρ a w Q g m l f hk => wp_cond_true (ev_sound g hb fun k _ hg => (m.2 k _ hg).2).bool_inv (H1 ρ a w Q g m l f hk)⟩
    | false =>
      have h : code P call fuel N z s = some (ex, s') := h
      obtain ⟨c1, H1⟩ := code_sound hm hN hcall z h
      exact ⟨c1, fun ρ a w Q g m l f hk => wp_cond_false (ev_sound g hb fun k _ hg => (m.2 k _ hg).2).bool_inv (H1 ρ a w Q g m l f hk)⟩
  | .block id x, s, s', ex, h => by
    rw [code_block, bd_some] at h
    obtain ⟨⟨e1, s1⟩, h1, h2⟩ := h
    obtain ⟨c1, H1⟩ := code_sound hm hN hcall x h1
    cases e1 with
    | normal =>
      have h2 : some (Ex.normal, s1) = some (ex, s') := h2
      simp only [Option.some.injEq, Prod.mk.injEq] at h2
      obtain ⟨rfl, rfl⟩ := h2
      exact ⟨c1, fun ρ a w Q g m l f hk => wp_block (H1 ρ a w _ g m l f fun ρ' a' w' m' rn d => hk ρ' a' w' m' rn d)⟩
    | ret =>
      have h2 : some (Ex.ret, s1) = some (ex, s') := h2
      simp only [Option.some.injEq, Prod.mk.injEq] at h2
      obtain ⟨rfl, rfl⟩ := h2
      exact ⟨c1, fun ρ a w Q g m l f hk => wp_block (H1 ρ a w _ g m l f fun ρ' a' w' m' rn d => hk ρ' a' w' m' rn d)⟩
    | exit j =>
      have h2 : Bool.rec (motive := fun _ => Option (Ex × S)) (some (.exit j, s1)) (some (.normal, s1)) (Nat.beq j id) = some (ex, s') := h2
      cases hj : Nat.beq j id with
      | true =>
        rw [hj] at h2
        have h2 : some (Ex.normal, s1) = some (ex, s') := h2
        have hj := beq_of hj
        simp only [Option.some.injEq, Prod.mk.injEq] at h2
        obtain ⟨rfl, rfl⟩ := h2
        refine ⟨c1, fun ρ a w Q g m l f hk => wp_block (H1 ρ a w _ g m l f fun ρ' a' w' m' rn d => ?_)⟩
        show Exit.inBlock id Q (.exit j) a' w'
        simp only [Exit.inBlock]
        rw [if_pos hj]
        exact hk ρ' a' w' m' rn d
      | false =>
        rw [hj] at h2
        have h2 : some (Ex.exit j, s1) = some (ex, s') := h2
        have hj := beq_no hj
        simp only [Option.some.injEq, Prod.mk.injEq] at h2
        obtain ⟨rfl, rfl⟩ := h2
        refine ⟨c1, fun ρ a w Q g m l f hk => wp_block (H1 ρ a w _ g m l f fun ρ' a' w' m' rn d => ?_)⟩
        show Exit.inBlock id Q (.exit j) a' w'
        simp only [Exit.inBlock]
        rw [if_neg hj]
        exact hk ρ' a' w' m' rn d
  | .loop x, s, s', ex, h => by
    have rounds : ∀ (n : Nat) {s s' : S} {ex : Ex}, iter (code P call fuel N x) n s = some (ex, s') → s.c ≤ s'.c ∧ ∀ ρ a w Q, GOK ρ → TmOK N s.t ρ a → Lay ρ s.h w → Free ρ s.c s'.c → Go N s s' ρ a w (Q (exOf ex)) → Code.rounds P x Q n a w := by
      intro n
      induction n with
      | zero => intro s s' ex h; cases h
      | succ n ih =>
        intro s s' ex h
        rw [iter_s, bd_some] at h
        obtain ⟨⟨e1, s1⟩, h1, h2⟩ := h
        obtain ⟨c1, H1⟩ := code_sound hm hN hcall x h1
        cases e1 with
        | normal =>
          have h2 : iter (code P call fuel N x) n s1 = some (ex, s') := h2
          obtain ⟨c2, H2⟩ := ih h2
          exact ⟨Nat.le_trans c1 c2, fun ρ a w Q g m l f hk => H1 ρ a w _ g m l (f.left c2) fun ρ' a' w' m' rn d =>
            H2 ρ' a' w' Q (g.le rn.le) m' rn.lay (rn.free f) fun ρ2 a2 w2 m2 rn2 d2 => hk ρ2 a2 w2 m2 (rn.trans rn2) (d2.trans d)⟩
        | ret =>
          have h2 : some (Ex.ret, s1) = some (ex, s') := h2
          simp only [Option.some.injEq, Prod.mk.injEq] at h2
          obtain ⟨rfl, rfl⟩ := h2
          exact ⟨c1, fun ρ a w Q g m l f hk => H1 ρ a w _ g m l f fun ρ' a' w' m' rn d => hk ρ' a' w' m' rn d⟩
        | exit j =>
          have h2 : some (Ex.exit j, s1) = some (ex, s') := h2
          simp only [Option.some.injEq, Prod.mk.injEq] at h2
          obtain ⟨rfl, rfl⟩ := h2
          exact ⟨c1, fun ρ a w Q g m l f hk => H1 ρ a w _ g m l f fun ρ' a' w' m' rn d => hk ρ' a' w' m' rn d⟩
    obtain ⟨c1, H1⟩ := rounds fuel (show iter (code P call fuel N x) fuel s = some (ex, s') from h)
    exact ⟨c1, fun ρ a w Q g m l f hk => wp_loop_rounds fuel (H1 ρ a w Q g m l f hk)⟩
  | .exit j, s, s', ex, h => by
    have h : some (Ex.exit j, s) = some (ex, s') := h
    simp only [Option.some.injEq, Prod.mk.injEq] at h
    obtain ⟨rfl, rfl⟩ := h
    exact ⟨Nat.le_refl _, fun ρ a w Q g m l f hk => wp_exit (hk ρ a w m (.refl l) rfl)⟩
  | .ret, s, s', ex, h => by
    have h : some (Ex.ret, s) = some (ex, s') := h
    simp only [Option.some.injEq, Prod.mk.injEq] at h
    obtain ⟨rfl, rfl⟩ := h
    exact ⟨Nat.le_refl _, fun ρ a w Q g m l f hk => wp_ret (hk ρ a w m (.refl l) rfl)⟩
  | .rangeFunc .., s, s', ex, h => by cases h
  | .scope _, s, s', ex, h => by cases h
  | .label _, s, s', ex, h => by cases h
  | .goto _, s, s', ex, h => by cases h
  | .refuse _, s, s', ex, h => by cases h
end
end Cx
end Go.Proofs.YteplckkoiffnnaaGreatDoor

/-
  Closed runs: calls are sound; a call that is run by the kernel.
-/
namespace Go.Proofs.YteplckkoiffnnaaGreatDoor
open Go.RowKit
namespace Cx
set_option linter.unusedVariables false
set_option linter.unusedSimpArgs false

theorem startT_get : ∀ {l : List Value} {n : Nat} {t0 t : Tm}, startT l n t0 = some t → n + l.length ≤ cap0 → ∀ k v, t.get k = some v → (n ≤ k ∧ l[k - n]? = some v) ∨ t0.get k = some v
  | [], n, t0, t, h, _, k, v, hv => by
    simp only [startT, Option.some.injEq] at h
    subst h
    exact .inr hv
  | x :: l, n, t0, t, h, hc, k, v, hv => by
    simp only [List.length_cons] at hc
    simp only [startT, Tr.setK_eq] at h
    rcases startT_get h (by omega) k v hv with ⟨h1, h2⟩ | h1
    · refine .inl ⟨by omega, ?_⟩
      rw [show k - n = (k - (n + 1)) + 1 by omega]
      simpa using h2
    · rw [Tr.put _ _ _ (by omega)] at h1
      split at h1
      · rename_i e
        injection h1 with h1
        subst h1
        subst e
        exact .inl ⟨Nat.le_refl _, by simp⟩
      · exact .inr h1
def rv (tmps : Array Value) : ResultVar → Sem Value
  | .tmp t => pure (tmps.getD t undef)
  | .cell b t => do loadVar t (← asAddr (tmps.getD b undef))
section
variable {P : Program} {N : Nat}
theorem resV_sound {s : S} {ρ : Rn} {a : Act} {w : World} (m : TmOK N s.t ρ a) (l : Lay ρ s.h w) : ∀ {rs : List ResultVar} {vs : List Value}, resV P s rs = some vs → ∃ us, DenL ρ vs us ∧ Sem.run P (rs.mapM (rv a.tmps)) w = Result.ok us w
  | [], vs, h => by
    simp only [resV, Option.some.injEq] at h
    subst h
    exact ⟨[], .nil, rfl⟩
  | .tmp i :: rs, vs, h => by
    simp only [resV, bd_some, Option.some.injEq] at h
    obtain ⟨v, hv, r, hr, rfl⟩ := h
    obtain ⟨us, e1, e2⟩ := resV_sound m l hr
    refine ⟨_, .cons (m.2 i v hv).2 e1, ?_⟩
    rw [List.mapM_cons]
    simp [e2, rv]
  | .cell i e :: rs, vs, h => by
    simp only [resV, bd_some, Option.some.injEq] at h
    obtain ⟨ad, ha, o, ho, v, hv, r, hr, rfl⟩ := h
    obtain ⟨us, e1, e2⟩ := resV_sound m l hr
    obtain ⟨bk, k1, k2, k3⟩ := (m.2 i _ (ptrV_some ha)).2.ptr_inv
    obtain ⟨bk', cs, f1, f2, f3, f4, f5, f6⟩ := l.ob _ _ ho
    rw [k1] at f1
    injection f1 with f1
    subst f1
    obtain ⟨u, g1, g2⟩ := load_sound (P := P) hv f4 f6
    refine ⟨u :: us, .cons g1 e1, ?_⟩
    have g3 : (loadVar e ⟨bk.b, ad.off, none⟩).run P w = .ok u w := by simpa [Instr.loadAt, Instr.sureAddr] using g2
    have g4 : (rv a.tmps (.cell i e)).run P w = .ok u w := by
      simp only [rv, k3, asAddr, Sem.run_bind, Sem.run_pure, Result.andThen_ok, g3]
    rw [List.mapM_cons]
    simp [e2, g4]
theorem results_run {fn : Func} {tmps : Array Value} {vs : List Value} {w : World} (h : Sem.run P (fn.results.toList.mapM (rv tmps)) w = Result.ok vs w) : (results fn tmps).run P w = .ok (mkRes vs) w := by
  have e : results fn tmps = (do let vs ← fn.results.mapM (rv tmps); pure (if h : vs.size = 1 then vs[0] else .tuple vs)) := by
    unfold results
    congr 1
  rw [e, Array.mapM_eq_mapM_toList]
  simp only [Sem.run_bind, Sem.run_map, h, Result.andThen_ok, Sem.run_pure, bind_map_left]
  unfold mkRes
  match vs with
  | [] => simp
  | [v] => simp
  | a :: b :: l => simp
theorem mkRes_den {ρ : Rn} : ∀ {l m : List Value}, DenL ρ l m → Den ρ (mkRes l) (mkRes m)
  | _, _, .nil => .tup .nil
  | _, _, .cons h .nil => h
  | _, _, .cons h (.cons h' t) => .tup (.cons h (.cons h' t))
theorem call_sound (hm : P.follows .mixedOrders = true) (fuel : Nat) : ∀ n, CallOK P (call P fuel n)
  | 0 => fun f args h c v h' c' e => by cases e
  | n + 1 => fun f args h c v h' c' e => by
    simp only [call, bd_some, gd_some, Bool.and_eq_true] at e
    obtain ⟨fn, hf, b, hb, ⟨hN, hcap⟩, t, ht, ⟨ex, s'⟩, hcode, e⟩ := e
    have hN := ble_of hN
    have hcap := ble_of hcap
    obtain ⟨hc, H⟩ := code_sound hm hcap (call_sound hm fuel n) b hcode
    have fin : ∀ l, resV P s' fn.results.toList = some l → (v, h', c') = (mkRes l, s'.h, s'.c) → (ex = .normal ∨ ex = .ret) → c ≤ c' ∧ ∀ ρ w (us : List Value), GOK ρ → DenL ρ args us → Lay ρ h w → Free ρ c c' → Calls P f us.toArray w fun e w' => ∃ u ρ', e = .returned u ∧ Den ρ' v u ∧ Ran ρ h c w ρ' h' c' w' := by
      intro l hl he hex
      injection he with e1 e2
      injection e2 with e2 e3
      subst e1 e2 e3
      refine ⟨hc, fun ρ w us g d ly f => ?_⟩
      have hlen := d.len
      refine calls_of_wp hf hb (H ρ _ w _ g ⟨by simp; omega, fun k x hk => ?_⟩ ly f fun ρ' a' w' m' rn dd => ?_)
      · rcases startT_get ht (by omega) k x hk with ⟨_, h2⟩ | h2
        · rw [Nat.sub_zero] at h2
          obtain ⟨u, g1, g2⟩ := d.at h2
          have hlt := (List.getElem?_eq_some_iff.1 g1).1
          refine ⟨by omega, ?_⟩
          have : us[k] = u := (List.getElem?_eq_some_iff.1 g1).2
          simp [Array.getD_eq_getD_getElem?, Array.getElem?_append, hlt, this, g2]
        · cases h2
      · obtain ⟨vs, k1, k2⟩ := resV_sound m' rn.lay hl
        rcases hex with rfl | rfl
        · exact ⟨dd, _, results_run k2, _, ρ', rfl, mkRes_den k1, rn⟩
        · exact ⟨dd, _, results_run k2, _, ρ', rfl, mkRes_den k1, rn⟩
    cases ex with
    | normal =>
      simp only [bd_some, Option.some.injEq] at e
      obtain ⟨l, hl, he⟩ := e
      exact fin l hl he.symm (.inl rfl)
    | ret =>
      simp only [bd_some, Option.some.injEq] at e
      obtain ⟨l, hl, he⟩ := e
      exact fin l hl he.symm (.inr rfl)
    | exit j => cases e
/-- at the start nothing but the program's variables has a name -/
def rn0 : Rn := fun n => if gbase ≤ n then some ⟨n - gbase, 0, 0⟩ else none
theorem rn0_ok : GOK rn0 := fun g => ⟨⟨g, 0, 0⟩, by simp [rn0], rfl⟩
theorem rn0_free {c c' : Nat} (h : c' ≤ gbase) : Free rn0 c c' := fun n _ h2 => by
  unfold rn0
  rw [if_neg (by omega)]
/-- the call of a function without memory of its caller's: the kernel's own run says what it hands back -/
theorem closed_call (hm : P.follows .mixedOrders = true) {fuel n : Nat} {f : FuncId} {args : List Value} {c : Nat} {v : Value} {h' : Hp} {c' : Nat} (hr : call P fuel n f args .lf c = some (v, h', c')) (ha : flats args = true) (hv : flat v = true) (hc : Nat.ble c' gbase = true) (w : World) :
    Calls P f args.toArray w fun e w' => e = .returned v ∧ Below w.heap.size w w' := by
  refine ((call_sound hm fuel n f args .lf c v h' c' hr).2 rn0 w args rn0_ok (DenL.flat ha) lay_lf (rn0_free (ble_of hc))).mono ?_
  rintro e w' ⟨u, ρ', rfl, d, rn⟩
  refine ⟨by rw [d.flat_eq hv], rn.os, rn.tape, rn.output, rn.size, fun i hi => rn.frame i hi ?_⟩
  rintro ⟨n, o, x, e, _⟩
  cases e
/-- the same, by a test -/
noncomputable def says (P : Program) (fuel n : Nat) (f : FuncId) (args : List Value) (v : Value) : Bool := match call P fuel n f args .lf 0 with
  | some (u, _, c') => veq u v && Nat.ble c' gbase
  | none => false
theorem closed_says (hm : P.follows .mixedOrders = true) {fuel n : Nat} {f : FuncId} {args : List Value} {v : Value} (ha : flats args = true) (hv : flat v = true) (hr : says P fuel n f args v = true) (w : World) :
    Calls P f args.toArray w fun e w' => e = .returned v ∧ Below w.heap.size w w' := by
  unfold says at hr
  split at hr
  · rename_i u h' c' hc
    simp only [Bool.and_eq_true] at hr
    have := veq_eq hr.1
    subst this
    exact closed_call hm hc ha hv hr.2 w
  · cases hr
end
end Cx
end Go.Proofs.YteplckkoiffnnaaGreatDoor

/-
  Closed runs: a function that defers a call which recovers, where nothing panics.
-/
namespace Go.Proofs.YteplckkoiffnnaaGreatDoor
open Go.RowKit
namespace Cx
set_option linter.unusedVariables false
set_option linter.unusedSimpArgs false

/-- a body that lays one call: what is ahead, the operations ahead in its region, whose call it is, what is behind -/
structure Dsh where
  c0 : Code
  os : List Oper
  x : Operand
  rest : Code
/-- the last of them lays a call -/
def cutD : List Oper → Option (List Oper × Operand)
  | [] => none
  | [o] => match o.op with
    | .defer ⟨.value x, ⟨[]⟩, ⟨[]⟩⟩ => match o.dst, o.guard with
      | none, none => some ([], x)
      | _, _ => none
    | _ => none
  | o :: l => match cutD l with
    | some (r, x) => some (o :: r, x)
    | none => none
def shapeD (b : Code) : Option Dsh := match b with
  | .seq c0 (.seq (.region _ ⟨os⟩ false) rest) => match cutD os with
    | some (l, x) => some ⟨c0, l, x, rest⟩
    | none => none
  | _ => none
/-- a body whose first operation recovers -/
structure Rsh where
  id : Nat
  all : List Oper
  d : Nat
  l : List Oper
  rest : Code
def shapeR (b : Code) : Option Rsh := match b with
  | .seq (.region id ⟨o :: l⟩ false) rest => match o.op with
    | .call ⟨.builtin .recover, ⟨[]⟩, ⟨[]⟩⟩ => match o.dst, o.guard with
      | some d, none => some ⟨id, o :: l, d, l, rest⟩
      | _, _ => none
    | _ => none
  | _ => none
noncomputable section
def done : Ex → Bool
  | .exit _ => false
  | _ => true
/-- the deferred call: what is behind it -/
def lateV (P : Program) (fuel : Nat) (call : Callee) (g : FuncId) (caps : List Value) (h : Hp) (c : Nat) : Option (Hp × Nat) :=
  bd P.funcs[g]? fun fn => bd fn.body fun b => bd (shapeR b) fun sh => gd (Nat.ble caps.length fn.ntmps && (Nat.ble fn.ntmps cap0 && (match fn.results with
    | ⟨[]⟩ => true
    | _ => false))) (bd (startT caps 0 .lf) fun t => bd (put fn.ntmps t h c (some sh.d) .nilIface) fun s => bd (steps P call fn.ntmps sh.all sh.l s) fun s => bd (code P call fuel fn.ntmps sh.rest s) fun r => gd (done r.1) (some (r.2.h, r.2.c)))
def stepX (P : Program) (fuel : Nat) (call : Callee) (f : FuncId) (args : List Value) (h : Hp) (c : Nat) : Option (Value × Hp × Nat) := bd P.funcs[f]? fun fn => bd fn.body fun b => gd (Nat.ble args.length fn.ntmps && Nat.ble fn.ntmps cap0) (bd (startT args 0 .lf) fun t => Option.rec (motive := fun _ => Option (Value × Hp × Nat))
    (bd (code P call fuel fn.ntmps b ⟨t, h, c⟩) fun r => gd (done r.1) (bd (resV P r.2 fn.results.toList) fun l => some (mkRes l, r.2.h, r.2.c)))
    (fun sh => bd (code P call fuel fn.ntmps sh.c0 ⟨t, h, c⟩) fun r0 => gd (match r0.1 with
      | .normal => true
      | _ => false) (bd (steps P call fn.ntmps sh.os sh.os r0.2) fun s => bd (funV (evl s.t sh.x)) fun q => gd (canEnter P q.1) (bd (code P call fuel fn.ntmps sh.rest s) fun r => gd (done r.1)
        (bd (lateV P fuel call q.1 q.2 r.2.h r.2.c) fun z => bd (resV P ⟨r.2.t, z.1, z.2⟩ fn.results.toList) fun l => some (mkRes l, z.1, z.2)))))
    (shapeD b))
def callX (P : Program) (fuel : Nat) : Nat → Callee
  | 0, _, _, _, _ => none
  | n + 1, f, args, h, c => stepX P fuel (callX P fuel n) f args h c
end
theorem cutD_some : ∀ {l : List Oper} {r : List Oper} {x : Operand}, cutD l = some (r, x) → ∃ o : Oper, l = r ++ [o] ∧ o.op = .defer { callee := .value x, args := #[], argTypes := #[] } ∧ o.dst = none ∧ o.guard = none
  | [], r, x, h => by cases h
  | [o], r, x, h => by
    unfold cutD at h
    split at h
    · rename_i ho
      split at h
      · rename_i h1 h2
        injection h with h
        injection h with h3 h4
        subst h3 h4
        exact ⟨o, rfl, ho, h1, h2⟩
      · cases h
    · cases h
  | o :: p :: l, r, x, h => by
    unfold cutD at h
    split at h
    · rename_i r' x' e
      injection h with h
      injection h with h1 h2
      subst h1 h2
      obtain ⟨q, e1, e2⟩ := cutD_some e
      exact ⟨q, by rw [e1]; rfl, e2⟩
    · cases h
theorem shapeD_some {b : Code} {sh : Dsh} (h : shapeD b = some sh) : ∃ (id : Nat) (od : Oper), b = .seq sh.c0 (.seq (.region id (sh.os ++ [od]).toArray false) sh.rest) ∧ od.op = .defer { callee := .value sh.x, args := #[], argTypes := #[] } ∧ od.dst = none ∧ od.guard = none := by
  unfold shapeD at h
  split at h
  · split at h
    · rename_i id os rest _ _ _ e
      injection h with h
      subst h
      obtain ⟨o, e1, e2⟩ := cutD_some e
      exact ⟨_, o, by rw [e1], e2⟩
    · cases h
  · cases h
theorem shapeR_some {b : Code} {sh : Rsh} (h : shapeR b = some sh) : ∃ o : Oper, b = .seq (.region sh.id sh.all.toArray false) sh.rest ∧ sh.all = o :: sh.l ∧ o.op = .call { callee := .builtin .recover, args := #[], argTypes := #[] } ∧ o.dst = some sh.d ∧ o.guard = none := by
  unfold shapeR at h
  split at h
  · split at h
    · rename_i ho
      split at h
      · rename_i h1 h2
        injection h with h
        subst h
        exact ⟨_, rfl, rfl, ho, h1, h2⟩
      · cases h
    · cases h
  · cases h
section
variable {P : Program} {call : Callee} {N : Nat}
theorem wpList_append {ops : Array Oper} {Q : Exit → Act → World → Prop} {l2 : List Oper} : ∀ {l1 : List Oper} {a : Act} {w : World}, wpList P ops (Exit.then (wpList P ops Q l2) Q) l1 a w → wpList P ops Q (l1 ++ l2) a w
  | [], a, w, h => h
  | o :: l, a, w, h => by
    have out : LetsOut (Exit.then (wpList P ops Q l2) Q) → LetsOut Q := fun ⟨a, w, h⟩ => ⟨a, w, h⟩
    simp only [List.cons_append]
    unfold wpList at h ⊢
    split
    · rename_i hw
      rw [if_pos hw] at h
      rcases h with h | ⟨h1, h2⟩
      · left
        unfold Oper.wp at *
        generalize (execOp a.eval o).run P w = r at *
        cases r with
        | ok n w' =>
          cases n <;> simp only [Oper.upon] at h ⊢ <;> first
            | exact h.elim
            | exact wpList_append h
            | exact Calls.mono h fun e w'' he => by
                cases e with
                | returned v => exact wpList_append he
                | panicked c => exact he
                | outgrown => exact out he
            | exact Rows.mono h fun v w'' he => wpList_append he
        | halt x w' => cases x <;> simp only [Oper.upon] at h ⊢; exact h
      · exact .inr ⟨h1, out h2⟩
    · rename_i hw
      rw [if_neg hw] at h
      exact wpList_append h
theorem want_app {all x : List Oper} {t : Tm} {o : Oper} {b : Bool} (h : want all t o = some b) : want (all ++ x) t o = some b := by
  unfold want at h ⊢
  split at h
  · exact h
  · simp only [bd_some, nth_eq] at h ⊢
    obtain ⟨oj, hj, d, hd, h⟩ := h
    exact ⟨oj, by rw [List.getElem?_append_left (List.getElem?_eq_some_iff.1 hj).1]; exact hj, d, hd, h⟩
theorem step_app {all x : List Oper} {o : Oper} {s s' : S} (h : step P call N all o s = some s') : step P call N (all ++ x) o s = some s' := by
  obtain ⟨t, hh, c⟩ := s
  let K : Bool → Option S := fun w => Bool.rec (motive := fun _ => Option S) (put N t hh c o.dst undef)
    (bd (opV P t hh c o) fun r => OR.rec (motive := fun _ => Option S) (fun v h c => put N t h c o.dst v) (fun f args => bd (call f args hh c) fun r => put N t r.2.1 r.2.2 o.dst r.1) r) w
  have h : bd (want all t o) K = some s' := h
  show bd (want (all ++ x) t o) K = some s'
  rw [bd_some] at h ⊢
  obtain ⟨b, hb, h⟩ := h
  exact ⟨b, want_app hb, h⟩
theorem steps_app {all x : List Oper} : ∀ {l : List Oper} {s s' : S}, steps P call N all l s = some s' → steps P call N (all ++ x) l s = some s'
  | [], s, s', h => h
  | o :: l, s, s', h => by
    have h : bd (step P call N all o s) (steps P call N all l) = some s' := h
    show bd (step P call N (all ++ x) o s) (steps P call N (all ++ x) l) = some s'
    rw [bd_some] at h ⊢
    obtain ⟨s1, h1, h2⟩ := h
    exact ⟨s1, step_app h1, steps_app h2⟩
theorem steps_soundS (hN : N ≤ cap0) (hcall : CallOK P call) {all : List Oper} : ∀ {l : List Oper} {k : Nat} {s s' : S}, (∀ j, l[j]? = all[k + j]?) → steps P call N all l s = some s' → s.c ≤ s'.c ∧ ∀ ρ a w (Q : Exit → Act → List Frame → World → Prop) cs, GOK ρ → TmOK N s.t ρ a → Lay ρ s.h w → Free ρ s.c s'.c → Go N s s' ρ a w (fun a' w' => Q .normal a' cs w') → wpOpsS P all.toArray Q (List.range' k l.length) a cs w
  | [], k, s, s', _, h => by
    have h : some s = some s' := h
    injection h with h
    subst h
    exact ⟨Nat.le_refl _, fun ρ a w Q cs g m l f hk => hk ρ a w m (.refl l) rfl⟩
  | o :: l, k, s, s', hl, h => by
    have h : bd (step P call N all o s) (steps P call N all l) = some s' := h
    rw [bd_some] at h
    obtain ⟨s1, h1, h2⟩ := h
    obtain ⟨c1, H1⟩ := step_sound hN hcall h1
    obtain ⟨c2, H2⟩ := steps_soundS hN hcall (k := k + 1) (fun j => by have := hl (j + 1); simp at this; rw [this]; congr 1; omega) h2
    refine ⟨Nat.le_trans c1 c2, fun ρ a w Q cs g m ly f hk => ?_⟩
    have ho : all.toArray[k]? = some o := by have := hl 0; simp at this; simpa using this.symm
    have key := H1 ρ a w (fun e a' w' => Q e a' cs w') (fun a' w' => wpOpsS P all.toArray Q (List.range' (k + 1) l.length) a' cs w') g m ly (f.left c2) fun ρ' a' w' m' rn d => H2 ρ' a' w' Q cs (g.le rn.le) m' rn.lay (rn.free f) fun ρ2 a2 w2 m2 rn2 d2 => hk ρ2 a2 w2 m2 (rn.trans rn2) (d2.trans d)
    show wpOpsS P all.toArray Q (k :: List.range' (k + 1) l.length) a cs w
    unfold wpOpsS
    simp only [ho]
    split
    · rename_i hw
      rw [if_pos hw] at key
      unfold Oper.wp at key
      split
      · rename_i w' hr
        rw [hr] at key
        exact key.elim
      · rename_i r hr
        exact key
    · rename_i hw
      rw [if_neg hw] at key
      exact key
theorem late_sound (hm : P.follows .mixedOrders = true) (hcall : CallOK P call) {fuel : Nat} {g : FuncId} {caps : List Value} {h h' : Hp} {c c' : Nat} (e : lateV P fuel call g caps h c = some (h', c')) : c ≤ c' ∧ ∀ ρ w (us : List Value), GOK ρ → DenL ρ caps us → Lay ρ h w → Free ρ c c' →
    CallsD P g us.toArray .returning w fun e u' w' => (∃ v, e = .returned v) ∧ u' = .returning ∧ ∃ ρ', Ran ρ h c w ρ' h' c' w' := by
  simp only [lateV, bd_some, gd_some, Bool.and_eq_true, Option.some.injEq, Prod.mk.injEq] at e
  obtain ⟨fn, hf, b, hb, sh, hsh, ⟨hN, hcap, hres⟩, t, ht, s1, hput, s2, hst, ⟨ex, s3⟩, hcode, hd, rfl, rfl⟩ := e
  have hN := ble_of hN
  have hcap := ble_of hcap
  have hres : fn.results = #[] := by
    split at hres
    · assumption
    · cases hres
  obtain ⟨o, rfl, hall, ho, hdst, hg⟩ := shapeR_some hsh
  obtain ⟨p1, p2, p3⟩ := put_sound (s := ⟨t, h, c⟩) hput hcap
  simp only at p1 p2 p3
  obtain ⟨c1, H1⟩ := steps_soundS hcap hcall (k := 1) (fun j => by rw [hall, show 1 + j = j + 1 by omega]; simp) hst
  obtain ⟨c2, H2⟩ := code_sound hm hcap hcall sh.rest hcode
  rw [p2] at c1 H1
  refine ⟨Nat.le_trans c1 c2, fun ρ w us gk d ly f => ?_⟩
  have hlen := d.len
  refine callsD_of_wpS hf hb fun c₀ cs hc => wpS_seq (wpS_region ?_)
  have tm0 : TmOK fn.ntmps t ρ { tmps := us.toArray ++ Array.replicate (fn.ntmps - us.toArray.size) undef, defers := [] } := by
    refine ⟨by simp; omega, fun k x hk => ?_⟩
    rcases startT_get ht (by omega) k x hk with ⟨_, h2⟩ | h2
    · rw [Nat.sub_zero] at h2
      obtain ⟨u, g1, g2⟩ := d.at h2
      have hlt := (List.getElem?_eq_some_iff.1 g1).1
      refine ⟨by omega, ?_⟩
      have : us[k] = u := (List.getElem?_eq_some_iff.1 g1).2
      simp [Array.getD_eq_getD_getElem?, Array.getElem?_append, hlt, this, g2]
    · cases h2
  obtain ⟨tm1, df⟩ := p3 ρ _ .nilIface tm0 (.flat rfl)
  have hrun : ∀ ev : Operand → Value, (execOp ev o).run P w = .ok .recover w := fun ev => by
    simp [execOp, ho, resolve, invoke, builtin]
  have hwt : ∀ y, Region.wanted o y = true := fun y => by unfold Region.wanted; rw [hg]
  have hrec : recoverD (c₀ :: cs) = none := by simp [recoverD, hc]
  have h0 : sh.all.toArray[0]? = some o := by rw [hall]; simp
  have hrg : List.range sh.all.toArray.size = 0 :: List.range' 1 sh.l.length := by
    rw [hall, List.range_eq_range']
    simp [List.range'_succ]
  rw [hrg]
  unfold wpOpsS
  simp only [h0, hwt, if_true, hrun, hrec, hdst]
  refine H1 ρ _ w _ _ gk tm1 (by rw [p1]; exact ly) (f.left c2) fun ρ1 a1 w1 m1 rn1 d1 => ?_
  rw [p1, p2] at rn1
  refine wpS_of_wp (H2 ρ1 a1 w1 _ (gk.le rn1.le) m1 rn1.lay (rn1.free f) fun ρ2 a2 w2 m2 rn2 d2 => ?_)
  have hr2 : (results fn a2.tmps).run P w2 = .ok (.tuple #[]) w2 := results_run (vs := []) (by rw [hres]; rfl)
  have fin : a2.defers = [] ∧ ∃ u', c₀ :: cs = { c₀ with mode := u' } :: cs ∧ ∃ v, (results fn a2.tmps).run P w2 = .ok v w2 ∧ ((∃ v', Ending.returned v = .returned v') ∧ u' = .returning ∧ ∃ ρ', Ran ρ h c w ρ' s3.h s3.c w2) :=
    ⟨by rw [d2, d1, df], .returning, by rw [← hc], _, hr2, ⟨_, rfl⟩, rfl, ρ2, rn1.trans rn2⟩
  cases ex with
  | normal => exact fin
  | ret => exact fin
  | exit j => cases hd
theorem leaves_ret {fn : Func} {tmps : Array Value} {R : Ending → World → Prop} {g : FuncId} {caps : List Value} {w : World} (hen : canEnter P g = true)
    (h : CallsD P g caps.toArray .returning w fun e u' w' => (∃ v, e = .returned v) ∧ u' = .returning ∧ ∃ v, (results fn tmps).run P w' = .ok v w' ∧ R (.returned v) w') : Leaves P fn tmps R [{ target := .fn (.func g) caps.toArray, args := #[] }] .returning w := by
  have hi : (invoke (.fn (.func g) caps.toArray) #[]).run P w = .ok (.enter g caps.toArray) w := by
    have := canEnter_sound hen caps.toArray w
    simpa [invoke] using this
  refine leaves_cons (by simp) hi (h.mono ?_)
  rintro e u' w' ⟨⟨v, rfl⟩, rfl, v2, h1, h2⟩
  exact ⟨v2, h1, h2⟩
theorem stepX_sound (hm : P.follows .mixedOrders = true) (fuel : Nat) {call : Callee} (ih : CallOK P call) : CallOK P (stepX P fuel call) := fun f args h c v h' c' e => by
    have e : bd P.funcs[f]? (fun fn => bd fn.body fun b => gd (Nat.ble args.length fn.ntmps && Nat.ble fn.ntmps cap0) (bd (startT args 0 .lf) fun t => Option.rec (motive := fun _ => Option (Value × Hp × Nat))
      (bd (code P call fuel fn.ntmps b ⟨t, h, c⟩) fun r => gd (done r.1) (bd (resV P r.2 fn.results.toList) fun l => some (mkRes l, r.2.h, r.2.c)))
      (fun sh => bd (code P call fuel fn.ntmps sh.c0 ⟨t, h, c⟩) fun r0 => gd (match r0.1 with
        | .normal => true
        | _ => false) (bd (steps P call fn.ntmps sh.os sh.os r0.2) fun s => bd (funV (evl s.t sh.x)) fun q => gd (canEnter P q.1) (bd (code P call fuel fn.ntmps sh.rest s) fun r => gd (done r.1)
          (bd (lateV P fuel call q.1 q.2 r.2.h r.2.c) fun z => bd (resV P ⟨r.2.t, z.1, z.2⟩ fn.results.toList) fun l => some (mkRes l, z.1, z.2)))))
      (shapeD b))) = some (v, h', c') := e
    simp only [bd_some, gd_some, Bool.and_eq_true] at e
    obtain ⟨fn, hf, b, hb, ⟨hN, hcap⟩, t, ht, e⟩ := e
    have hN := ble_of hN
    have hcap := ble_of hcap
    have tm0 : ∀ {ρ : Rn} {us : List Value}, DenL ρ args us → TmOK fn.ntmps t ρ { tmps := us.toArray ++ Array.replicate (fn.ntmps - us.toArray.size) undef, defers := [] } := fun {ρ us} d => by
      have hlen := d.len
      refine ⟨by simp; omega, fun k x hk => ?_⟩
      rcases startT_get ht (by omega) k x hk with ⟨_, h2⟩ | h2
      · rw [Nat.sub_zero] at h2
        obtain ⟨u, g1, g2⟩ := d.at h2
        have hlt := (List.getElem?_eq_some_iff.1 g1).1
        refine ⟨by omega, ?_⟩
        have : us[k] = u := (List.getElem?_eq_some_iff.1 g1).2
        simp [Array.getD_eq_getD_getElem?, Array.getElem?_append, hlt, this, g2]
      · cases h2
    cases hsh : shapeD b with
    | none =>
      rw [hsh] at e
      have e : bd (code P call fuel fn.ntmps b ⟨t, h, c⟩) (fun r => gd (done r.1) (bd (resV P r.2 fn.results.toList) fun l => some (mkRes l, r.2.h, r.2.c))) = some (v, h', c') := e
      simp only [bd_some, gd_some, Option.some.injEq, Prod.mk.injEq] at e
      obtain ⟨⟨ex, s'⟩, hcode, hd, l, hl, rfl, rfl, rfl⟩ := e
      obtain ⟨hc, H⟩ := code_sound hm hcap ih b hcode
      refine ⟨hc, fun ρ w us g d ly f => calls_of_wp hf hb (H ρ _ w _ g (tm0 d) ly f fun ρ' a' w' m' rn dd => ?_)⟩
      obtain ⟨vs, k1, k2⟩ := resV_sound m' rn.lay hl
      cases ex with
      | normal => exact ⟨dd, _, results_run k2, _, ρ', rfl, mkRes_den k1, rn⟩
      | ret => exact ⟨dd, _, results_run k2, _, ρ', rfl, mkRes_den k1, rn⟩
      | exit j => cases hd
    | some sh =>
      rw [hsh] at e
      have e : bd (code P call fuel fn.ntmps sh.c0 ⟨t, h, c⟩) (fun r0 => gd (match r0.1 with
        | .normal => true
        | _ => false) (bd (steps P call fn.ntmps sh.os sh.os r0.2) fun s => bd (funV (evl s.t sh.x)) fun q => gd (canEnter P q.1) (bd (code P call fuel fn.ntmps sh.rest s) fun r => gd (done r.1)
          (bd (lateV P fuel call q.1 q.2 r.2.h r.2.c) fun z => bd (resV P ⟨r.2.t, z.1, z.2⟩ fn.results.toList) fun l => some (mkRes l, z.1, z.2))))) = some (v, h', c') := e
      simp only [bd_some, gd_some, Option.some.injEq, Prod.mk.injEq] at e
      obtain ⟨⟨e0, s0⟩, hc0, he0, s1, hs1, q, hq, hen, ⟨ex, s2⟩, hc2, hd, z, hz, l, hl, rfl, rfl, rfl⟩ := e
      obtain ⟨id, od, rfl, hod, hdst, hgd⟩ := shapeD_some hsh
      have he0 : e0 = .normal := by cases e0 <;> first | rfl | cases he0
      subst he0
      obtain ⟨k0, H0⟩ := code_sound hm hcap ih sh.c0 hc0
      obtain ⟨k1, H1⟩ := steps_sound hcap ih (steps_app (x := [od]) hs1)
      obtain ⟨k2, H2⟩ := code_sound hm hcap ih sh.rest hc2
      obtain ⟨k3, H3⟩ := late_sound hm ih (show lateV P fuel call q.1 q.2 s2.h s2.c = some (z.1, z.2) from hz)
      simp only at k0 k1 k2 k3
      refine ⟨by omega, fun ρ w us g d ly f => calls_of_wp_defers hf hb (wp_seq ?_)⟩
      refine H0 ρ _ w _ g (tm0 d) ly (f.left (by omega)) fun ρ0 a0 w0 m0 rn0 d0 => ?_
      refine wp_seq (wp_region_list ?_)
      have f0 := rn0.free f
      rw [show ((sh.os ++ [od]).toArray).toList = sh.os ++ [od] from rfl]
      refine wpList_append (H1 ρ0 a0 w0 _ (g.le rn0.le) m0 rn0.lay (f0.left (by omega)) fun ρ1 a1 w1 m1 rn1 d1 => ?_)
      have rn01 := rn0.trans rn1
      have f1 := rn01.free f
      show wpList P _ _ [od] a1 w1
      unfold wpList
      have hwt : ∀ y, Region.wanted od y = true := fun y => by unfold Region.wanted; rw [hgd]
      rw [if_pos (hwt _)]
      left
      obtain ⟨us1, hev, dus⟩ := (ev_sound (g.le rn01.le) (funV_some hq) fun k _ hg => (m1.2 k _ hg).2 : Den ρ1 _ (a1.eval sh.x)).fn_inv
      unfold Oper.wp
      have hrun : (execOp a1.eval od).run P w1 = .ok (.defer { target := .fn (.func q.1) us1.toArray, args := #[] }) w1 := by
        simp [execOp, hod, resolve, hev, Deferred.ofValue]
      rw [hrun]
      simp only [Oper.upon, hdst]
      have m1' : TmOK fn.ntmps s1.t ρ1 { a1 with defers := { target := .fn (.func q.1) us1.toArray, args := #[] } :: a1.defers } := m1
      refine H2 ρ1 _ w1 _ (g.le rn01.le) m1' rn01.lay (f1.left k3) fun ρ2 a2 w2 m2 rn2 d2 => ?_
      have rn02 := rn01.trans rn2
      have hdf : a2.defers = [{ target := .fn (.func q.1) us1.toArray, args := #[] }] := by
        rw [d2]
        show _ :: a1.defers = _
        rw [d1, d0]
      have fin : Leaves P fn a2.tmps (fun e w' => ∃ u ρ', e = .returned u ∧ Den ρ' (mkRes l) u ∧ Ran ρ h c w ρ' z.1 z.2 w') a2.defers .returning w2 := by
        rw [hdf]
        refine leaves_ret hen ((H3 ρ2 w2 us1 (g.le rn02.le) (dus.le rn2.le) rn02.lay (rn02.free f)).mono ?_)
        rintro e u' w3 ⟨h1, h2, ρ3, rn3⟩
        obtain ⟨vs, e1, e2⟩ := resV_sound (s := ⟨s2.t, z.1, z.2⟩) (m2.le rn3.le) rn3.lay hl
        exact ⟨h1, h2, _, results_run e2, _, ρ3, rfl, mkRes_den e1, rn02.trans rn3⟩
      cases ex with
      | normal => exact fin
      | ret => exact fin
      | exit j => cases hd
theorem callX_sound (hm : P.follows .mixedOrders = true) (fuel : Nat) : ∀ n, CallOK P (callX P fuel n)
  | 0 => fun f args h c v h' c' e => by cases e
  | n + 1 => stepX_sound hm fuel (callX_sound hm fuel n)
end
end Cx
end Go.Proofs.YteplckkoiffnnaaGreatDoor

/-
  Closed runs: some functions are known by their contracts; the program's variables that are laid.
-/
namespace Go.Proofs.YteplckkoiffnnaaGreatDoor
open Go.RowKit
namespace Cx
set_option linter.unusedVariables false
set_option linter.unusedSimpArgs false
/-- runs, where some calls are told by orc -/
noncomputable def callO (P : Program) (fuel : Nat) (orc : Callee) (n : Nat) : Callee := Nat.rec (motive := fun _ => Callee) (fun _ _ _ _ => none) (fun _ ih f args h c => Option.rec (motive := fun _ => Option (Value × Hp × Nat)) (stepX P fuel ih f args h c) (fun r => some r) (orc f args h c)) n
/-- one function is told by g -/
noncomputable def orAt (F : FuncId) (g : List Value → Hp → Nat → Option (Value × Hp × Nat)) (rest : Callee) : Callee := fun f args h c => Bool.rec (motive := fun _ => Option (Value × Hp × Nat)) (rest f args h c) (g args h c) (Nat.beq f F)
noncomputable def orNone : Callee := fun _ _ _ _ => none
/-- told by a value alone -/
noncomputable def orVal (val : List Value → Option Value) (args : List Value) (h : Hp) (c : Nat) : Option (Value × Hp × Nat) := bd (val args) fun v => gd (flats args && flat v) (some (v, h, c))
section
variable {P : Program}
def OneOK (P : Program) (F : FuncId) (g : List Value → Hp → Nat → Option (Value × Hp × Nat)) : Prop := ∀ args h c v h' c', g args h c = some (v, h', c') → c ≤ c' ∧ ∀ ρ w (us : List Value), GOK ρ → DenL ρ args us → Lay ρ h w → Free ρ c c' →
    Calls P F us.toArray w fun e w' => ∃ u ρ', e = .returned u ∧ Den ρ' v u ∧ Ran ρ h c w ρ' h' c' w'
theorem DenL.flats_eq {ρ : Rn} : ∀ {l m : List Value}, DenL ρ l m → flats l = true → m = l
  | _, _, .nil, _ => rfl
  | _, _, .cons (x := x) (l := l) h t, hf => by
    unfold flats at hf
    split at hf
    · rename_i hx
      rw [h.flat_eq hx, DenL.flats_eq t hf]
    · cases hf
theorem orNone_ok : CallOK P orNone := fun f args h c v h' c' e => by cases e
theorem orAt_ok {F : FuncId} {g : List Value → Hp → Nat → Option (Value × Hp × Nat)} {rest : Callee} (hg : OneOK P F g) (hr : CallOK P rest) : CallOK P (orAt F g rest) := fun f args h c v h' c' e => by
  unfold orAt at e
  cases hb : Nat.beq f F with
  | true =>
    rw [hb] at e
    have := beq_of hb
    subst this
    exact hg args h c v h' c' e
  | false =>
    rw [hb] at e
    exact hr f args h c v h' c' e
theorem orVal_ok {F : FuncId} {val : List Value → Option Value} (H : ∀ args v, val args = some v → ∀ w, Calls P F args.toArray w fun e w' => e = .returned v ∧ Below w.heap.size w w') : OneOK P F (orVal val) := fun args h c v h' c' e => by
  simp only [orVal, bd_some, gd_some, Bool.and_eq_true, Option.some.injEq, Prod.mk.injEq] at e
  obtain ⟨u, hu, ⟨hf, hv⟩, rfl, rfl, rfl⟩ := e
  refine ⟨Nat.le_refl _, fun ρ w us g d l f => ?_⟩
  have := d.flats_eq hf
  subst this
  refine (H us u hu w).mono ?_
  rintro e w' ⟨rfl, hb⟩
  exact ⟨_, ρ, rfl, .flat hv, .of_below l hb⟩
theorem callO_sound (hm : P.follows .mixedOrders = true) (fuel : Nat) {orc : Callee} (ho : CallOK P orc) : ∀ n, CallOK P (callO P fuel orc n)
  | 0 => fun f args h c v h' c' e => by cases e
  | n + 1 => fun f args h c v h' c' e => by
    have ih := callO_sound hm fuel ho n
    have e : Option.rec (motive := fun _ => Option (Value × Hp × Nat)) (stepX P fuel (callO P fuel orc n) f args h c) (fun r => some r) (orc f args h c) = some (v, h', c') := e
    cases hr : orc f args h c with
    | none =>
      rw [hr] at e
      exact stepX_sound hm fuel ih f args h c v h' c' e
    | some r =>
      rw [hr] at e
      have e : some r = some (v, h', c') := e
      rw [e] at hr
      exact ho f args h c v h' c' hr
/-! the program's variables that are laid -/
/-- the variables' objects, by their blocks -/
noncomputable def hpK {β : Type} : List (Nat × Ob) → (Hp → β) → β
  | [], K => K .lf
  | x :: l, K => hpK l fun t => Tr.setK (some x.2) 48 t (gbase + x.1) K
noncomputable def hpT : List (Nat × Ob) → Hp
  | [] => .lf
  | x :: l => Tr.set (some x.2) 48 (hpT l) (gbase + x.1)
theorem hpK_eq {β : Type} : ∀ (l : List (Nat × Ob)) (K : Hp → β), hpK l K = K (hpT l)
  | [], K => rfl
  | x :: l, K => by
    show hpK l (fun t => Tr.setK (some x.2) 48 t (gbase + x.1) K) = _
    rw [hpK_eq l, Tr.setK_eq]
    rfl
/-- the first object of a block -/
def lkT : List (Nat × Ob) → Nat → Option Ob
  | [], _ => none
  | x :: l, g => if g = x.1 then some x.2 else lkT l g
def smallT (l : List (Nat × Ob)) : Bool := l.all fun x => Nat.blt x.1 1000000 && (Nat.beq x.2.k 0 && flats x.2.cs)
theorem hpT_get : ∀ (l : List (Nat × Ob)), smallT l = true → ∀ n o, (hpT l).get n = some o → gbase ≤ n ∧ lkT l (n - gbase) = some o ∧ o.k = 0 ∧ flats o.cs = true
  | [], _, n, o, h => by cases h
  | x :: l, hs, n, o, h => by
    simp only [smallT, List.all_cons, Bool.and_eq_true] at hs
    obtain ⟨⟨h1, h2, h3⟩, hs⟩ := hs
    have h1 := blt_of h1
    have e : (hpT (x :: l)).get n = if n = gbase + x.1 then some x.2 else (hpT l).get n := Tr.get_set _ _ _ _ _ (by unfold gbase; omega)
    rw [e] at h
    split at h
    · rename_i hn
      injection h with h
      subst h
      subst hn
      exact ⟨by omega, by simp [lkT], beq_of h2, h3⟩
    · rename_i hn
      obtain ⟨k1, k2, k3, k4⟩ := hpT_get l (by simpa [smallT, Bool.and_eq_true] using hs) n o h
      refine ⟨k1, ?_, k3, k4⟩
      unfold lkT
      rw [if_neg (by omega)]
      exact k2
/-- the variables' blocks, named -/
def rnT (l : List (Nat × Ob)) : Rn := fun n => if gbase ≤ n then some ⟨n - gbase, match lkT l (n - gbase) with
  | some o => o.cs.length
  | none => 0, 0⟩ else none
theorem rnT_ok (l : List (Nat × Ob)) : GOK (rnT l) := fun g => ⟨_, by unfold rnT; rw [if_pos (by omega)], by simp⟩
theorem rnT_free {l : List (Nat × Ob)} {c c' : Nat} (h : c' ≤ gbase) : Free (rnT l) c c' := fun n _ h2 => by
  unfold rnT
  rw [if_neg (by omega)]
/-- the variables hold what they are told to -/
def LaidT (l : List (Nat × Ob)) (w : World) : Prop := ∀ g o, lkT l g = some o → w.heap[g]? = some (.cells o.cs.toArray o.ty (0, 0))
theorem lay_hpT {l : List (Nat × Ob)} (hs : smallT l = true) {w : World} (h : LaidT l w) : Lay (rnT l) (hpT l) w := by
  refine ⟨fun n o e => ?_, fun n m o o' x y e1 e2 ex ey exy => ?_⟩
  · obtain ⟨k1, k2, k3, k4⟩ := hpT_get l hs n o e
    refine ⟨⟨n - gbase, o.cs.length, 0⟩, o.cs.toArray, ?_, k3.symm, by simp, h _ _ k2, by simp, ?_⟩
    · unfold rnT
      rw [if_pos k1, k2]
    · simpa using DenL.flat k4
  · obtain ⟨k1, _⟩ := hpT_get l hs n o e1
    obtain ⟨k2, _⟩ := hpT_get l hs m o' e2
    unfold rnT at ex ey
    rw [if_pos k1] at ex
    rw [if_pos k2] at ey
    injection ex with ex
    injection ey with ey
    subst ex ey
    simp only at exy
    omega
theorem veqs_eq {a b : List Value} (h : veqs a b = true) : a = b := (veq_n _).2 a b (Nat.le_refl _) h
/-- the variables hold what they held -/
noncomputable def keptT : List (Nat × Ob) → Hp → Bool
  | [], _ => true
  | x :: l, h => match h.get (gbase + x.1) with
    | some o => match Nat.beq o.ty x.2.ty && veqs o.cs x.2.cs with
      | true => keptT l h
      | false => false
    | none => false
theorem keptT_get : ∀ {l : List (Nat × Ob)} {h : Hp}, keptT l h = true → ∀ g o, lkT l g = some o → ∃ k, h.get (gbase + g) = some ⟨o.ty, k, o.cs⟩
  | x :: l, h, hk, g, o, e => by
    unfold keptT at hk
    split at hk
    · rename_i o' ho
      split at hk
      · rename_i hb
        simp only [Bool.and_eq_true] at hb
        unfold lkT at e
        split at e
        · rename_i hg
          injection e with e
          subst e
          subst hg
          obtain ⟨ty, k, cs⟩ := o'
          have h1 := beq_of hb.1
          have h2 := veqs_eq hb.2
          simp only at h1 h2
          subst h1 h2
          exact ⟨k, ho⟩
        · exact keptT_get hk g o e
      · cases hk
    · cases hk
/-- what there was stays, but for the variables: they hold what they held -/
theorem ran_below {l : List (Nat × Ob)} (hs : smallT l = true) {w : World} (hw : LaidT l w) {ρ' : Rn} {h' : Hp} {c' : Nat} {w' : World} (rn : Ran (rnT l) (hpT l) 0 w ρ' h' c' w') (hk : ∀ g o, lkT l g = some o → ∃ k, h'.get (gbase + g) = some ⟨o.ty, k, o.cs⟩) : Below w.heap.size w w' := by
  refine ⟨rn.os, rn.tape, rn.output, rn.size, fun i hi => ?_⟩
  by_cases ho : OwnF (rnT l) (hpT l).get i
  · obtain ⟨n, o, x, e1, e2, e3⟩ := ho
    obtain ⟨k1, k2, k3, k4⟩ := hpT_get l hs n o e1
    have ex : x.b = n - gbase ∧ x.sz = o.cs.length := by
      unfold rnT at e2
      rw [if_pos k1, k2] at e2
      have e2 := Option.some.inj e2
      exact ⟨(congrArg Bk.b e2).symm, (congrArg Bk.sz e2).symm⟩
    obtain ⟨k, hk⟩ := hk _ _ k2
    rw [Nat.add_sub_of_le k1] at hk
    obtain ⟨y, us, f1, f2, f3, f4, f5, f6⟩ := rn.lay.ob _ _ hk
    rw [rn.le _ _ e2] at f1
    have f1 := Option.some.inj f1
    rw [← f1] at f3 f4
    rw [ex.2] at f3
    have f6 : DenL ρ' o.cs (us.toList.take o.cs.length) := f6
    rw [List.take_of_length_le (by simp; omega)] at f6
    have := f6.flats_eq k4
    rw [← e3, f4, ex.1, hw _ _ k2, ← this]
  · exact rn.frame i hi ho
noncomputable def runO (P : Program) (fuel : Nat) (orc : Callee) (T : List (Nat × Ob)) (n : Nat) (f : FuncId) (args : List Value) : Option (Value × Hp × Nat) := hpK T fun h => bd (callO P fuel orc n f args h 0) fun r => gd (Nat.ble r.2.2 gbase && keptT T r.2.1) (some r)
theorem runO_sound (hm : P.follows .mixedOrders = true) {fuel n : Nat} {orc : Callee} (ho : CallOK P orc) {T : List (Nat × Ob)} (hs : smallT T = true) {f : FuncId} {args : List Value} {v : Value} {h' : Hp} {c' : Nat} (ha : flats args = true) (hr : runO P fuel orc T n f args = some (v, h', c')) {w : World} (hw : LaidT T w) :
    Calls P f args.toArray w fun e w' => ∃ u ρ', e = .returned u ∧ Den ρ' v u ∧ Ran (rnT T) (hpT T) 0 w ρ' h' c' w' ∧ Below w.heap.size w w' := by
  unfold runO at hr
  rw [hpK_eq] at hr
  simp only [bd_some, gd_some, Bool.and_eq_true, Option.some.injEq] at hr
  obtain ⟨⟨v', h2, c2⟩, hc, ⟨hb, hk⟩, e⟩ := hr
  injection e with e1 e2
  injection e2 with e2 e3
  subst e1 e2 e3
  refine ((callO_sound hm fuel ho n f args (hpT T) 0 _ _ _ hc).2 (rnT T) w args (rnT_ok T) (DenL.flat ha) (lay_hpT hs hw) (rnT_free (ble_of hb))).mono ?_
  rintro e w' ⟨u', ρ', rfl, d, rn⟩
  exact ⟨u', ρ', rfl, d, rn, ran_below hs hw rn (keptT_get hk)⟩
noncomputable def saysO (P : Program) (fuel : Nat) (orc : Callee) (T : List (Nat × Ob)) (n : Nat) (f : FuncId) (args : List Value) (v : Value) : Bool := match runO P fuel orc T n f args with
  | some r => veq r.1 v
  | none => false
theorem closed_saysO (hm : P.follows .mixedOrders = true) {fuel n : Nat} {orc : Callee} (ho : CallOK P orc) {T : List (Nat × Ob)} (hs : smallT T = true) {f : FuncId} {args : List Value} {v : Value} (ha : flats args = true) (hv : flat v = true) (hr : saysO P fuel orc T n f args v = true) {w : World} (hw : LaidT T w) :
    Calls P f args.toArray w fun e w' => e = .returned v ∧ Below w.heap.size w w' := by
  unfold saysO at hr
  split at hr
  · rename_i r hc
    obtain ⟨u, h', c'⟩ := r
    have := veq_eq hr
    subst this
    refine (runO_sound hm ho hs ha hc hw).mono ?_
    rintro e w' ⟨u', ρ', rfl, d, rn, hb⟩
    exact ⟨by rw [d.flat_eq hv], hb⟩
  · cases hr
/-- where one variable's number is not known: it is told what that variable holds at the end -/
noncomputable def saysM (P : Program) (fuel : Nat) (orc : Callee) (x : Nat × Ob) (T : List (Nat × Ob)) (n : Nat) (f : FuncId) (args : List Value) (v : Value) : Bool × Option Ob := hpK (x :: T) fun h => match callO P fuel orc n f args h 0 with
  | some (u, h', c') => (veq u v && (Nat.ble c' gbase && keptT T h'), h'.get (gbase + x.1))
  | none => (false, none)
theorem closed_saysM (hm : P.follows .mixedOrders = true) {fuel n : Nat} {orc : Callee} (ho : CallOK P orc) {x : Nat × Ob} {T : List (Nat × Ob)} (hs : smallT (x :: T) = true) {f : FuncId} {args : List Value} {v : Value} (ha : flats args = true) (hv : flat v = true) (hr : saysM P fuel orc x T n f args v = (true, some x.2)) {w : World} (hw : LaidT (x :: T) w) :
    Calls P f args.toArray w fun e w' => e = .returned v ∧ Below w.heap.size w w' := by
  unfold saysM at hr
  rw [hpK_eq] at hr
  split at hr
  · rename_i u h' c' hc
    simp only [Prod.mk.injEq, Bool.and_eq_true] at hr
    obtain ⟨⟨h1, h2, h3⟩, h4⟩ := hr
    have := veq_eq h1
    subst this
    refine ((callO_sound hm fuel ho n f args (hpT (x :: T)) 0 _ _ _ hc).2 (rnT (x :: T)) w args (rnT_ok _) (DenL.flat ha) (lay_hpT hs hw) (rnT_free (ble_of h2))).mono ?_
    rintro e w' ⟨u', ρ', rfl, d, rn⟩
    refine ⟨by rw [d.flat_eq hv], ran_below hs hw rn fun g o hg => ?_⟩
    unfold lkT at hg
    split at hg
    · rename_i hgx
      injection hg with hg
      subst hg hgx
      exact ⟨_, h4⟩
    · exact keptT_get h3 g o hg
  · cases hr
end
end Cx
end Go.Proofs.YteplckkoiffnnaaGreatDoor

/-
  Closed runs in the scripts' program: the functions that are told: digits, ParseInt of one digit, Split.
-/
namespace Go.Proofs.YteplckkoiffnnaaGreatDoor
open Go.RowKit
namespace Cx
set_option linter.unusedVariables false
set_option linter.unusedSimpArgs false
set_option maxRecDepth 100000
set_option maxHeartbeats 4000000

noncomputable def natI (n : Nat) : Value := Nat.rec (motive := fun _ => Value) (.int .i64 (.ofNat 0)) (fun m _ => .int .i64 (.ofNat (Nat.succ m))) n
theorem natI_eq (n : Nat) : natI n = .int .i64 (n : Int) := by cases n <;> rfl
noncomputable def valDig (args : List Value) : Option Value := match args with
  | [.string s] => gd (Nat.ble s.data.toList.length 1000) (some (natI (nd s.data.toList)))
  | _ => none
theorem pure_calls {f : FuncId} {args : List Value} {v : Value} {w : World} (h : Sy.PureR Tryz.prog (Sy.was w) f args v) : Calls Tryz.prog f args.toArray w fun e w' => e = .returned v ∧ Below w.heap.size w w' := h.below
theorem dig_ok : OneOK Tryz.prog 69 (orVal valDig) := orVal_ok fun args v hv w => by
  unfold valDig at hv
  split at hv
  · rename_i s
    rw [gd_some] at hv
    obtain ⟨h1, h2⟩ := hv
    injection h2 with h2
    have h1 := ble_of h1
    rw [natI_eq] at h2
    subst h2
    have := pure_calls (w := w) (sDigits (R := Sy.was w) s.data.toList (by omega))
    rwa [Sy.bs_data] at this
  · cases hv
noncomputable def valInt (args : List Value) : Option Value := match args with
  | [.string s, .int .i64 (.ofNat a), .int .i64 (.ofNat b)] => gd (Nat.beq a 10 && Nat.beq b 64) (match s.data.toList with
    | [x] => gd (isD x) (some (.tuple ⟨[natI (Nat.sub x.toNat 48), .nilIface]⟩))
    | [x, y] => gd (isD x && isD y) (some (.tuple ⟨[natI (Nat.add (Nat.mul 10 (Nat.sub x.toNat 48)) (Nat.sub y.toNat 48)), .nilIface]⟩))
    | _ => none)
  | _ => none
theorem one_digit : ∀ n : _root_.Fin 10, Lib.parseIntB 64 [UInt8.ofNat (48 + n.val)] = .ok ((n.val : Nat) : Int) := by decide
theorem two_digits : ∀ (m n : _root_.Fin 10), Lib.parseIntB 64 [UInt8.ofNat (48 + m.val), UInt8.ofNat (48 + n.val)] = .ok ((10 * m.val + n.val : Nat) : Int) := by decide
theorem int_ok : OneOK Tryz.prog 70 (orVal valInt) := orVal_ok fun args v hv w => by
  unfold valInt at hv
  split at hv
  · rename_i s a b
    rw [gd_some, Bool.and_eq_true] at hv
    obtain ⟨⟨ha, hb⟩, hv⟩ := hv
    have ha := beq_of ha
    have hb := beq_of hb
    subst ha hb
    split at hv
    · rename_i x hx
      rw [gd_some] at hv
      obtain ⟨hd, hv⟩ := hv
      injection hv with hv
      rw [natI_eq] at hv
      subst hv
      have hd : 48 ≤ x.toNat ∧ x.toNat ≤ 57 := by simpa [isD] using hd
      have key := one_digit ⟨x.toNat - 48, by omega⟩
      have hxx : UInt8.ofNat (48 + (x.toNat - 48)) = x := by
        rw [Nat.add_sub_of_le hd.1]
        exact UInt8.ofNat_toNat
      simp only [hxx] at key
      have := pure_calls (w := w) (sParse (R := Sy.was w) [x] (by simp) key)
      rw [← hx, Sy.bs_data] at this
      exact this
    · rename_i x y hx
      rw [gd_some, Bool.and_eq_true] at hv
      obtain ⟨⟨hd, hd2⟩, hv⟩ := hv
      injection hv with hv
      rw [natI_eq] at hv
      subst hv
      have hd : 48 ≤ x.toNat ∧ x.toNat ≤ 57 := by simpa [isD] using hd
      have hd2 : 48 ≤ y.toNat ∧ y.toNat ≤ 57 := by simpa [isD] using hd2
      have key := two_digits ⟨x.toNat - 48, by omega⟩ ⟨y.toNat - 48, by omega⟩
      have hxx : UInt8.ofNat (48 + (x.toNat - 48)) = x := by
        rw [Nat.add_sub_of_le hd.1]
        exact UInt8.ofNat_toNat
      have hyy : UInt8.ofNat (48 + (y.toNat - 48)) = y := by
        rw [Nat.add_sub_of_le hd2.1]
        exact UInt8.ofNat_toNat
      simp only [hxx, hyy] at key
      have := pure_calls (w := w) (sParse (R := Sy.was w) [x, y] (by simp) key)
      rw [← hx, Sy.bs_data] at this
      exact this
    · cases hv
  · cases hv
/-! Split -/
structure Cut where
  s : List UInt8
  b : UInt8
  ws : List (List UInt8)
def cuts : List Cut := [
  ⟨[99, 114, 101, 97, 116, 101, 32, 50, 32, 49], 32, [[99, 114, 101, 97, 116, 101], [50], [49]]⟩,
  ⟨[112, 97, 115, 116, 101, 32, 48, 32, 48, 32, 49, 32, 48, 32, 53, 44, 55], 32, [[112, 97, 115, 116, 101], [48], [48], [49], [48], [53, 44, 55]]⟩,
  ⟨[115, 117, 109, 32, 48, 32, 48, 32, 49, 32, 48], 32, [[115, 117, 109], [48], [48], [49], [48]]⟩,
  ⟨[53, 44, 55], 44, [[53], [55]]⟩]
def findCut (s : List UInt8) (b : UInt8) : List Cut → Option (List (List UInt8))
  | [] => none
  | c :: l => match bytesEq c.s s && Nat.beq c.b.toNat b.toNat with
    | true => some c.ws
    | false => findCut s b l
def cutOk (c : Cut) : Prop := Lib.splitK [c.b] 0 (c.s.count c.b) c.s = c.ws ∧ c.ws.length = c.s.count c.b + 1 ∧ c.s.length ≤ 100
theorem cuts_ok : ∀ c ∈ cuts, cutOk c := by unfold cutOk; decide +kernel
theorem findCut_ok {s : List UInt8} {b : UInt8} {ws : List (List UInt8)} : ∀ {l : List Cut}, (∀ c ∈ l, cutOk c) → findCut s b l = some ws → cutOk ⟨s, b, ws⟩
  | [], _, h => by cases h
  | c :: l, hc, h => by
    unfold findCut at h
    split at h
    · rename_i hb
      rw [Bool.and_eq_true] at hb
      injection h with h
      subst h
      have h1 := bytesEq_eq hb.1
      have h2 := UInt8.toNat_inj.1 (beq_of hb.2)
      have := hc c (List.mem_cons_self)
      obtain ⟨cs, cb, cw⟩ := c
      simp only at h1 h2
      subst h1 h2
      exact this
    · exact findCut_ok (fun c hm => hc c (List.mem_cons_of_mem _ hm)) h
noncomputable def strVs : List (List UInt8) → List Value
  | [] => []
  | w :: l => .string ⟨⟨w⟩⟩ :: strVs l
theorem strVs_eq : ∀ l, strVs l = l.map fun w => Value.string (Sy.bs w)
  | [] => rfl
  | w :: l => by rw [strVs, strVs_eq l]; rfl
theorem flats_strVs : ∀ l, flats (strVs l) = true
  | [] => rfl
  | w :: l => by simp [strVs, flats, flat, flats_strVs l]
noncomputable def numCell (o : Option Ob) : Bool := match o with
  | some ⟨_, _, [.int .i64 _]⟩ => true
  | _ => false
noncomputable def orSplit (args : List Value) (h : Hp) (c : Nat) : Option (Value × Hp × Nat) := match args with
  | [.string s, .string p] => match p.data.toList with
    | [b] => bd (findCut s.data.toList b cuts) fun ws => gd (numCell (h.get (gbase + 2))) (forceL (strVs ws) fun vs => bd (newV h c ⟨9, 0, vs⟩) fun r => some (.slice (some ⟨c, 0, none⟩) vs.length vs.length, r.1, r.2))
    | _ => none
  | _ => none
theorem split_eq (b : UInt8) (s : List UInt8) (k : Nat) : Lib.splitB (Sy.bs [b]) 0 k (Sy.bs s) = (Lib.splitK [b] 0 k s).map Sy.bs := by
  have h := Lib.splitB_data (Sy.bs [b]) 0 k (Sy.bs s)
  rw [Sy.bs_toList, Sy.bs_toList] at h
  rw [← h, List.map_map]
  have e : (Sy.bs ∘ fun x : ByteArray => x.data.toList) = id := by
    funext x
    exact Sy.bs_data x
  rw [e, List.map_id]
theorem split_ok : OneOK Tryz.prog 34 orSplit := fun args h c v h' c' e => by
  unfold orSplit at e
  split at e
  case h_2 => cases e
  rename_i s p
  split at e
  case h_2 => cases e
  rename_i b hp
  simp only [bd_some, gd_some, forceL_eq, Option.some.injEq, Prod.mk.injEq] at e
  obtain ⟨ws, hws, hnum, r, hr, rfl, rfl, rfl⟩ := e
  obtain ⟨hc, rfl⟩ := newV_some hr
  obtain ⟨hk, hlen, hsl⟩ := findCut_ok cuts_ok hws
  simp only at hk hlen hsl
  refine ⟨by simp only; omega, fun ρ w us g d l f => ?_⟩
  have := d.flats_eq (by rfl)
  subst this
  obtain ⟨m, hm⟩ : ∃ m, w.cell? ⟨2, 0, none⟩ = some (.int .i64 m) := by
    unfold numCell at hnum
    split at hnum
    · rename_i ty k m ho
      obtain ⟨x, us, f1, f2, f3, f4, f5, f6⟩ := l.ob _ _ ho
      obtain ⟨y, g1, g2⟩ := g 2
      rw [g1] at f1
      have f1 := Option.some.inj f1
      rw [← f1, g2] at f4
      have f6 := f6.flats_eq (by rfl)
      refine ⟨m, ?_⟩
      rw [cell_of_row w _ 0 us ty (0, 0) f4]
      have h0 : (us.toList.take [Value.int .i64 m].length)[0]? = some (.int .i64 m) := by rw [f6]; rfl
      rw [List.getElem?_take_of_lt (by simp)] at h0
      simpa using h0
    · cases hnum
  have hs : s = Sy.bs s.data.toList := (Sy.bs_data _).symm
  have hpp : p = Sy.bs [b] := by rw [← hp, Sy.bs_data]
  generalize hsl2 : s.data.toList = sl at *
  subst hs hpp
  have cc := Any.strings_Split lays146 (by kernel_rfl) (Sy.bs sl) (Sy.bs [b]) m w (by rw [Sy.bs_size]; omega) hm (by rw [Sy.bs_size]; exact Nat.le_refl _)
  have hcn : Lib.countB (Sy.bs sl) (Sy.bs [b]) = sl.count b := by
    show Lib.count (Sy.bs sl).data.toList (Sy.bs [b]).data.toList = _
    rw [Sy.bs_toList, Sy.bs_toList]
    exact Lib.count_one b sl
  rw [hcn, split_eq, hk, ← hlen] at cc
  have hvs : (ws.map Sy.bs).map Value.string = strVs ws := by rw [strVs_eq, List.map_map]; rfl
  rw [hvs] at cc
  have hl : (strVs ws).length = ws.length := by rw [strVs_eq]; simp
  refine cc.mono ?_
  rintro e w' ⟨rfl, rfl⟩
  have rn := Ran.new l hc f ⟨9, 0, strVs ws⟩ (strVs ws).toArray (by simp) (by simpa using DenL.flat (flats_strVs ws))
  refine ⟨_, _, rfl, ?_, rn⟩
  rw [hl]
  exact .slc (x := ⟨w.heap.size, (strVs ws).toArray.size, 0⟩) (by simp [upd]) (by unfold unk; have : sl.count b ≤ sl.length := List.count_le_length; omega)
end Cx
end Go.Proofs.YteplckkoiffnnaaGreatDoor

/-
  strings.Join's contract: laid by the kit's lay-shelf.mjs and lay-plain.mjs, made a template by wip/plain2tpl.py.
-/
namespace Go.Proofs.YteplckkoiffnnaaGreatDoor
open Go.Shelf
def lays156_ren : Go.Shelf.Ren := ⟨fun | 156 => 17 | 165 => 30 | 166 => 31 | 169 => 32 | 240 => 41 | 241 => 42 | 276 => 53 | 277 => 54 | n => n, fun | 31 => 29 | 9 => 9 | 3 => 3 | 4 => 4 | 0 => 0 | 20 => 20 | 72 => 75 | 76 => 79 | 70 => 73 | 37 => 28 | 75 => 78 | 127 => 101 | 164 => 128 | 5 => 5 | 80 => 81 | n => n, fun | n => n⟩
theorem lays156 : Go.Proofs.Lays.n156 Tryz.prog lays156_ren := {
  mixed := by kernel_rfl
  f156 := Tryz.func17.trans (congrArg some (by kernel_rfl))
  f165 := Tryz.func30.trans (congrArg some (by kernel_rfl))
  f166 := Tryz.func31.trans (congrArg some (by kernel_rfl))
  f169 := Tryz.func32.trans (congrArg some (by kernel_rfl))
  f240 := Tryz.func41.trans (congrArg some (by kernel_rfl))
  f241 := Tryz.func42.trans (congrArg some (by kernel_rfl))
  f276 := Tryz.func53.trans (congrArg some (by kernel_rfl))
  f277 := Tryz.func54.trans (congrArg some (by kernel_rfl))
  t0 := Tryz.underlying0
  a0 := Tryz.isAgg0
  z0 := Tryz.sizeOf0
  v0 := Tryz.zeroValue0
  t3 := Tryz.underlying3
  a3 := Tryz.isAgg3
  z3 := Tryz.sizeOf3
  v3 := Tryz.zeroValue3
  t4 := Tryz.underlying4
  a4 := Tryz.isAgg4
  z4 := Tryz.sizeOf4
  v4 := Tryz.zeroValue4
  t9 := Tryz.underlying9
  a9 := Tryz.isAgg9
  z9 := Tryz.sizeOf9
  v9 := Tryz.zeroValue9
  t20 := Tryz.underlying20
  a20 := Tryz.isAgg20
  z20 := Tryz.sizeOf20
  v20 := Tryz.zeroValue20
  t31 := Tryz.underlying29
  a31 := Tryz.isAgg29
  z31 := Tryz.sizeOf29
  v31 := Tryz.zeroValue29
  t37 := Tryz.underlying28
  a37 := Tryz.isAgg28
  z37 := Tryz.sizeOf28
  v37 := Tryz.zeroValue28
  t70 := Tryz.underlying73
  a70 := Tryz.isAgg73
  z70 := Tryz.sizeOf73
  v70 := Tryz.zeroValue73
  t72 := Tryz.underlying75
  a72 := Tryz.isAgg75
  z72 := Tryz.sizeOf75
  v72 := Tryz.zeroValue75
  t75 := Tryz.underlying78
  a75 := Tryz.isAgg78
  z75 := Tryz.sizeOf78
  v75 := Tryz.zeroValue78
  t76 := Tryz.underlying79
  a76 := Tryz.isAgg79
  z76 := Tryz.sizeOf79
  v76 := Tryz.zeroValue79
  t127 := Tryz.underlying101
  a127 := Tryz.isAgg101
  z127 := Tryz.sizeOf101
  v127 := Tryz.zeroValue101
  t164 := Tryz.underlying128
  a164 := Tryz.isAgg128
  z164 := Tryz.sizeOf128
  v164 := Tryz.zeroValue128 }
theorem builder_Extra_156 : Builder.Extra Tryz.prog lays156_ren := {
  sizeBuilder := by kernel_rfl
  liesBuilder := by kernel_rfl
  t5 := Tryz.underlying5
  a5 := Tryz.isAgg5
  z5 := Tryz.sizeOf5
  v5 := Tryz.zeroValue5
  infoByte := by kernel_rfl
  cellsByte := by kernel_rfl
  sizeByte := by kernel_rfl
  neB5 := by decide }
end Go.Proofs.YteplckkoiffnnaaGreatDoor

/-
  Closed runs in the scripts' program: strings.Join is told.
-/
namespace Go.Proofs.YteplckkoiffnnaaGreatDoor
open Go.RowKit
namespace Cx
set_option linter.unusedVariables false
set_option linter.unusedSimpArgs false
set_option maxRecDepth 100000
set_option maxHeartbeats 4000000

noncomputable def strL : List Value → Option (List (List UInt8))
  | [] => some []
  | .string s :: l => bd (strL l) fun r => some (s.data.toList :: r)
  | _ => none
theorem strL_some : ∀ {l : List Value} {ws : List (List UInt8)}, strL l = some ws → l = strVs ws
  | [], ws, h => by
    simp only [strL, Option.some.injEq] at h
    subst h
    rfl
  | .string s :: l, ws, h => by
    simp only [strL, bd_some, Option.some.injEq] at h
    obtain ⟨r, hr, rfl⟩ := h
    rw [strL_some hr]
    rfl
  | .bool _ :: _, _, h => by cases h
  | .int _ _ :: _, _, h => by cases h
  | .float _ _ :: _, _, h => by cases h
  | .complex _ _ _ :: _, _, h => by cases h
  | .pointer _ :: _, _, h => by cases h
  | .slice _ _ _ :: _, _, h => by cases h
  | .map _ :: _, _, h => by cases h
  | .chan _ :: _, _, h => by cases h
  | .func _ _ _ :: _, _, h => by cases h
  | .nilFunc :: _, _, h => by cases h
  | .iface _ _ :: _, _, h => by cases h
  | .nilIface :: _, _, h => by cases h
  | .agg _ :: _, _, h => by cases h
  | .tuple _ :: _, _, h => by cases h
/-- words, with a sign between them -/
noncomputable def joinL (sep : List UInt8) : List (List UInt8) → List UInt8
  | [] => []
  | w :: l => w ++ joinT sep l
where joinT (sep : List UInt8) : List (List UInt8) → List UInt8
  | [] => []
  | w :: l => sep ++ (w ++ joinT sep l)
theorem joinT_eq (sep : List UInt8) : ∀ l, joinL.joinT sep l = Lib.joinTail sep l
  | [] => rfl
  | w :: l => by
    show sep ++ (w ++ joinL.joinT sep l) = _
    rw [joinT_eq sep l]
    simp [Lib.joinTail]
theorem joinL_eq (sep : List UInt8) (l : List (List UInt8)) : joinL sep l = Lib.join l sep := by
  cases l with
  | nil => rfl
  | cons w l =>
    show w ++ joinL.joinT sep l = _
    rw [joinT_eq, Lib.join_cons]
noncomputable def orJoin (args : List Value) (h : Hp) (c : Nat) : Option (Value × Hp × Nat) := match args with
  | [.slice (some a) n cap, .string p] => gd (Nat.ble n cap && Nat.ble n 1000) (bd (readV h a n) fun vs => bd (strL vs) fun ws => forceL (joinL p.data.toList ws) fun r => gd (Nat.ble r.length 100000) (some (.string ⟨⟨r⟩⟩, h, c)))
  | _ => none
theorem join_ok : OneOK Tryz.prog 17 orJoin := fun args h c v h' c' e => by
  unfold orJoin at e
  split at e
  case h_2 => cases e
  rename_i a n cap p
  simp only [bd_some, gd_some, forceL_eq, Option.some.injEq, Prod.mk.injEq, Bool.and_eq_true] at e
  obtain ⟨⟨hn1, hn2⟩, vs, hvs, ws, hws, hlen, rfl, rfl, rfl⟩ := e
  have hn1 := ble_of hn1
  have hn2 := ble_of hn2
  have hlen := ble_of hlen
  have hvw := strL_some hws
  subst hvw
  refine ⟨Nat.le_refl _, fun ρ w us g d l f => ?_⟩
  obtain ⟨u, us', d1, rfl, dd⟩ : ∃ u us', Den ρ (.slice (some a) n cap) u ∧ us = u :: us' ∧ DenL ρ [.string p] us' := by
    cases d with
    | cons h t => exact ⟨_, _, h, rfl, t⟩
  obtain ⟨u2, rfl, d2⟩ : ∃ u, us' = [u] ∧ Den ρ (.string p) u := by
    cases dd with
    | cons h t => cases t; exact ⟨_, rfl, h⟩
  have := d2.str_inv
  subst this
  obtain ⟨bk, q, g1, g2, rfl, hq⟩ := d1.slc_inv
  obtain ⟨us3, k1, k2, k3⟩ := readV_sound l hvs g1
  have := k1.flats_eq (flats_strVs ws)
  subst this
  have hl : ws.length = n := by rw [← k2, strVs_eq]; simp
  have hcap : n ≤ q := by
    rcases hq with ⟨_, rfl⟩ | ⟨_, h, _⟩
    · exact hn1
    · exact h
  have hold : bk.b < w.heap.size := by
    have hvs' := hvs
    simp only [readV, bd_some] at hvs'
    obtain ⟨ob, hob, _⟩ := hvs'
    exact l.old ⟨_, _, _, hob, g1, rfl⟩
  have hx : (ws.map Sy.bs).map (fun s : ByteArray => s.data.toList) = ws := by
    rw [List.map_map]
    have e : ((fun s : ByteArray => s.data.toList) ∘ Sy.bs) = id := by
      funext x
      exact Sy.bs_toList x
    rw [e, List.map_id]
  have hcells : ∀ (j : Nat) x, (ws.map Sy.bs)[j]? = some x → w.cell? ⟨bk.b, a.off + j, none⟩ = some (.string x) := fun j x hj => by
    rw [List.getElem?_map, Option.map_eq_some_iff] at hj
    obtain ⟨y, hy, rfl⟩ := hj
    exact k3 w rfl j _ (by rw [strVs_eq, List.getElem?_map, hy]; rfl)
  have hln : (ws.map Sy.bs).length = n := by rw [List.length_map, hl]
  have key : Calls Tryz.prog 17 #[.slice (some ⟨bk.b, a.off, none⟩) n q, .string p] w fun e w' => e = .returned (.string ⟨(joinL p.data.toList ws).toArray⟩) ∧ Below w.heap.size w w' := by
    have hj : (Lib.join ((ws.map Sy.bs).map (fun s : ByteArray => s.data.toList)) p.data.toList) = joinL p.data.toList ws := by rw [hx, joinL_eq]
    have cc := Any.strings_Join lays156 builder_Extra_156 bk.b a.off q (ws.map Sy.bs) p w hcells hold (by rw [hln]; omega) (by rw [hln]; exact hcap) (by rw [hj]; omega)
    rw [hj, hln] at cc
    exact cc
  refine key.mono ?_
  rintro e w' ⟨he, hb⟩
  exact ⟨.string ⟨(joinL p.data.toList ws).toArray⟩, ρ, he, Den.flat rfl, RanF.of_below l hb⟩
end Cx
end Go.Proofs.YteplckkoiffnnaaGreatDoor

/-
  Words with a byte between them: joined, and split again (plain); strings.Split and strings.Join as contracts.
-/
namespace Go.Proofs.YteplckkoiffnnaaGreatDoor
open Go.RowKit
open Sy
set_option linter.unusedVariables false
set_option linter.unusedSimpArgs false
set_option maxRecDepth 100000
set_option maxHeartbeats 4000000

def jn (c : UInt8) (ws : List (List UInt8)) : List UInt8 := Lib.join ws [c]
/-- each behind the byte -/
def wds (c : UInt8) (ws : List (List UInt8)) : List UInt8 := ws.flatMap fun q => c :: q
theorem wds_nil (c : UInt8) : wds c [] = [] := rfl
theorem wds_cons (c : UInt8) (p : List UInt8) (ps : List (List UInt8)) : wds c (p :: ps) = c :: (p ++ wds c ps) := by simp [wds]
theorem wds_append (c : UInt8) (ps qs : List (List UInt8)) : wds c (ps ++ qs) = wds c ps ++ wds c qs := by simp [wds]
theorem jn_nil (c : UInt8) : jn c [] = [] := rfl
theorem jn_cons (c : UInt8) (p : List UInt8) (ps : List (List UInt8)) : jn c (p :: ps) = p ++ wds c ps := by
  unfold jn wds
  rw [Lib.join_cons]
  simp only [Lib.joinTail, List.flatMap]
  rfl
theorem jn_head {c : UInt8} {ps : List (List UInt8)} (h : ps ≠ []) : jn c ([] :: ps) = c :: jn c ps := by
  cases ps with
  | nil => exact absurd rfl h
  | cons q qs => rw [jn_cons, jn_cons, wds_cons]; rfl
def pcs (c : UInt8) (s : List UInt8) : List (List UInt8) := Lib.splitK [c] 0 (s.count c) s
theorem pcs_step {d c : UInt8} (hc : c ≠ d) (l : List UInt8) : ∀ k, Lib.splitK [d] 0 k (c :: l) = consH c (Lib.splitK [d] 0 k l)
  | 0 => rfl
  | k + 1 => by
    have hp : ([d] : List UInt8).isPrefixOf (c :: l) = false := by simp [List.isPrefixOf, Ne.symm hc]
    have hix : Lib.index (c :: l) [d] = if Lib.index l [d] == -1 then -1 else Lib.index l [d] + 1 := by rw [Lib.index, hp]; simp
    unfold Lib.splitK
    by_cases hm : Lib.index l [d] = -1
    · rw [hix, hm]; rfl
    · have hge := Lib.index_ge l [d]
      obtain ⟨j, hj⟩ : ∃ j : Nat, Lib.index l [d] = j := ⟨(Lib.index l [d]).toNat, by omega⟩
      have e1 : Lib.index (c :: l) [d] = ((j + 1 : Nat) : Int) := by rw [hix, if_neg (fun e => hm (beq_iff_eq.1 e)), hj]; omega
      rw [e1, hj, if_neg (fun e => by have := beq_iff_eq.1 e; omega), if_neg (fun e => by have := beq_iff_eq.1 e; omega)]
      simp [consH]
theorem pcs_eq (d : UInt8) (l : List UInt8) : pcs d (d :: l) = [] :: pcs d l := by
  have hix : Lib.index (d :: l) [d] = 0 := by rw [Lib.index]; simp [List.isPrefixOf]
  unfold pcs
  rw [List.count_cons_self]
  rw [Lib.splitK, hix]
  simp
theorem pcs_ne {d c : UInt8} (hc : c ≠ d) (l : List UInt8) : pcs d (c :: l) = consH c (pcs d l) := by
  unfold pcs
  rw [List.count_cons_of_ne (by simpa using fun e => hc e), pcs_step hc]
theorem pcs_spec (d : UInt8) : ∀ s : List UInt8, jn d (pcs d s) = s ∧ (∀ p ∈ pcs d s, d ∉ p) ∧ pcs d s ≠ []
  | [] => ⟨by simp [pcs, Lib.splitK, jn, Lib.join_one], fun p hp => by simp [pcs, Lib.splitK] at hp; subst hp; simp, by simp [pcs, Lib.splitK]⟩
  | c :: l => by
    obtain ⟨h1, h2, h3⟩ := pcs_spec d l
    by_cases hc : c = d
    · subst hc
      rw [pcs_eq]
      refine ⟨by rw [jn_head h3, h1], fun p hp => ?_, by simp⟩
      rcases List.mem_cons.1 hp with rfl | hp
      · simp
      · exact h2 p hp
    · rw [pcs_ne hc]
      generalize pcs d l = ps at *
      cases ps with
      | nil => exact absurd rfl h3
      | cons p ps =>
        refine ⟨by show jn d ((c :: p) :: ps) = _; rw [jn_cons] at h1 ⊢; rw [← h1]; rfl, fun q hq => ?_, by simp [consH]⟩
        rcases List.mem_cons.1 hq with rfl | hq
        · intro hm
          rcases List.mem_cons.1 hm with e | hm
          · exact hc e.symm
          · exact h2 p (by simp) hm
        · exact h2 q (List.mem_cons_of_mem _ hq)
theorem upto_byte {d : UInt8} {p q r t : List UInt8} (hp : d ∉ p) (hq : d ∉ q) (hr : r = [] ∨ ∃ r', r = d :: r') (ht : t = [] ∨ ∃ t', t = d :: t') (h : p ++ r = q ++ t) : p = q ∧ r = t := by
  induction p generalizing q with
  | nil =>
    cases q with
    | nil => exact ⟨rfl, h⟩
    | cons b q =>
      rcases hr with rfl | ⟨r', rfl⟩
      · simp at h
      · simp only [List.nil_append, List.cons_append, List.cons.injEq] at h
        exact absurd (by rw [h.1]; simp) hq
  | cons a p ih =>
    cases q with
    | nil =>
      rcases ht with rfl | ⟨t', rfl⟩
      · simp at h
      · simp only [List.nil_append, List.cons_append, List.cons.injEq] at h
        exact absurd (by rw [← h.1]; simp) hp
    | cons b q =>
      simp only [List.cons_append, List.cons.injEq] at h
      obtain ⟨e1, e2⟩ := ih (fun c => hp (List.mem_cons_of_mem _ c)) (fun c => hq (List.mem_cons_of_mem _ c)) h.2
      exact ⟨by rw [h.1, e1], e2⟩
theorem wds_form (d : UInt8) (ps : List (List UInt8)) : wds d ps = [] ∨ ∃ t, wds d ps = d :: t := by
  cases ps with
  | nil => exact .inl rfl
  | cons p ps => exact .inr ⟨_, wds_cons d p ps⟩
theorem wds_inj {d : UInt8} : ∀ {ps qs : List (List UInt8)}, (∀ p ∈ ps, d ∉ p) → (∀ p ∈ qs, d ∉ p) → wds d ps = wds d qs → ps = qs
  | [], [], _, _, _ => rfl
  | [], q :: qs, _, _, h => by rw [wds_cons] at h; simp [wds_nil] at h
  | p :: ps, [], _, _, h => by rw [wds_cons] at h; simp [wds_nil] at h
  | p :: ps, q :: qs, hp, hq, h => by
    rw [wds_cons, wds_cons] at h
    simp only [List.cons.injEq, true_and] at h
    obtain ⟨e1, e2⟩ := upto_byte (hp p (by simp)) (hq q (by simp)) (wds_form d ps) (wds_form d qs) h
    rw [e1, wds_inj (fun x hx => hp x (List.mem_cons_of_mem _ hx)) (fun x hx => hq x (List.mem_cons_of_mem _ hx)) e2]
theorem jn_inj {d : UInt8} {ps qs : List (List UInt8)} (h1 : ps ≠ []) (h2 : qs ≠ []) (hp : ∀ p ∈ ps, d ∉ p) (hq : ∀ p ∈ qs, d ∉ p) (h : jn d ps = jn d qs) : ps = qs := by
  cases ps with
  | nil => exact absurd rfl h1
  | cons p ps =>
  cases qs with
  | nil => exact absurd rfl h2
  | cons q qs =>
  rw [jn_cons, jn_cons] at h
  obtain ⟨e1, e2⟩ := upto_byte (hp p (by simp)) (hq q (by simp)) (wds_form d ps) (wds_form d qs) h
  rw [e1, wds_inj (fun x hx => hp x (List.mem_cons_of_mem _ hx)) (fun x hx => hq x (List.mem_cons_of_mem _ hx)) e2]
/-- what is joined is split -/
theorem pcs_jn {d : UInt8} {ws : List (List UInt8)} (h : ws ≠ []) (hw : ∀ p ∈ ws, d ∉ p) : pcs d (jn d ws) = ws := by
  obtain ⟨h1, h2, h3⟩ := pcs_spec d (jn d ws)
  exact jn_inj h3 h h2 hw h1
theorem splitB_pcs (d : UInt8) (s : List UInt8) (k : Nat) : Lib.splitB (bs [d]) 0 k (bs s) = (Lib.splitK [d] 0 k s).map bs := by
  have h := Lib.splitB_data (bs [d]) 0 k (bs s)
  rw [bs_toList, bs_toList] at h
  rw [← h, List.map_map]
  have e : (bs ∘ fun x : ByteArray => x.data.toList) = id := by
    funext x
    exact bs_data x
  rw [e, List.map_id]
theorem pcs_len (d : UInt8) (s : List UInt8) : (pcs d s).length = s.count d + 1 := by
  have hc : Lib.countB (bs s) (bs [d]) = s.count d := by
    show Lib.count (bs s).data.toList (bs [d]).data.toList = _
    rw [bs_toList, bs_toList]
    exact Lib.count_one d s
  have hlen := Lib.splitB_all (bs [d]) (by rw [bs_size]; exact Nat.le_refl _) 0 (s.count d) (bs s) hc
  rw [splitB_pcs, List.length_map] at hlen
  exact hlen
/-- strings.Split at one byte -/
theorem sSplitC {R : HP} (hM : ∀ w, Sat R w → MaxW w) (d : UInt8) (s : List UInt8) (hl : s.length ≤ 1048576) : FnR Tryz.prog R 34 [.string (bs s), .string (bs [d])] [] fun r hs => ∃ B, r = .slice (some ⟨B, 0, none⟩) (pcs d s).length (pcs d s).length ∧ hs = [rowH (.slice (some ⟨B, 0, none⟩) (pcs d s).length (pcs d s).length) (pcs d s).length 9 1 ((pcs d s).map fun p => .string (bs p))] := by
  intro w hs
  obtain ⟨m, hm⟩ := hM w hs
  have c := Any.strings_Split lays146 (by kernel_rfl) (bs s) (bs [d]) m w (by rw [bs_size]; omega) hm (by rw [bs_size]; exact Nat.le_refl _)
  have hc : Lib.countB (bs s) (bs [d]) = s.count d := by
    show Lib.count (bs s).data.toList (bs [d]).data.toList = _
    rw [bs_toList, bs_toList]
    exact Lib.count_one d s
  rw [hc, splitB_pcs] at c
  have hle : s.count d ≤ s.length := List.count_le_length
  refine Calls.mono c ?_
  rintro e w' ⟨he, hw⟩
  have hp := pcs_len d s
  have hmap : (List.map Value.string ((Lib.splitK [d] 0 (s.count d) s).map bs)) = (pcs d s).map fun p => .string (bs p) := by rw [List.map_map]; rfl
  rw [hmap] at hw
  refine ⟨_, _, by rw [he, ← hp], ⟨w.heap.size, rfl, rfl⟩, ?_, ?_⟩
  · rw [hw]
    exact alloc_row _ _ _ (by simp) (by rw [hp]; simp only [maxLen]; omega) hs
  · rw [hw]
    exact .of_below ((Below.refl _ _).alloc (Nat.le_refl _) _)
/-- strings.Join of a row that is only read -/
theorem sJoinC {R : HP} {A : Option Addr} {n c : Nat} (d : UInt8) (ws : List (List UInt8)) (hn : ws.length = n) (hc : n ≤ c) (ha : Sl R A n 1 (ws.map fun z => .string (bs z))) (h0 : 0 < n) (hl : (jn d ws).length ≤ 140737488355328) (hN : n ≤ 140737488355328) : PureR Tryz.prog R 17 [.slice A n c, .string (bs [d])] (.string (bs (jn d ws))) := by
  refine PureR.of_sat fun wS hS => ?_
  obtain ⟨_, sa⟩ := ha.spot (by omega) hS
  rcases sa with sa | ⟨b, off, rfl, sa⟩
  · omega
  refine PureR.of_below fun w hw => ?_
  have hcells : ∀ (j : Nat) x, (ws.map bs)[j]? = some x → w.cell? ⟨b, off + j, none⟩ = some (.string x) := fun j x hj => by
    rw [List.getElem?_map] at hj
    obtain ⟨z, hz, rfl⟩ := Option.map_eq_some_iff.1 hj
    have := sa w hw j (.string (bs z)) (by rw [List.getElem?_map, hz]; rfl)
    simpa using this
  have hbk : b < w.heap.size := by
    obtain ⟨z, hz⟩ : ∃ z, ws[0]? = some z := ⟨ws[0]'(by omega), List.getElem?_eq_getElem (by omega)⟩
    exact World.block_lt_of_cell? w _ (hcells 0 (bs z) (by rw [List.getElem?_map, hz]; rfl))
  have hmap : ((ws.map bs).map (·.data.toList)) = ws := by
    have e : ((fun x : ByteArray => x.data.toList) ∘ bs) = id := by
      funext x
      exact bs_toList x
    rw [List.map_map, e, List.map_id]
  have cc := Any.strings_Join lays156 builder_Extra_156 b off c (ws.map bs) (bs [d]) w hcells hbk (by rw [List.length_map]; omega) (by rw [List.length_map]; omega) (by rw [hmap, bs_toList]; exact hl)
  rw [List.length_map, hn, hmap, bs_toList] at cc
  exact cc
/-- strings.Join of one word -/
theorem jn_one (d : UInt8) (w : List UInt8) : jn d [w] = w := by rw [jn_cons]; simp [wds]
end Go.Proofs.YteplckkoiffnnaaGreatDoor

/-
  Slices of structs of numbers, of bytes, of strings, as fields of an argument.
-/
namespace Go.Proofs.YteplckkoiffnnaaGreatDoor
open Go.ChangeShapes Go.WideShapes Go.ChangeAt Go.RowKit Go.Joins Sy
set_option linter.unusedVariables false
set_option linter.unusedSimpArgs false
set_option maxRecDepth 100000
set_option maxHeartbeats 4000000

theorem flat_len {α : Type} {f : α → List Value} {s : Nat} (hf : ∀ a, (f a).length = s) (l : List α) : (l.flatMap f).length = l.length * s := by
  induction l with
  | nil => simp
  | cons a l ih => rw [List.flatMap_cons, List.length_append, ih, hf, List.length_cons, Nat.succ_mul]; omega
theorem flat_at {α : Type} {f : α → List Value} {s : Nat} (hf : ∀ a, (f a).length = s) : ∀ {l : List α} {i j : Nat} (h : i < l.length), j < s → (l.flatMap f)[i * s + j]? = (f l[i])[j]?
  | a :: l, 0, j, _, hj => by
    rw [List.flatMap_cons, List.getElem?_append_left (by rw [hf]; omega)]
    simp
  | a :: l, i + 1, j, h, hj => by
    rw [List.flatMap_cons, List.getElem?_append_right (by rw [hf, Nat.succ_mul]; omega)]
    have : (i + 1) * s + j - (f a).length = i * s + j := by rw [hf, Nat.succ_mul]; omega
    rw [this, flat_at hf (by simpa using h) hj]
    simp
section
variable {H : Type} {enc : TypeId × Value → H} {P : Program} {w : World} {base : Nat} {spare : Nat → Bool} {held : Bool}
/-- a slice of structs of signed numbers -/
theorem open_flatS {α : Type} {t e : TypeId} {fuel : Nat} {v : Value} {x : DataW H × List MemPlace} (s : Nat) (mk : (Nat → Int) → α) (f : α → List Value) (hs0 : 0 < s) (ht : P.underlying t = some (.slice e)) (hs : P.cellsOf e = s) (hk : ∀ j, j < s → leafK P 6 e j = some .i64)
    (hf : ∀ a, (f a).length = s) (hmk : ∀ z j, j < s → (f (mk z))[j]? = some (.int .i64 (z j))) (h : DataW.trod enc P w base spare held fuel t [v] = some x) :
    ∃ A n c, ∃ l : List α, v = .slice A n c ∧ l.length = n ∧ Reads w w.heap.size s A n (l.flatMap f) ∧ n ≤ c ∧ c ≤ maxLen ∧ ∀ a ∈ l, ∃ z : Nat → Int, a = mk z ∧ ∀ j, j < s → -9223372036854775808 ≤ z j ∧ z j ≤ 9223372036854775807 := by
  rcases open_flat s (fun _ => .i64) ht hs hk h with hcs | ⟨y, n, c, zs, hcs, hl, hm, hz⟩
  · simp only [List.cons.injEq, and_true] at hcs
    exact ⟨none, 0, 0, [], hcs, rfl, Reads.empty, Nat.le_refl _, by simp [maxLen], fun a ha => by cases ha⟩
  · simp only [List.cons.injEq, and_true] at hcs
    refine ⟨some y, n, c, (List.range n).map fun i => mk (zs i), hcs, by simp, reads_flat hs0 hz (by rw [flat_len hf]; simp) (fun i j hi hj => ?_), hl, hm, fun a ha => ?_⟩
    · rw [flat_at hf (by simpa using hi) hj]
      simp only [List.getElem_map, List.getElem_range]
      exact hmk _ j hj
    · obtain ⟨i, hi, rfl⟩ := List.mem_map.1 ha
      exact ⟨zs i, rfl, fun j hj => bounds_i64 (hz i j (List.mem_range.1 hi) hj).2⟩
theorem open_byts {t e : TypeId} {fuel : Nat} {v : Value} {x : DataW H × List MemPlace} (ht : P.underlying t = some (.slice e)) (he : P.underlying e = some (.int .u8)) (hc : P.cellsOf e = 1) (h : DataW.trod enc P w base spare held fuel t [v] = some x) :
    ∃ A n c, ∃ l : List UInt8, v = .slice A n c ∧ l.length = n ∧ Reads w w.heap.size 1 A n (byV l) ∧ n ≤ c ∧ c ≤ maxLen := by
  have hk : leafK P 6 e 0 = some .u8 := by unfold leafK; rw [he]; rfl
  rcases open_flat 1 (fun _ => .u8) ht hc (fun j hj => by obtain rfl : j = 0 := by omega
                                                          exact hk) h with hcs | ⟨y, n, c, zs, hcs, hl, hm, hz⟩
  · simp only [List.cons.injEq, and_true] at hcs
    exact ⟨none, 0, 0, [], hcs, rfl, Reads.empty, Nat.le_refl _, by simp [maxLen]⟩
  · simp only [List.cons.injEq, and_true] at hcs
    refine ⟨some y, n, c, (List.range n).map fun i => UInt8.ofNat (zs i 0).toNat, hcs, by simp, reads_flat (by decide) hz (by simp) (fun i j hi hj => ?_), hl, hm⟩
    obtain rfl : j = 0 := by omega
    have hw := (hz i 0 hi (by omega)).2
    have hb : 0 ≤ zs i 0 ∧ zs i 0 ≤ 255 := by
      simp [Lit.wf, IntKind.min, IntKind.max, IntKind.signed, IntKind.bits] at hw
      omega
    simp only [Nat.mul_one, Nat.add_zero, List.map_map, List.getElem?_map, List.getElem?_range hi, Option.map_some, Function.comp, Option.some.injEq, Value.int.injEq, true_and]
    rw [UInt8.toNat_ofNat']
    omega
theorem open_strV {t e : TypeId} {fuel : Nat} {v : Value} {x : DataW H × List MemPlace} (ht : P.underlying t = some (.slice e)) (he : P.underlying e = some .string) (hc : P.cellsOf e = 1) (h : DataW.trod enc P w base spare held fuel t [v] = some x) :
    ∃ A n c, ∃ l : List (List UInt8), v = .slice A n c ∧ l.length = n ∧ Reads w w.heap.size 1 A n (l.map fun z => .string (bs z)) ∧ n ≤ c ∧ c ≤ maxLen ∧ ∀ z ∈ l, z.length ≤ maxLen := by
  rcases Go.Deep.open_strs ht he hc h with ⟨hcs, _⟩ | ⟨y, n, c, m, Sx, hcs, _, hl, hm, hmm, _, hcell⟩
  · simp only [List.cons.injEq, and_true] at hcs
    exact ⟨none, 0, 0, [], hcs, rfl, Reads.empty, Nat.le_refl _, by simp [maxLen], fun a ha => by cases ha⟩
  · simp only [List.cons.injEq, and_true] at hcs
    have hnm : n ≤ m := by rw [hmm]; split <;> omega
    refine ⟨some y, n, c, (List.range n).map fun i => (Sx i).data.toList, hcs, by simp, ⟨by simp, fun hn => ⟨y, rfl, ?_, fun j u hu => ?_⟩⟩, hl, hm, fun z hz => ?_⟩
    · have := World.block_lt_of_cell? w _ (hcell 0 (by omega)).1
      rwa [add_block] at this
    · have hj : j < n := by
        have := (List.getElem?_eq_some_iff.1 hu).1
        simpa using this
      rw [(hcell j (by omega)).1]
      simp only [List.map_map, List.getElem?_map, List.getElem?_range hj, Option.map_some, Function.comp, Option.some.injEq, bs_data] at hu
      rw [hu]
    · obtain ⟨i, hi, rfl⟩ := List.mem_map.1 hz
      have := (hcell i (by have := List.mem_range.1 hi; omega)).2
      simpa using this
end
end Go.Proofs.YteplckkoiffnnaaGreatDoor

/-
  A reply among the arguments.
-/
namespace Go.Proofs.YteplckkoiffnnaaGreatDoor
open Go.ChangeShapes Go.WideShapes Go.ChangeAt Go.RowKit Go.Joins Sy
set_option linter.unusedVariables false
set_option linter.unusedSimpArgs false
set_option maxRecDepth 100000
set_option maxHeartbeats 4000000

structure Prt where
  l : Int
  a : Int
  fx : Int
  fy : Int
  x0 : Int
  y0 : Int
  x1 : Int
  y1 : Int
def prtL (p : Prt) : List Value := [.int .i64 p.l, .int .i64 p.a, .int .i64 p.fx, .int .i64 p.fy, .int .i64 p.x0, .int .i64 p.y0, .int .i64 p.x1, .int .i64 p.y1]
def celL (c : Int × Int) : List Value := [.int .i64 c.1, .int .i64 c.2]
def numL (c : Int) : List Value := [.int .i64 c]
def I64 (z : Int) : Prop := -9223372036854775808 ≤ z ∧ z ≤ 9223372036854775807
structure Prt.ok (p : Prt) : Prop where
  l : I64 p.l
  a : I64 p.a
  fx : I64 p.fx
  fy : I64 p.fy
  x0 : I64 p.x0
  y0 : I64 p.y0
  x1 : I64 p.x1
  y1 : I64 p.y1
/-- what a reply says -/
structure Rep where
  code : Int
  n : Int
  yes : Bool
  ax : Int
  ay : Int
  cells : List (Int × Int)
  vals : List Int
  parts : List Prt
  byts : List UInt8
  lines : List (List UInt8)
/-- where its rows lie -/
structure RepA where
  A1 : Option Addr
  c1 : Nat
  A2 : Option Addr
  c2 : Nat
  A3 : Option Addr
  c3 : Nat
  A4 : Option Addr
  c4 : Nat
  A5 : Option Addr
  c5 : Nat
def repV (q : RepA) (r : Rep) : Value := .agg #[.int .i64 r.code, .int .i64 r.n, .bool r.yes, .int .i64 r.ax, .int .i64 r.ay, .slice q.A1 r.cells.length q.c1, .slice q.A2 r.vals.length q.c2, .slice q.A3 r.parts.length q.c3, .slice q.A4 r.byts.length q.c4, .slice q.A5 r.lines.length q.c5]
structure Rep.ok (r : Rep) : Prop where
  code : I64 r.code
  n : I64 r.n
  ax : I64 r.ax
  ay : I64 r.ay
  cells : ∀ c ∈ r.cells, I64 c.1 ∧ I64 c.2
  vals : ∀ c ∈ r.vals, I64 c
  parts : ∀ c ∈ r.parts, c.ok
/-- the rows as they are read -/
structure RepS (R : HP) (q : RepA) (r : Rep) : Prop where
  cells : Sl R q.A1 r.cells.length 2 (r.cells.flatMap celL)
  vals : Sl R q.A2 r.vals.length 1 (r.vals.flatMap numL)
  parts : Sl R q.A3 r.parts.length 8 (r.parts.flatMap prtL)
  byts : Sl R q.A4 r.byts.length 1 (byV r.byts)
  lines : Sl R q.A5 r.lines.length 1 (r.lines.map fun z => .string (bs z))
  k1 : r.cells.length ≤ q.c1 ∧ q.c1 ≤ maxLen
  k2 : r.vals.length ≤ q.c2 ∧ q.c2 ≤ maxLen
  k3 : r.parts.length ≤ q.c3 ∧ q.c3 ≤ maxLen
  k4 : r.byts.length ≤ q.c4 ∧ q.c4 ≤ maxLen
  k5 : r.lines.length ≤ q.c5 ∧ q.c5 ≤ maxLen
theorem leaf_cell : ∀ j, j < 2 → leafK Tryz.prog 6 24 j = some .i64 := fun j hj => by rcases (show j = 0 ∨ j = 1 by omega) with rfl | rfl <;> kernel_rfl
theorem leaf_num : ∀ j, j < 1 → leafK Tryz.prog 6 2 j = some .i64 := fun j hj => by rcases (show j = 0 by omega) with rfl; kernel_rfl
theorem leaf_part : ∀ j, j < 8 → leafK Tryz.prog 6 53 j = some .i64 := fun j hj => by rcases (show j = 0 ∨ j = 1 ∨ j = 2 ∨ j = 3 ∨ j = 4 ∨ j = 5 ∨ j = 6 ∨ j = 7 by omega) with rfl | rfl | rfl | rfl | rfl | rfl | rfl | rfl <;> kernel_rfl
theorem array10 {α : Type} {cs : Array α} (h : cs.size = 10) : ∃ c0 c1 c2 c3 c4 c5 c6 c7 c8 c9, cs = #[c0, c1, c2, c3, c4, c5, c6, c7, c8, c9] := by
  obtain ⟨l⟩ := cs
  match l, h with
  | [c0, c1, c2, c3, c4, c5, c6, c7, c8, c9], _ => exact ⟨c0, c1, c2, c3, c4, c5, c6, c7, c8, c9, rfl⟩
theorem open_reply {H : Type} {enc : TypeId × Value → H} {w : World} {base b0 : Nat} {spare : Nat → Bool} {held : Bool} {r : Reach} {v : Value} {d : DataW H} {ps : List MemPlace} (hval : Value.okWide Tryz.prog w r b0 31 v) (h : DataW.Trod enc Tryz.prog w base spare held 31 v d ps) :
    ∃ q r, v = repV q r ∧ r.ok ∧ RepS (was w) q r := by
  obtain ⟨cs, rfl, hsz⟩ := okWide_struct Tryz.underlying31 hval
  obtain ⟨c0, c1, c2, c3, c4, c5, c6, c7, c8, c9, rfl⟩ := array10 (hsz.trans (show Tryz.prog.cellsOf 31 = 10 by kernel_rfl))
  obtain ⟨fuel, hf⟩ := h
  obtain ⟨xs, n, _, _, _, hlen, hg⟩ := DataW.trod_struct Tryz.underlying31 hf
  match xs, hlen with
  | [y0, y1, y2, y3, y4, y5, y6, y7, y8], _ =>
  have g0 : DataW.trod enc Tryz.prog w base spare held n 22 [c0] = some y0 := by have this : DataW.trod enc Tryz.prog w base spare held n 22 (([c0, c1, c2, c3, c4, c5, c6, c7, c8, c9].drop 0).take (Tryz.prog.cellsOf 22)) = some y0 := hg 0 _ rfl; rw [show Tryz.prog.cellsOf 22 = 1 by kernel_rfl] at this; exact this
  have g1 : DataW.trod enc Tryz.prog w base spare held n 2 [c1] = some y1 := by have this : DataW.trod enc Tryz.prog w base spare held n 2 (([c0, c1, c2, c3, c4, c5, c6, c7, c8, c9].drop 1).take (Tryz.prog.cellsOf 2)) = some y1 := hg 1 _ rfl; rw [show Tryz.prog.cellsOf 2 = 1 by kernel_rfl] at this; exact this
  have g2 : DataW.trod enc Tryz.prog w base spare held n 4 [c2] = some y2 := by have this : DataW.trod enc Tryz.prog w base spare held n 4 (([c0, c1, c2, c3, c4, c5, c6, c7, c8, c9].drop 2).take (Tryz.prog.cellsOf 4)) = some y2 := hg 2 _ rfl; rw [show Tryz.prog.cellsOf 4 = 1 by kernel_rfl] at this; exact this
  have g3 : DataW.trod enc Tryz.prog w base spare held n 24 [c3, c4] = some y3 := by have this : DataW.trod enc Tryz.prog w base spare held n 24 (([c0, c1, c2, c3, c4, c5, c6, c7, c8, c9].drop 3).take (Tryz.prog.cellsOf 24)) = some y3 := hg 3 _ rfl; rw [show Tryz.prog.cellsOf 24 = 2 by kernel_rfl] at this; exact this
  have g4 : DataW.trod enc Tryz.prog w base spare held n 25 [c5] = some y4 := by have this : DataW.trod enc Tryz.prog w base spare held n 25 (([c0, c1, c2, c3, c4, c5, c6, c7, c8, c9].drop 5).take (Tryz.prog.cellsOf 25)) = some y4 := hg 4 _ rfl; rw [show Tryz.prog.cellsOf 25 = 1 by kernel_rfl] at this; exact this
  have g5 : DataW.trod enc Tryz.prog w base spare held n 26 [c6] = some y5 := by have this : DataW.trod enc Tryz.prog w base spare held n 26 (([c0, c1, c2, c3, c4, c5, c6, c7, c8, c9].drop 6).take (Tryz.prog.cellsOf 26)) = some y5 := hg 5 _ rfl; rw [show Tryz.prog.cellsOf 26 = 1 by kernel_rfl] at this; exact this
  have g6 : DataW.trod enc Tryz.prog w base spare held n 27 [c7] = some y6 := by have this : DataW.trod enc Tryz.prog w base spare held n 27 (([c0, c1, c2, c3, c4, c5, c6, c7, c8, c9].drop 7).take (Tryz.prog.cellsOf 27)) = some y6 := hg 6 _ rfl; rw [show Tryz.prog.cellsOf 27 = 1 by kernel_rfl] at this; exact this
  have g7 : DataW.trod enc Tryz.prog w base spare held n 28 [c8] = some y7 := by have this : DataW.trod enc Tryz.prog w base spare held n 28 (([c0, c1, c2, c3, c4, c5, c6, c7, c8, c9].drop 8).take (Tryz.prog.cellsOf 28)) = some y7 := hg 7 _ rfl; rw [show Tryz.prog.cellsOf 28 = 1 by kernel_rfl] at this; exact this
  have g8 : DataW.trod enc Tryz.prog w base spare held n 29 [c9] = some y8 := by have this : DataW.trod enc Tryz.prog w base spare held n 29 (([c0, c1, c2, c3, c4, c5, c6, c7, c8, c9].drop 9).take (Tryz.prog.cellsOf 29)) = some y8 := hg 8 _ rfl; rw [show Tryz.prog.cellsOf 29 = 1 by kernel_rfl] at this; exact this
  obtain ⟨z0, e0, _, w0⟩ := DataW.trod_int Tryz.underlying22 g0
  obtain ⟨z1, e1, _, w1⟩ := DataW.trod_int Tryz.underlying2 g1
  obtain ⟨z2, e2, _⟩ := DataW.trod_bool Tryz.underlying4 g2
  obtain ⟨z3, e3, w3⟩ := trod_leaf 6 (leaf_cell 0 (by decide)) g3
  obtain ⟨z4, e4, w4⟩ := trod_leaf 6 (leaf_cell 1 (by decide)) g3
  simp only [List.cons.injEq, and_true, List.getElem?_cons_zero, List.getElem?_cons_succ, Option.some.injEq] at e0 e1 e2 e3 e4
  subst e0 e1 e2 e3 e4
  obtain ⟨A1, n1, k1, l1, rfl, q1, r1, s1, t1, u1⟩ := open_flatS 2 (fun z => (z 0, z 1)) celL (by decide) Tryz.underlying25 (by kernel_rfl) leaf_cell (fun _ => rfl) (fun z j hj => by rcases (show j = 0 ∨ j = 1 by omega) with rfl | rfl <;> rfl) g4
  obtain ⟨A2, n2, k2, l2, rfl, q2, r2, s2, t2, u2⟩ := open_flatS 1 (fun z => z 0) numL (by decide) Tryz.underlying26 (by kernel_rfl) leaf_num (fun _ => rfl) (fun z j hj => by rcases (show j = 0 by omega) with rfl; rfl) g5
  obtain ⟨A3, n3, k3, l3, rfl, q3, r3, s3, t3, u3⟩ := open_flatS 8 (fun z => (⟨z 0, z 1, z 2, z 3, z 4, z 5, z 6, z 7⟩ : Prt)) prtL (by decide) Tryz.underlying27 (by kernel_rfl) leaf_part (fun _ => rfl) (fun z j hj => by rcases (show j = 0 ∨ j = 1 ∨ j = 2 ∨ j = 3 ∨ j = 4 ∨ j = 5 ∨ j = 6 ∨ j = 7 by omega) with rfl | rfl | rfl | rfl | rfl | rfl | rfl | rfl <;> rfl) g6
  obtain ⟨A4, n4, k4, l4, rfl, q4, r4, s4, t4⟩ := open_byts Tryz.underlying28 Tryz.underlying5 (by kernel_rfl) g7
  obtain ⟨A5, n5, k5, l5, rfl, q5, r5, s5, t5, u5⟩ := open_strV Tryz.underlying29 Tryz.underlying9 (by kernel_rfl) g8
  subst q1 q2 q3 q4 q5
  refine ⟨⟨A1, k1, A2, k2, A3, k3, A4, k4, A5, k5⟩, ⟨z0, z1, z2, z3, z4, l1, l2, l3, l4, l5⟩, rfl, ⟨bounds_i64 w0, bounds_i64 w1, bounds_i64 w3, bounds_i64 w4, fun c hc => ?_, fun c hc => ?_, fun c hc => ?_⟩,
    ⟨sl_of_reads (by decide) r1, sl_of_reads (by decide) r2, sl_of_reads (by decide) r3, sl_of_reads (by decide) r4, sl_of_reads (by decide) r5, ⟨s1, t1⟩, ⟨s2, t2⟩, ⟨s3, t3⟩, ⟨s4, t4⟩, ⟨s5, t5⟩⟩⟩
  · obtain ⟨z, rfl, hz⟩ := u1 c hc
    exact ⟨hz 0 (by decide), hz 1 (by decide)⟩
  · obtain ⟨z, rfl, hz⟩ := u2 c hc
    exact hz 0 (by decide)
  · obtain ⟨z, rfl, hz⟩ := u3 c hc
    exact ⟨hz 0 (by decide), hz 1 (by decide), hz 2 (by decide), hz 3 (by decide), hz 4 (by decide), hz 5 (by decide), hz 6 (by decide), hz 7 (by decide)⟩
end Go.Proofs.YteplckkoiffnnaaGreatDoor

/-
  A reply's lines: plain.
-/
namespace Go.Proofs.YteplckkoiffnnaaGreatDoor
open Go.RowKit
open Sy
set_option linter.unusedVariables false
set_option linter.unusedSimpArgs false
set_option maxRecDepth 100000
set_option maxHeartbeats 4000000

def hexd (n : Nat) : UInt8 := if n < 10 then u8 (48 + n) else u8 (87 + n)
def hexT (l : List UInt8) : List UInt8 := l.flatMap fun b => [hexd (b.toNat / 16), hexd (b.toNat % 16)]
theorem hexT_append (l m : List UInt8) : hexT (l ++ m) = hexT l ++ hexT m := by simp [hexT]
theorem hexT_len (l : List UInt8) : (hexT l).length = 2 * l.length := by
  induction l with
  | nil => rfl
  | cons a l ih =>
    have e : hexT (a :: l) = [hexd (a.toNat / 16), hexd (a.toNat % 16)] ++ hexT l := rfl
    rw [e, List.length_append, ih]
    simp; omega
def hexW (l : List UInt8) : List UInt8 := if l = [] then [45] else hexT l
def listW (l : List Int) : List UInt8 := if l = [] then [45] else jn 44 (l.map Lib.itoa)
def celW (c : Int × Int) : List UInt8 := Lib.itoa c.1 ++ 44 :: Lib.itoa c.2
def prtN (p : Prt) : List Int := [p.l, p.a, p.fx, p.fy, p.x0, p.y0, p.x1, p.y1]
def prtW (p : Prt) : List UInt8 := jn 32 ((prtN p).map Lib.itoa)
def okT : List UInt8 := [111, 107]
def yesT : List UInt8 := [121, 101, 115]
def noT : List UInt8 := [110, 111]
def errT : List UInt8 := [101, 114, 114, 111, 114, 32]
/-- the words behind the first one -/
def ansW (kind : Int) (r : Rep) : List (List UInt8) :=
  if kind = 6 ∨ kind = 7 ∨ kind = 10 ∨ kind = 11 ∨ kind = 20 ∨ kind = 21 ∨ kind = 22 then [Lib.itoa r.n]
  else if kind = 8 ∨ kind = 9 then [Lib.itoa r.n, Lib.itoa r.ax, Lib.itoa r.ay]
  else if kind = 12 then (if r.yes then [yesT] else [noT, Lib.itoa r.ax, Lib.itoa r.ay])
  else if kind = 13 ∨ kind = 16 then Lib.itoa r.n :: r.cells.map celW
  else if kind = 14 then [Lib.itoa r.n]
  else if kind = 15 then r.cells.map celW
  else if kind = 17 then [Lib.itoa r.ax, Lib.itoa r.ay, listW r.vals]
  else if kind = 23 then [hexW r.byts]
  else []
/-- the lines behind the first one -/
def ansM (kind : Int) (r : Rep) : List (List UInt8) := if kind = 14 then r.parts.map prtW else if kind = 27 then r.lines else []
def ans (kind : Int) (r : Rep) : List (List UInt8) := if r.code ≠ 0 then [errT ++ Lib.itoa r.code] else jn 32 (okT :: ansW kind r) :: ansM kind r
theorem itoa_len20 {n : Int} (h : I64 n) : (Lib.itoa n).length ≤ 21 := Lib.itoa_length_le n h.1 h.2
theorem listW_split {l : List Int} (h : l ≠ []) : pcs 44 (listW l) = l.map Lib.itoa := by
  unfold listW
  rw [if_neg h]
  refine pcs_jn (by simpa using h) fun p hp => ?_
  obtain ⟨n, _, rfl⟩ := List.mem_map.1 hp
  exact itoa_comma n
theorem listW_dash {l : List Int} (hl : ∀ n ∈ l, I64 n) : listW l = [45] ↔ l = [] := by
  constructor
  · intro h
    by_cases c : l = []
    · exact c
    · exfalso
      have h2 := listW_split c
      rw [h] at h2
      have h3 : pcs 44 [45] = [[45]] := by
        have := pcs_jn (d := 44) (ws := [[45]]) (by simp) (fun p hp => by simp at hp; subst hp; decide)
        rwa [jn_one] at this
      rw [h3] at h2
      obtain ⟨n, m, rfl⟩ : ∃ n m, l = n :: m := by
        cases l with
        | nil => exact absurd rfl c
        | cons n m => exact ⟨n, m, rfl⟩
      simp only [List.map_cons, List.cons.injEq] at h2
      have h4 := read_itoa n (hl n (by simp)).1 (hl n (by simp)).2
      rw [← h2.1] at h4
      have : read [45] = (0, 12) := by decide +kernel
      rw [this] at h4
      simp at h4
  · rintro rfl
    rfl
theorem wds_len {c : UInt8} {ws : List (List UInt8)} {m : Nat} (h : ∀ w ∈ ws, w.length ≤ m) : (wds c ws).length ≤ ws.length * (m + 1) := by
  induction ws with
  | nil => simp [wds]
  | cons w ws ih =>
    rw [wds_cons]
    have h1 := ih fun x hx => h x (List.mem_cons_of_mem _ hx)
    have h2 := h w (by simp)
    simp only [List.length_cons, List.length_append, Nat.succ_mul]
    omega
theorem jn_len {c : UInt8} {ws : List (List UInt8)} {m : Nat} (h : ∀ w ∈ ws, w.length ≤ m) : (jn c ws).length ≤ ws.length * (m + 1) := by
  cases ws with
  | nil => simp [jn_nil]
  | cons w ws =>
    rw [jn_cons]
    have h1 := wds_len (c := c) fun x hx => h x (List.mem_cons_of_mem w hx)
    have h2 := h w (by simp)
    simp only [List.length_cons, List.length_append, Nat.succ_mul]
    omega
theorem listW_len {l : List Int} (hl : ∀ n ∈ l, I64 n) : (listW l).length ≤ l.length * 22 + 1 := by
  unfold listW
  split
  · simp
  · have := jn_len (c := 44) (ws := l.map Lib.itoa) (m := 21) fun w hw => by
      obtain ⟨n, hn, rfl⟩ := List.mem_map.1 hw
      exact itoa_len20 (hl n hn)
    rw [List.length_map] at this
    omega
end Go.Proofs.YteplckkoiffnnaaGreatDoor

/-
  script: a line that is told (word, number, numbers, cell, rect).
-/
namespace Go.Proofs.YteplckkoiffnnaaGreatDoor
open Go.RowKit
open Sy
set_option linter.unusedVariables false
set_option linter.unusedSimpArgs false
set_option maxRecDepth 100000
set_option maxHeartbeats 4000000

abbrev strV (ws : List (List UInt8)) : List Value := ws.map fun z => .string (bs z)
def lnP (lb : Nat) (ws : List (List UInt8)) (x : Option Addr × Nat) : List HP := [blkH lb 43 #[.slice x.1 ws.length x.2, .bool false], rowH (.slice x.1 ws.length x.2) ws.length 9 1 (strV ws)]
/-- a line, and the words that it was told -/
def lnH (lb : Nat) (ws : List (List UInt8)) : HP := boxH (lnP lb ws)
theorem blk_cell {b : Nat} {t : TypeId} {cs : Array Value} {w : World} {k : Nat} {v : Value} (s : Sat (blkH b t cs) w) (h : cs[k]? = some v) : w.cell? ⟨b, k, none⟩ = some v := ((blk_sat s).cell k).trans h
theorem putL_same {cs : Array Value} {k : Nat} {v : Value} (h : cs[k]? = some v) : (putL cs.toList k [v]).toArray = cs := by
  obtain ⟨l⟩ := cs
  have h : l[k]? = some v := by simpa using h
  have hk := (List.getElem?_eq_some_iff.1 h).1
  congr 1
  apply List.ext_getElem?
  intro i
  rw [putL_get (by simp; omega)]
  split
  · rename_i c
    obtain rfl : i = k := by simp at c; omega
    simp [h]
  · rfl
theorem sWord {R : HP} {lb : Nat} {ws : List (List UInt8)} (s : List UInt8) (hl : ws.length ≤ 1000000) : FnR Tryz.prog R 14 [.pointer (some ⟨lb, 0, none⟩), .string (bs s)] [lnH lb ws] fun r hs => r = .string (bs s) ∧ hs = [lnH lb (ws ++ [s])] := by
  refine FnR.unbox fun ⟨A, c⟩ => ?_
  rw [List.append_nil]
  refine fn_of_run0 false Tryz.func14 rfl hmix rfl fun w0 => ?_
  conv => whnf
  refine ⟨trivial, LoadAt.cell (.bool false) rfl rfl (fun w hw => blk_cell (hw.in_ 0 rfl) rfl) ?_⟩
  conv => whnf
  refine iff_t rfl ?_
  conv => whnf
  refine ⟨trivial, LoadAt.cell (.slice A ws.length c) rfl rfl (fun w hw => blk_cell (hw.in_ 0 rfl) rfl) ?_⟩
  conv => whnf
  refine ⟨trivial, OpAt.lit [.string (bs s)] 1 rfl rfl rfl rfl rfl (by decide) rfl rfl rfl (by simp [Value.cells]) rfl (by decide) fun g => ?_⟩
  conv => whnf
  refine ⟨trivial, OpAt.append (.slice A ws.length c) ws.length 1 16 (strV ws) [.string (bs s)] (some ⟨g, 0, none⟩) 1 1 _ rfl (fun h s => sepL_pull 2 s) rfl rfl rfl rfl rfl rfl rfl rfl rfl (by decide) (fun w hw => rowH_reads rfl (hw.in_ 0 rfl)) (by simp [Value.oneCell']) (by simp only [maxLen]; omega) (by omega) fun A' c' => ?_⟩
  conv => whnf
  refine ⟨trivial, OpAt.store lb 0 (.slice A' (ws.length + 1) c') _ rfl (fun h s => sepL_pull 2 s) rfl rfl rfl rfl rfl (by simp [Value.cells, Value.oneCell']) (fun h r => blk_put (by show 0 + 1 ≤ 2; omega) r) ?_⟩
  conv => whnf
  refine ⟨trivial, .mk [lnH lb (ws ++ [s])] (fun w ⟨h, hs, s'⟩ => ?_) ⟨rfl, rfl⟩⟩
  obtain ⟨h', e, s2⟩ := sub_front (m := [blkH lb 43 #[.slice A' (ws.length + 1) c', .bool false], rowH (.slice A' (ws.length + 1) c') (ws.length + 1) 9 1 (strV ws ++ [.string (bs s)])]) s'
  refine ⟨h', hs.mono e, boxH_shut (parts := lnP lb (ws ++ [s])) (A', c') ?_⟩
  rw [List.append_nil]
  unfold lnP strV
  rw [List.length_append, List.map_append]
  exact s2
theorem sNumber {R : HP} (hN : ∀ w, Sat R w → NumW w) (n : Int) (h : I64 n) : PureR Tryz.prog R 29 [.string (bs (Lib.itoa n))] (.int .i64 n) := by
  have hr := fun R' (h' : ∀ w, Sat R' w → Sat R w) => sRead (R := R') (fun w s => hN w (h' w s)) (Lib.itoa n) (by have := itoa_len20 h; omega)
  rw [read_itoa n h.1 h.2] at hr
  refine fn_of_run0 false Tryz.func29 rfl hmix rfl fun w0 => ?_
  conv => whnf
  refine ⟨trivial, CallAt.pure (fun R' hR' => hr R' hR') ?_⟩
  conv => whnf
  refine iff_f rfl ?_
  conv => whnf
  exact ⟨trivial, fin_pure rfl rfl⟩
abbrev ptrV (b : Nat) (ps : List (Nat × Int)) : List Value := ps.map fun p => .pointer (some ⟨b, p.1, none⟩)
abbrev itoas (ps : List (Nat × Int)) : List (List UInt8) := ps.map fun p => Lib.itoa p.2
theorem sNumbers {R : HP} {lb b : Nat} {tb : TypeId} {cs : Array Value} {A : Option Addr} {m c : Nat} (hN : ∀ w, Sat R w → NumW w) (ws : List (List UInt8)) (ps : List (Nat × Int)) (hm : ps.length = m) (hm2 : m ≤ 100) (hw : ws.length ≤ 100000) (ha : Sl R A m 1 (ptrV b ps)) (hp : ∀ p ∈ ps, cs[p.1]? = some (.int .i64 p.2) ∧ I64 p.2) :
    FnR Tryz.prog R 12 [.pointer (some ⟨lb, 0, none⟩), .slice A m c] [lnH lb ws, blkH b tb cs] fun r hs => r = .tuple #[] ∧ hs = [lnH lb (ws ++ itoas ps), blkH b tb cs] := by
  refine FnR.of_sat fun wS hS => ?_
  obtain ⟨_, sa⟩ := ha.spot (by omega) (Sat.rest hS)
  refine fn_of_run0 false Tryz.func12 rfl hmix rfl fun w0 => ?_
  conv => whnf
  refine ⟨trivial, LoopAt.heap (α := Nat) [0, 6, 7] (fun i => [(8, .v (.int .i64 (i : Int)))]) (fun i => [lnH lb (ws ++ itoas (ps.take i)), blkH b tb cs]) (fun i => i ≤ m) (fun i => m - i) 0 (Nat.zero_le _) rfl ⟨⟨rfl, rfl⟩, trivial⟩ ⟨⟨rfl, rfl⟩, ⟨rfl, rfl⟩, ⟨rfl, rfl⟩, trivial⟩ trivial (fun h s => sub_same (by simpa using s)) ?_⟩
  intro i hi
  conv => whnf
  refine ⟨fun h => ?_, fun h => ?_⟩
  · have hi2 : i < m := by simpa using h
    rcases sa with sa | ⟨ab, off, rfl, sa⟩
    · omega
    have hil : i < ps.length := by omega
    obtain ⟨hk, hr⟩ := hp _ (List.getElem_mem hil)
    have f1 : (ptrV b ps)[i]? = some (.pointer (some ⟨b, (ps[i]).1, none⟩)) := by simp [hil]
    have f2 : itoas (ps.take (i + 1)) = itoas (ps.take i) ++ [Lib.itoa (ps[i]).2] := by show (ps.take (i + 1)).map _ = _; rw [List.take_succ_eq_append_getElem hil, List.map_append]; rfl
    have f3 : (itoas (ps.take i)).length ≤ 100 := by simp; omega
    generalize ps[i] = p at *
    obtain ⟨k, z⟩ := p
    simp only at hk hr f1 f2
    generalize itoas (ps.take i) = us at *
    conv => whnf
    refine ⟨⟨trivial, by omega⟩, LoadAt.cell (.pointer (some ⟨b, k, none⟩)) rfl rfl (fun w hw => ?_) ?_⟩
    · simp only [Int.toNat_natCast, Nat.mul_one]
      exact sa w (Sat.rest hw) _ _ f1
    conv => whnf
    refine ⟨trivial, LoadAt.cell (.int .i64 z) rfl rfl (fun w hw => blk_cell (hw.in_ 1 rfl) hk) ?_⟩
    conv => whnf
    refine ⟨trivial, CallAt.pure (fun R' hR' => sPrint (fun w s => hN w (Sat.rest (hR' w s))) z hr.1 hr.2) ?_⟩
    conv => whnf
    refine ⟨trivial, CallAt.fn (pre := [lnH lb (ws ++ us)]) _ (fun h s => s) (fun R' hR' => sWord (Lib.itoa z) (by simp; omega)) ?_⟩
    rintro r hs ⟨rfl, rfl⟩
    conv => whnf
    refine ⟨trivial, CallAt.pure (fun R' hR' => sNumber (fun w s => hN w (Sat.rest (hR' w s))) z hr) ?_⟩
    conv => whnf
    refine ⟨trivial, OpAt.store (A' := blkH b tb cs) b k (.int .i64 z) _ rfl (fun h s => sepL_pull 1 s) rfl rfl rfl rfl rfl (by simp [Value.cells, Value.oneCell']) (fun h r => ?_) ?_⟩
    · have hb := blk_put (off := k) (ys := [.int .i64 z]) (by have := (Array.getElem?_eq_some_iff.1 hk).1; simp; omega) r
      rw [putL_same hk] at hb
      exact hb
    conv => whnf
    refine ⟨(by (repeat' apply And.intro) <;> first | exact True.intro | (unfold rng; omega) | omega), Next.heap (i + 1) (by omega) (by omega) ⟨⟨rfl, rfl⟩, trivial⟩ ⟨⟨rfl, rfl⟩, ⟨rfl, rfl⟩, ⟨rfl, rfl⟩, trivial⟩ trivial rfl rfl fun h s => sub_same ?_⟩
    rw [f2, ← List.append_assoc]
    exact sepL_pull 1 s
  · have hi3 : i = m := by simp at h; omega
    subst hi3
    conv => whnf
    refine ⟨trivial, .mk _ (fun w s => s) ⟨rfl, ?_⟩⟩
    rw [List.take_of_length_le (by omega)]
theorem sCell {R : HP} {lb b : Nat} {tb : TypeId} {cs : Array Value} (hN : ∀ w, Sat R w → NumW w) (ws : List (List UInt8)) (k : Nat) (x y : Int) (hw : ws.length ≤ 100000) (hx : cs[k]? = some (.int .i64 x)) (hy : cs[k + 1]? = some (.int .i64 y)) (bx : I64 x) (by' : I64 y) :
    FnR Tryz.prog R 13 [.pointer (some ⟨lb, 0, none⟩), .pointer (some ⟨b, k, none⟩)] [lnH lb ws, blkH b tb cs] fun r hs => r = .tuple #[] ∧ hs = [lnH lb (ws ++ [Lib.itoa x, Lib.itoa y]), blkH b tb cs] := by
  refine fn_of_run0 false Tryz.func13 rfl hmix rfl fun w0 => ?_
  conv => whnf
  refine ⟨trivial, RegAt.groups [([.T 0, .T 1, .T 2, .T 3, .T 4, .T 5, .T 6, .H 7], 8), ([.H 8], 9)] hmix (by kernel_rfl) ?_⟩
  conv => whnf
  refine ⟨trivial, OpAt.lit (ptrV b [(k, x), (k + 1, y)]) 1 rfl rfl rfl rfl rfl (by decide) rfl rfl rfl (by simp [Value.cells]) rfl (by decide) fun g => ?_⟩
  conv => whnf
  refine ⟨trivial, ⟨⟨rfl, rfl⟩, fun h s => sub_tail s⟩, ?_⟩
  conv => whnf
  refine ⟨trivial, CallAt.fn (pre := [lnH lb ws, blkH b tb cs]) _ (fun h s => sepL_perm (List.Perm.trans (List.Perm.swap _ _ _) ((List.Perm.swap _ _ _).cons _)) s) (fun R' hR' => sNumbers (fun w s => hN w (Sat.rest (hR' w s))) ws [(k, x), (k + 1, y)] rfl (by decide) hw (Sl.row fun w s => (hR' w s).in_ 0 rfl) (fun p hp => ?_)) ?_⟩
  · simp only [List.mem_cons, List.not_mem_nil, or_false] at hp
    rcases hp with rfl | rfl
    · exact ⟨hx, bx⟩
    · exact ⟨hy, by'⟩
  rintro r hs ⟨rfl, rfl⟩
  conv => whnf
  refine ⟨trivial, ?_⟩
  conv => whnf
  exact ⟨trivial, .mk [lnH lb (ws ++ [Lib.itoa x, Lib.itoa y]), blkH b tb cs] (fun w ⟨h, hs, s⟩ => by obtain ⟨h', e, s2⟩ := sub_front (m := [lnH lb (ws ++ [Lib.itoa x, Lib.itoa y]), blkH b tb cs]) s; exact ⟨h', hs.mono e, s2⟩) ⟨rfl, rfl⟩⟩
theorem sRect {R : HP} {lb b : Nat} {tb : TypeId} {cs : Array Value} (hN : ∀ w, Sat R w → NumW w) (ws : List (List UInt8)) (k : Nat) (x y z u : Int) (hw : ws.length ≤ 100000) (hx : cs[k]? = some (.int .i64 x)) (hy : cs[k + 1]? = some (.int .i64 y)) (hz : cs[k + 2]? = some (.int .i64 z)) (hu : cs[k + 3]? = some (.int .i64 u)) (bx : I64 x) (by' : I64 y) (bz : I64 z) (bu : I64 u) :
    FnR Tryz.prog R 16 [.pointer (some ⟨lb, 0, none⟩), .pointer (some ⟨b, k, none⟩)] [lnH lb ws, blkH b tb cs] fun r hs => r = .tuple #[] ∧ hs = [lnH lb (ws ++ [Lib.itoa x, Lib.itoa y, Lib.itoa z, Lib.itoa u]), blkH b tb cs] := by
  refine fn_of_run0 false Tryz.func16 rfl hmix rfl fun w0 => ?_
  conv => whnf
  refine ⟨trivial, RegAt.groups [([.T 0, .T 1, .T 2, .T 3, .T 4, .T 5, .T 6, .T 7, .T 8, .T 9, .T 10, .T 11, .T 12, .H 13], 14), ([.H 14], 15)] hmix (by kernel_rfl) ?_⟩
  conv => whnf
  refine ⟨trivial, OpAt.lit (ptrV b [(k, x), (k + 1, y), (k + 2, z), (k + 3, u)]) 1 rfl rfl rfl rfl rfl (by decide) rfl rfl rfl (by simp [Value.cells]) rfl (by decide) fun g => ?_⟩
  conv => whnf
  refine ⟨trivial, ⟨⟨rfl, rfl⟩, fun h s => sub_tail s⟩, ?_⟩
  conv => whnf
  refine ⟨trivial, CallAt.fn (pre := [lnH lb ws, blkH b tb cs]) _ (fun h s => sepL_perm (List.Perm.trans (List.Perm.swap _ _ _) ((List.Perm.swap _ _ _).cons _)) s) (fun R' hR' => sNumbers (fun w s => hN w (Sat.rest (hR' w s))) ws [(k, x), (k + 1, y), (k + 2, z), (k + 3, u)] rfl (by decide) hw (Sl.row fun w s => (hR' w s).in_ 0 rfl) (fun p hp => ?_)) ?_⟩
  · simp only [List.mem_cons, List.not_mem_nil, or_false] at hp
    rcases hp with rfl | rfl | rfl | rfl
    · exact ⟨hx, bx⟩
    · exact ⟨hy, by'⟩
    · exact ⟨hz, bz⟩
    · exact ⟨hu, bu⟩
  rintro r hs ⟨rfl, rfl⟩
  conv => whnf
  refine ⟨trivial, ?_⟩
  conv => whnf
  exact ⟨trivial, .mk [lnH lb (ws ++ [Lib.itoa x, Lib.itoa y, Lib.itoa z, Lib.itoa u]), blkH b tb cs] (fun w ⟨h, hs, s⟩ => by obtain ⟨h', e, s2⟩ := sub_front (m := [lnH lb (ws ++ [Lib.itoa x, Lib.itoa y, Lib.itoa z, Lib.itoa u]), blkH b tb cs]) s; exact ⟨h', hs.mono e, s2⟩) ⟨rfl, rfl⟩⟩
end Go.Proofs.YteplckkoiffnnaaGreatDoor

/-
  script: numbers joined as one word; bytes as hexadecimal; cells as words; a list told.
-/
namespace Go.Proofs.YteplckkoiffnnaaGreatDoor
open Go.RowKit
open Sy
set_option linter.unusedVariables false
set_option linter.unusedSimpArgs false
set_option maxRecDepth 100000
set_option maxHeartbeats 4000000

theorem putL_mid (xs : List Value) (z v : Value) (zs : List Value) : putL (xs ++ z :: zs) xs.length [v] = xs ++ v :: zs := by
  unfold putL
  simp
theorem putL_again {cs : List Value} {k : Nat} {u v : Value} (hk : k < cs.length) : putL (putL cs k [u]) k [v] = putL cs k [v] := by
  apply List.ext_getElem?
  intro i
  rw [putL_get (by rw [putL_len (by simp; omega)]; simp; omega), putL_get (by simp; omega), putL_get (by simp; omega)]
  split
  · rfl
  · rename_i c
    exact if_neg c
theorem made_str (n : Nat) : (madeCells (Value.string .empty).cells (n * 1)).toList = List.replicate n (.string .empty) := by
  rw [Nat.mul_one]
  exact made_const (z := #[.string .empty]) (by intro i hi; simp at hi; subst hi; rfl) (by simp) n
theorem sJoin {R : HP} {A : Option Addr} {n c : Nat} (hN : ∀ w, Sat R w → NumW w) (l : List Int) (hl : l.length = n) (hn : n ≤ 1000000) (hi : ∀ x ∈ l, I64 x) (ha : Sl R A n 1 (l.flatMap numL)) : PureR Tryz.prog R 33 [.slice A n c] (.string (bs (listW l))) := by
  refine PureR.of_sat fun wS hS => ?_
  obtain ⟨_, sa⟩ := ha.spot (by omega) hS
  have hlw := listW_len hi
  have f0 : ∀ i (h : i < l.length), (l.flatMap numL)[i]? = some (.int .i64 l[i]) := fun i h => by
    have := flat_at (f := numL) (s := 1) (fun _ => rfl) (l := l) (i := i) (j := 0) h (by omega)
    rwa [Nat.mul_one, Nat.add_zero] at this
  refine fn_of_run0 false Tryz.func33 rfl hmix rfl fun w0 => ?_
  conv => whnf
  refine ⟨fun h => ?_, fun h => ?_⟩
  · have h0 : n = 0 := by have := of_decide_eq_true h; omega
    subst h0
    obtain rfl : l = [] := List.length_eq_zero_iff.1 hl
    conv => whnf
    exact ⟨trivial, fin_pure rfl rfl⟩
  have hne : l ≠ [] := by
    rintro rfl
    have := of_decide_eq_false h
    simp at hl
    omega
  have hp : 0 < n := by have := List.length_pos_iff.2 hne; omega
  conv => whnf
  refine ⟨trivial, OpAt.make n 1 (List.replicate n (.string .empty)) rfl rfl rfl rfl rfl rfl rfl rfl (made_str n) (by show 16 * n ≤ _; omega) (by simp only [maxLen]; omega) fun g => ?_⟩
  conv => whnf
  refine ⟨trivial, LoopAt.heap (α := Nat) [3, 12, 13] (fun i => [(14, .v (.int .i64 (i : Int)))]) (fun i => [rowH (.slice (some ⟨g, 0, none⟩) n n) n 9 1 (strV ((l.take i).map Lib.itoa) ++ List.replicate (n - i) (.string .empty))]) (fun i => i ≤ n) (fun i => n - i) 0 (Nat.zero_le _) rfl ⟨⟨rfl, rfl⟩, trivial⟩ ⟨⟨rfl, rfl⟩, ⟨rfl, rfl⟩, ⟨rfl, rfl⟩, trivial⟩ trivial (fun h s => sub_same (by simpa using s)) ?_⟩
  intro i hi'
  conv => whnf
  refine ⟨fun h => ?_, fun h => ?_⟩
  · have hi2 : i < n := by simpa using h
    rcases sa with sa | ⟨ab, off, rfl, sa⟩
    · omega
    have hil : i < l.length := by omega
    have f1 := f0 i hil
    have f2 : (l.take (i + 1)).map Lib.itoa = (l.take i).map Lib.itoa ++ [Lib.itoa l[i]] := by rw [List.take_succ_eq_append_getElem hil, List.map_append]; rfl
    have f3 : (strV ((l.take i).map Lib.itoa)).length = i := by simp; omega
    have f4 := hi _ (List.getElem_mem hil)
    generalize l[i] = z at *
    conv => whnf
    refine ⟨⟨trivial, by omega⟩, LoadAt.cell (.int .i64 z) rfl rfl (fun w hw => ?_) ?_⟩
    · simp only [Int.toNat_natCast, Nat.mul_one]
      exact sa w (Sat.rest hw) _ _ f1
    conv => whnf
    refine ⟨trivial, CallAt.pure (fun R' hR' => sPrint (fun w s => hN w (Sat.rest (hR' w s))) z f4.1 f4.2) ?_⟩
    conv => whnf
    refine ⟨⟨trivial, by omega⟩, OpAt.store (A' := rowH (.slice (some ⟨g, 0, none⟩) n n) n 9 1 (strV ((l.take (i + 1)).map Lib.itoa) ++ List.replicate (n - (i + 1)) (.string .empty))) g i (.string (bs (Lib.itoa z))) _ rfl (fun h s => s) (congrArg (fun k => Value.pointer (some ⟨g, k, none⟩)) (show 0 + (i : Int).toNat = i by simp)) rfl rfl rfl rfl (by simp [Value.cells, Value.oneCell']) (fun h r => ?_) ?_⟩
    · have hb := row_put (off := i) (ys := [.string (bs (Lib.itoa z))]) (by simp; omega) r
      have e : putL (strV ((l.take i).map Lib.itoa) ++ List.replicate (n - i) (.string .empty)) i [.string (bs (Lib.itoa z))] = strV ((l.take (i + 1)).map Lib.itoa) ++ List.replicate (n - (i + 1)) (.string .empty) := by
        rw [f2, show n - i = (n - (i + 1)) + 1 by omega, List.replicate_succ]
        have := putL_mid (strV ((l.take i).map Lib.itoa)) (.string .empty) (.string (bs (Lib.itoa z))) (List.replicate (n - (i + 1)) (.string .empty))
        rw [f3] at this
        rw [this]
        simp
      rw [e] at hb
      exact hb
    conv => whnf
    exact ⟨(by (repeat' apply And.intro) <;> first | exact True.intro | (unfold rng; omega) | omega), Next.heap (i + 1) (by omega) (by omega) ⟨⟨rfl, rfl⟩, trivial⟩ ⟨⟨rfl, rfl⟩, ⟨rfl, rfl⟩, ⟨rfl, rfl⟩, trivial⟩ trivial rfl rfl fun h s => sub_same s⟩
  · have hi3 : i = n := by simp at h; omega
    subst hi3
    conv => whnf
    have hws : (l.map Lib.itoa).length = i := by simpa using hl
    have hjn : jn 44 (l.map Lib.itoa) = listW l := by unfold listW; rw [if_neg hne]
    refine ⟨trivial, CallAt.pure (fun R' hR' => sJoinC 44 (l.map Lib.itoa) hws (Nat.le_refl _) (Sl.row (c := i) (e := 9) fun w s => ?_) hp (by rw [hjn]; omega) (by omega)) ?_⟩
    · have := (hR' w s).in_ 0 rfl
      rw [List.take_of_length_le (by omega), Nat.sub_self, List.replicate_zero, List.append_nil] at this
      exact this
    rw [hjn]
    conv => whnf
    exact ⟨trivial, fin_drop rfl⟩
end Go.Proofs.YteplckkoiffnnaaGreatDoor

/-
  script: bytes as hexadecimal; cells as words.
-/
namespace Go.Proofs.YteplckkoiffnnaaGreatDoor
open Go.RowKit
open Sy
set_option linter.unusedVariables false
set_option linter.unusedSimpArgs false
set_option maxRecDepth 100000
set_option maxHeartbeats 4000000

abbrev HXs : ByteArray := ⟨#[48, 49, 50, 51, 52, 53, 54, 55, 56, 57, 97, 98, 99, 100, 101, 102]⟩
theorem dig16 : ∀ q : Fin 16, byteAt HXs q.val = ((hexd q.val).toNat : Int) := by decide
theorem and15 : ∀ q : Fin 256, bits .and .u8 ((q.val : Nat) : Int) 15 = ((q.val % 16 : Nat) : Int) := by decide +kernel
theorem hexHi (z : UInt8) : byteAt HXs ((z.toNat : Int) / 2 ^ Int.toNat 4).toNat = ((hexd (z.toNat / 16)).toNat : Int) := by
  have hz := z.toNat_lt
  have e : ((z.toNat : Int) / 2 ^ Int.toNat 4).toNat = z.toNat / 16 := by show ((z.toNat : Int) / 16).toNat = _; omega
  rw [e]
  exact dig16 ⟨z.toNat / 16, by omega⟩
theorem hexLo (z : UInt8) : byteAt HXs (bits .and .u8 (z.toNat : Int) 15).toNat = ((hexd (z.toNat % 16)).toNat : Int) := by
  have hz := z.toNat_lt
  have h1 := and15 ⟨z.toNat, hz⟩
  simp only at h1
  rw [h1, Int.toNat_natCast]
  exact dig16 ⟨z.toNat % 16, by omega⟩
theorem sWriteByte {R : HP} {b : Nat} {l : List UInt8} (x : UInt8) (hl : l.length ≤ 1000000) :
    FnR Tryz.prog R 35 [.pointer (some ⟨b, 0, none⟩), .int .u8 (x.toNat : Int)] [bldH b l] fun r hs => r = .nilIface ∧ hs = [bldH b (l ++ [x])] := by
  refine FnR.unbox fun ⟨u, A, c⟩ => ?_
  rw [List.append_nil]
  have hcc : ∀ R', FnR Tryz.prog R' 41 [.pointer (some ⟨b, 0, none⟩)] [bldHd b u (.slice A l.length c)] fun r hs => r = .tuple #[] ∧ hs = [bldHd b true (.slice A l.length c)] := fun R' => by
    cases u
    · exact sCopyCheckF
    · exact sCopyCheckU
  have hxl := x.toNat_lt
  refine fn_of_run0 false Tryz.func35 rfl hmix rfl fun w0 => ?_
  conv => whnf
  refine ⟨trivial, CallAt.fn (pre := [bldHd b u (.slice A l.length c)]) _ (fun h s => s) (fun R' hR' => hcc R') ?_⟩
  rintro r hs ⟨rfl, rfl⟩
  conv => whnf
  refine ⟨trivial, LoadAt.cell (.slice A l.length c) rfl rfl (fun w hw => (blk_sat (show Sat (bldHd b true (.slice A l.length c)) w from hw.in_ 0 rfl)).cell 1) ?_⟩
  conv => whnf
  refine ⟨trivial, OpAt.lit [.int .u8 (x.toNat : Int)] 1 rfl rfl rfl rfl rfl (by decide) rfl rfl rfl (by simp [Value.cells]) rfl (by decide) fun g => ?_⟩
  conv => whnf
  refine ⟨trivial, OpAt.append (.slice A l.length c) l.length 1 1 (byV l) [.int .u8 (x.toNat : Int)] (some ⟨g, 0, none⟩) 1 1 _ rfl (fun h s => sepL_pull 2 s) rfl rfl rfl rfl rfl rfl rfl rfl rfl (by decide) (fun w hw => rowH_reads rfl (hw.in_ 0 rfl)) (by simp [Value.oneCell']) (by simp only [maxLen]; omega) (by omega) fun A' c' => ?_⟩
  conv => whnf
  refine ⟨trivial, OpAt.store b 1 (.slice A' (l.length + 1) c') _ rfl (fun h s => sepL_pull 2 s) rfl rfl rfl rfl rfl (by simp [Value.cells, Value.oneCell']) (fun h r => blk_put (by show 1 + 1 ≤ 2; omega) r) ?_⟩
  conv => whnf
  refine ⟨trivial, .mk [bldH b (l ++ [x])] (fun w ⟨h, hs, s'⟩ => ?_) ⟨rfl, rfl⟩⟩
  obtain ⟨h', e, s2⟩ := sub_front (m := [bldHd b true (.slice A' (l.length + 1) c'), rowH (.slice A' (l.length + 1) c') (l.length + 1) 5 1 (byV l ++ [.int .u8 (x.toNat : Int)])]) s'
  refine ⟨h', hs.mono e, boxH_shut (parts := bldP b (l ++ [x])) (true, A', c') ?_⟩
  rw [List.append_nil]
  unfold bldP
  rw [List.length_append]
  have e : byV (l ++ [x]) = byV l ++ [.int .u8 (x.toNat : Int)] := List.map_append
  rw [e]
  exact s2
theorem sHex {R : HP} {A : Option Addr} {n c : Nat} (l : List UInt8) (hl : l.length = n) (hn : n ≤ 400000) (ha : Sl R A n 1 (byV l)) : PureR Tryz.prog R 19 [.slice A n c] (.string (bs (hexW l))) := by
  refine PureR.of_sat fun wS hS => ?_
  obtain ⟨_, sa⟩ := ha.spot (by omega) hS
  refine fn_of_run0 false Tryz.func19 rfl hmix rfl fun w0 => ?_
  conv => whnf
  refine ⟨fun h => ?_, fun h => ?_⟩
  · have h0 : n = 0 := by have := of_decide_eq_true h; omega
    subst h0
    obtain rfl : l = [] := List.length_eq_zero_iff.1 hl
    conv => whnf
    exact ⟨trivial, fin_pure rfl rfl⟩
  have hne : l ≠ [] := by
    rintro rfl
    have := of_decide_eq_false h
    simp at hl
    omega
  conv => whnf
  refine ⟨trivial, LoopAt.begins (α := Nat × Nat) [9, 10] (fun a => [(3, .v (.pointer (some ⟨a.2, 0, none⟩))), (11, .v (.int .i64 (a.1 : Int)))]) (fun a => []) (fun a => [bldH a.2 (hexT (l.take a.1))]) (fun a => a.1 ≤ n) (fun a => n - a.1) (Begin.expose 0 ?_) ?_⟩
  · conv => whnf
    intro tb _
    refine Begin.le ?_ ⟨(0, tb), Nat.zero_le _, rfl⟩
    exact Le.of (Nat.le_of_ble_eq_true rfl) (Nat.zero_le _) ⟨⟨rfl, rfl⟩, ⟨rfl, rfl⟩, ⟨rfl, rfl⟩, ⟨rfl, rfl⟩, trivial⟩ trivial fun h s => sub_same (bld_new s)
  rintro ⟨i, tb⟩ hi
  simp only at hi
  conv => whnf
  refine ⟨fun h3 => ?_, fun h3 => ?_⟩
  · have g3 : i < n := by simpa using h3
    rcases sa with sa | ⟨ab, off, rfl, sa⟩
    · omega
    have hil : i < l.length := by omega
    have f1 : (byV l)[i]? = some (.int .u8 (l[i].toNat : Int)) := by simp [hil]
    have hnx : hexT (l.take (i + 1)) = hexT (l.take i) ++ [hexd (l[i].toNat / 16)] ++ [hexd (l[i].toNat % 16)] := by rw [List.take_succ_eq_append_getElem hil, hexT_append]; simp [hexT]
    have hli : (hexT (l.take i)).length ≤ 800000 := by rw [hexT_len]; simp; omega
    have hz := l[i].toNat_lt
    generalize l[i] = z at *
    generalize hexT (l.take i) = q at *
    conv => whnf
    refine ⟨⟨trivial, by simp only; omega⟩, LoadAt.cell (.int .u8 (z.toNat : Int)) rfl rfl (fun w hw => ?_) ?_⟩
    · simp only [Int.toNat_natCast, Nat.mul_one]
      exact sa w (Sat.rest hw) _ _ f1
    conv => whnf
    rw [hexHi z]
    refine ⟨⟨⟨trivial, by decide⟩, ?_⟩, CallAt.fn (pre := [bldH tb q]) _ (fun h s => s) (fun R' hR' => sWriteByte (hexd (z.toNat / 16)) (by omega)) ?_⟩
    · show 0 ≤ (z.toNat : Int) / 16 ∧ (z.toNat : Int) / 16 < 16
      omega
    rintro r hs ⟨rfl, rfl⟩
    conv => whnf
    rw [hexLo z]
    refine ⟨⟨trivial, ?_⟩, CallAt.fn (pre := [bldH tb (q ++ [hexd (z.toNat / 16)])]) _ (fun h s => s) (fun R' hR' => sWriteByte (hexd (z.toNat % 16)) (by simp; omega)) ?_⟩
    · have h1 := and15 ⟨z.toNat, hz⟩
      simp only at h1
      rw [h1]
      show 0 ≤ ((z.toNat % 16 : Nat) : Int) ∧ ((z.toNat % 16 : Nat) : Int) < 16
      omega
    rintro r hs ⟨rfl, rfl⟩
    conv => whnf
    refine ⟨⟨trivial, by unfold rng; simp only; omega⟩, .mk (i + 1, tb) (by simp only; omega) (by simp only; omega) (Le.of (Nat.le_of_ble_eq_true rfl) (Nat.zero_le _) ⟨⟨rfl, rfl⟩, ⟨rfl, rfl⟩, ⟨rfl, rfl⟩, ⟨rfl, rfl⟩, trivial⟩ trivial fun h s => ?_)⟩
    refine sub_same ?_
    show sepL [bldH tb (hexT (l.take (i + 1)))] R h
    rw [hnx]
    exact s
  · have g3 : i = n := by simp at h3; omega
    subst g3
    have e : l.take i = l := List.take_of_length_le (by omega)
    have e2 : hexW l = hexT l := by unfold hexW; rw [if_neg hne]
    conv => whnf
    refine ⟨trivial, CallAt.fn (pre := [bldH tb (hexT (l.take i))]) _ (fun h s => s) (fun R' hR' => sBString (by rw [e]; intro c; have := congrArg List.length c; rw [hexT_len] at this; have := List.length_pos_iff.2 hne; simp at *; omega) (by rw [e, hexT_len]; omega)) ?_⟩
    rintro r hs ⟨rfl, rfl⟩
    rw [e, e2]
    conv => whnf
    exact ⟨trivial, fin_drop rfl⟩
end Go.Proofs.YteplckkoiffnnaaGreatDoor

/-
  script: cells as words; a list told.
-/
namespace Go.Proofs.YteplckkoiffnnaaGreatDoor
open Go.RowKit
open Sy
set_option linter.unusedVariables false
set_option linter.unusedSimpArgs false
set_option maxRecDepth 100000
set_option maxHeartbeats 4000000

theorem sCells {R : HP} {A : Option Addr} {n c : Nat} (hN : ∀ w, Sat R w → NumW w) (l : List (Int × Int)) (hl : l.length = n) (hn : n ≤ 1000000) (hi : ∀ x ∈ l, I64 x.1 ∧ I64 x.2) (ha : Sl R A n 2 (l.flatMap celL)) :
    FnR Tryz.prog R 15 [.slice A n c] [] fun r hs => ∃ A' c', r = .slice A' n c' ∧ hs = [rowH (.slice A' n c') n 9 1 (strV (l.map celW))] := by
  refine FnR.of_sat fun wS hS => ?_
  obtain ⟨_, sa⟩ := ha.spot (by omega) (sat_base hS)
  have f0 : ∀ i (h : i < l.length), (l.flatMap celL)[i * 2]? = some (.int .i64 l[i].1) ∧ (l.flatMap celL)[i * 2 + 1]? = some (.int .i64 l[i].2) := fun i h =>
    ⟨flat_at (f := celL) (s := 2) (fun _ => rfl) (l := l) (i := i) (j := 0) h (by omega), flat_at (f := celL) (s := 2) (fun _ => rfl) (l := l) (i := i) (j := 1) h (by omega)⟩
  refine fn_of_run0 false Tryz.func15 rfl hmix rfl fun w0 => ?_
  conv => whnf
  refine ⟨trivial, LoopAt.heap (α := Nat × Option Addr × Nat) [6, 7] (fun a => [(3, .v (.slice a.2.1 a.1 a.2.2)), (8, .v (.int .i64 (a.1 : Int)))]) (fun a => [rowH (.slice a.2.1 a.1 a.2.2) a.1 9 1 (strV ((l.take a.1).map celW))]) (fun a => a.1 ≤ n) (fun a => n - a.1) (0, none, 0) (Nat.zero_le _) rfl ⟨⟨rfl, rfl⟩, ⟨rfl, rfl⟩, trivial⟩ ⟨⟨rfl, rfl⟩, ⟨rfl, rfl⟩, trivial⟩ trivial (fun h s => sub_same (row_nil _ _ s)) ?_⟩
  rintro ⟨i, B, cb⟩ hi'
  simp only at hi'
  conv => whnf
  refine ⟨fun h => ?_, fun h => ?_⟩
  · have hi2 : i < n := by simpa using h
    rcases sa with sa | ⟨ab, off, rfl, sa⟩
    · omega
    have hil : i < l.length := by omega
    obtain ⟨f1, f2⟩ := f0 i hil
    have f3 : (l.take (i + 1)).map celW = (l.take i).map celW ++ [celW l[i]] := by rw [List.take_succ_eq_append_getElem hil, List.map_append]; rfl
    have hb := hi _ (List.getElem_mem hil)
    have hcw : celW l[i] = Lib.itoa l[i].1 ++ [44] ++ Lib.itoa l[i].2 := by simp [celW]
    have l1 := itoa_len20 hb.1
    have l2 := itoa_len20 hb.2
    have p1 := fun R' (h : ∀ w, Sat R' w → Sat R w) => sPrint (R := R') (fun w s => hN w (h w s)) l[i].1 hb.1.1 hb.1.2
    have p2 := fun R' (h : ∀ w, Sat R' w → Sat R w) => sPrint (R := R') (fun w s => hN w (h w s)) l[i].2 hb.2.1 hb.2.2
    generalize celW l[i] = cw at *
    generalize l[i] = z at *
    obtain ⟨x, y⟩ := z
    simp only at f1 f2 p1 p2 hcw l1 l2
    generalize (l.take i).map celW = us at *
    generalize Lib.itoa x = sx at *
    generalize Lib.itoa y = sy at *
    conv => whnf
    refine ⟨⟨trivial, by simp only; omega⟩, LoadAt.agg [.int .i64 x, .int .i64 y] rfl rfl rfl (fun w hw j u hj => ?_) ?_⟩
    · simp only [Int.toNat_natCast]
      rcases j with _ | _ | j
      · simp at hj; rw [← hj]; exact sa w (Sat.rest hw) _ _ f1
      · simp at hj; rw [← hj, Nat.add_assoc]; exact sa w (Sat.rest hw) _ _ f2
      · simp at hj
    conv => whnf
    refine ⟨trivial, RegAt.groups [([.T 0, .T 1, .T 2, .T 5, .T 6, .H 3, .T 4, .H 7, .T 8, .H 9], 10), ([.H 10], 11), ([.T 11], 12)] hmix (by kernel_rfl) ?_⟩
    conv => whnf
    refine ⟨trivial, CallAt.pure (fun R' hR' => p1 R' fun w s => Sat.rest (hR' w s)) ?_⟩
    conv => whnf
    refine ⟨trivial, ⟨⟨rfl, rfl⟩, fun h s => sub_same s⟩, ?_⟩
    conv => whnf
    refine ⟨⟨trivial, by rw [bs_size]; show _ + 1 ≤ _; omega⟩, CallAt.pure (fun R' hR' => p2 R' fun w s => Sat.rest (hR' w s)) ?_⟩
    conv => whnf
    refine ⟨trivial, ⟨⟨rfl, rfl⟩, fun h s => sub_same s⟩, ?_⟩
    conv => whnf
    rw [show (⟨#[44]⟩ : ByteArray) = bs [44] from rfl, bs_append, bs_append, ← hcw]
    refine ⟨⟨trivial, ?_⟩, OpAt.lit [.string (bs cw)] 1 rfl rfl rfl rfl rfl (by decide) rfl rfl rfl (by simp [Value.cells]) rfl (by decide) fun g => ?_⟩
    · simp only [bs_size, List.length_append, List.length_cons, List.length_nil]
      omega
    conv => whnf
    refine ⟨trivial, ⟨⟨rfl, rfl⟩, fun h s => sub_tail s⟩, ?_⟩
    conv => whnf
    refine ⟨trivial, OpAt.append (.slice B i cb) i 1 16 (strV us) [.string (bs cw)] (some ⟨g, 0, none⟩) 1 1 _ rfl (fun h s => sepL_pull 1 s) rfl rfl rfl rfl rfl rfl rfl rfl rfl (by decide) (fun w hw => rowH_reads rfl (Sat.left hw)) (by simp [Value.oneCell']) (by simp only [maxLen]; omega) (by omega) fun A' c' => ?_⟩
    conv => whnf
    refine ⟨trivial, ?_⟩
    conv => whnf
    refine ⟨⟨trivial, by unfold rng; simp only; omega⟩, Next.heap (i + 1, A', c') (by simp only; omega) (by simp only; omega) ⟨⟨rfl, rfl⟩, ⟨rfl, rfl⟩, trivial⟩ ⟨⟨rfl, rfl⟩, ⟨rfl, rfl⟩, trivial⟩ trivial rfl rfl fun h s => ?_⟩
    obtain ⟨h', e, s'⟩ := sub_drop1 s
    refine ⟨h', e, ?_⟩
    show sepL [rowH (.slice A' (i + 1) c') (i + 1) 9 1 (strV ((l.take (i + 1)).map celW))] R h'
    rw [f3]
    show sepL [rowH (.slice A' (i + 1) c') (i + 1) 9 1 (List.map _ (us ++ [cw]))] R h'
    rw [List.map_append]
    exact s'
  · have hi3 : i = n := by simp at h; omega
    subst hi3
    have e : l.take i = l := List.take_of_length_le (by omega)
    rw [e]
    conv => whnf
    exact ⟨trivial, .mk _ (fun w s => s) ⟨_, _, rfl, rfl⟩⟩
abbrev putC (cs : Array Value) (k : Nat) (v : Value) : Array Value := (putL cs.toList k [v]).toArray
theorem putC_get {cs : Array Value} {k : Nat} {v : Value} (hk : k < cs.size) : (putC cs k v)[k]? = some v := by
  simp only [List.getElem?_toArray]
  rw [putL_get (by simp; omega), if_pos (by simp)]
  simp
theorem putC_size {cs : Array Value} {k : Nat} {v : Value} (hk : k < cs.size) : (putC cs k v).size = cs.size := by
  simp only [List.size_toArray]
  rw [putL_len (by simp; omega)]
  simp
theorem sList {R : HP} {lb b : Nat} {tb : TypeId} {cs : Array Value} {A : Option Addr} {n c : Nat} (hN : ∀ w, Sat R w → NumW w) (hM : ∀ w, Sat R w → MaxW w) (ws : List (List UInt8)) (k : Nat) (l : List Int) (hw : ws.length ≤ 100000) (hk : cs[k]? = some (.slice A n c)) (hl : l.length = n) (hn : n ≤ 40000) (hi : ∀ x ∈ l, I64 x) (ha : Sl R A n 1 (l.flatMap numL)) :
    FnR Tryz.prog R 18 [.pointer (some ⟨lb, 0, none⟩), .pointer (some ⟨b, k, none⟩)] [lnH lb ws, blkH b tb cs] fun r hs => r = .tuple #[] ∧ ∃ v, hs = [lnH lb (ws ++ [listW l]), blkH b tb (putC cs k v)] := by
  have hks := (Array.getElem?_eq_some_iff.1 hk).1
  have hjo := fun R' (h : ∀ w, Sat R' w → Sat R w) => sJoin (R := R') (c := c) (fun w s => hN w (h w s)) l hl (by omega) hi (ha.mono h)
  have hwl := listW_len hi
  refine fn_of_run0 false Tryz.func18 rfl hmix rfl fun w0 => ?_
  conv => whnf
  refine ⟨trivial, LoadAt.cell (.slice A n c) rfl rfl (fun w hw => blk_cell (hw.in_ 1 rfl) hk) ?_⟩
  conv => whnf
  refine ⟨trivial, CallAt.pure (fun R' hR' => hjo R' fun w s => Sat.rest (hR' w s)) ?_⟩
  conv => whnf
  refine ⟨trivial, CallAt.fn (pre := [lnH lb ws]) _ (fun h s => s) (fun R' hR' => sWord (listW l) (by omega)) ?_⟩
  rintro r hs ⟨rfl, rfl⟩
  conv => whnf
  refine ⟨trivial, OpAt.store (A' := blkH b tb (putC cs k (.slice none 0 0))) b k (.slice none 0 0) _ rfl (fun h s => sepL_pull 1 s) rfl rfl rfl rfl rfl (by simp [Value.cells, Value.oneCell']) (fun h r => blk_put (by simp [Value.cells]; omega) r) ?_⟩
  conv => whnf
  refine ⟨fun h => ?_, fun h => ?_⟩
  · conv => whnf
    exact ⟨trivial, .mk _ (fun w ⟨h, hs, s⟩ => ⟨h, hs, sepL_pull 1 s⟩) ⟨rfl, _, rfl⟩⟩
  have hne : l ≠ [] := by
    rintro rfl
    exact absurd h (by decide)
  have hsp := fun R' (h : ∀ w, Sat R' w → Sat R w) => sSplitC (R := R') (fun w s => hM w (h w s)) 44 (listW l) (by omega)
  rw [listW_split hne] at hsp
  rw [List.length_map, hl] at hsp
  conv => whnf
  refine ⟨trivial, CallAt.fn (pre := []) _ (fun h s => s) (fun R' hR' => hsp R' fun w s => Sat.rest (hR' w s)) ?_⟩
  rintro r hs ⟨B, rfl, rfl⟩
  conv => whnf
  refine ⟨trivial, LoopAt.heap (α := Nat × Option Addr × Nat) [1, 18, 19] (fun a => [(20, .v (.int .i64 (a.1 : Int)))]) (fun a => [rowH (.slice a.2.1 a.1 a.2.2) a.1 2 1 ((l.take a.1).flatMap numL), blkH b tb (putC cs k (.slice a.2.1 a.1 a.2.2)), rowH (.slice (some ⟨B, 0, none⟩) n n) n 9 1 (strV (l.map Lib.itoa)), lnH lb (ws ++ [listW l])]) (fun a => a.1 ≤ n) (fun a => n - a.1) (0, none, 0) (Nat.zero_le _) rfl ⟨⟨rfl, rfl⟩, trivial⟩ ⟨⟨rfl, rfl⟩, ⟨rfl, rfl⟩, ⟨rfl, rfl⟩, trivial⟩ trivial (fun h s => sub_same (row_nil _ _ (sepL_pull 1 s))) ?_⟩
  rintro ⟨i, D, cd⟩ hi'
  simp only at hi'
  conv => whnf
  refine ⟨fun h => ?_, fun h => ?_⟩
  · have hi2 : i < n := by simpa using h
    have hil : i < l.length := by omega
    have f3 : (l.take (i + 1)).flatMap numL = (l.take i).flatMap numL ++ [.int .i64 l[i]] := by rw [List.take_succ_eq_append_getElem hil, List.flatMap_append]; rfl
    have f1 : (strV (l.map Lib.itoa))[i]? = some (.string (bs (Lib.itoa l[i]))) := by simp [hil]
    have hb := hi _ (List.getElem_mem hil)
    have hnu := fun R' (h : ∀ w, Sat R' w → Sat R w) => sNumber (R := R') (fun w s => hN w (h w s)) l[i] hb
    generalize l[i] = z at *
    conv => whnf
    refine ⟨⟨trivial, by simp only; omega⟩, LoadAt.cell (.string (bs (Lib.itoa z))) rfl rfl (fun w hw => ?_) ?_⟩
    · have hrd := rowH_reads rfl (hw.in_ 2 rfl)
      obtain ⟨ad, e1, _, e2⟩ := hrd.2 (by omega)
      injection e1 with e1
      subst e1
      have := e2 i _ f1
      rw [add_plain] at this
      simpa using this
    conv => whnf
    generalize (l.take i).flatMap numL = us at *
    refine ⟨trivial, RegAt.trees0 [((Tr.T 0 (Tr.T 1 (Tr.T 2 (Tr.T 4 (Tr.C 3 (Tr.H 5 (Tr.H 6 (Tr.H 7 Tr.E))) 5 (Tr.C 3 (Tr.H 6 (Tr.H 7 Tr.E)) 6 (Tr.H 3 (Tr.H 7 Tr.E)))))))), 8), ((Tr.T 8 Tr.E), 9), ((Tr.H 9 Tr.E), 10)] hmix (by kernel_rfl) ?_⟩
    conv => whnf
    refine ⟨?_, ?_⟩
    · refine ⟨trivial, LoadAt.cell (.slice D i cd) rfl rfl (fun w hw => blk_cell (hw.in_ 1 rfl) (putC_get hks)) ?_⟩
      conv => whnf
      refine ⟨trivial, ⟨⟨rfl, rfl⟩, fun h s => sub_nil s⟩, ?_⟩
      conv => whnf
      refine ⟨trivial, CallAt.pure (fun R' hR' => hnu R' fun w s => Sat.rest (hR' w s)) ?_⟩
      conv => whnf
      refine ⟨trivial, ⟨⟨rfl, rfl⟩, fun h s => sub_nil s⟩, ?_⟩
      conv => whnf
      refine ⟨trivial, OpAt.lit [.int .i64 z] 1 rfl rfl rfl rfl rfl (by decide) rfl rfl rfl (by simp [Value.cells]) rfl (by decide) fun g => ?_⟩
      conv => whnf
      refine ⟨trivial, ⟨⟨rfl, rfl⟩, fun h s => sub_nil s⟩, ?_⟩
      conv => whnf
      refine ⟨trivial, OpAt.append (.slice D i cd) i 1 8 us [.int .i64 z] (some ⟨g, 0, none⟩) 1 1 _ rfl (fun h s => sepL_pull 1 s) rfl rfl rfl rfl rfl rfl rfl rfl rfl (by decide) (fun w hw => rowH_reads rfl (Sat.left hw)) (by simp [Value.oneCell']) (by simp only [maxLen]; omega) (by omega) fun D' cd' => ?_⟩
      conv => whnf
      refine ⟨trivial, ⟨⟨rfl, rfl⟩, fun h s => sub_nil s⟩, ?_⟩
      conv => whnf
      refine ⟨trivial, OpAt.store (A' := blkH b tb (putC cs k (.slice D' (i + 1) cd'))) b k (.slice D' (i + 1) cd') _ rfl (fun h s => sepL_pull 2 s) rfl rfl rfl rfl rfl (by simp [Value.cells, Value.oneCell']) (fun h r => ?_) ?_⟩
      · have hb := blk_put (off := k) (ys := [.slice D' (i + 1) cd']) (show k + 1 ≤ _ by rw [putC_size hks]; omega) r
        rw [show (putL (putC cs k (.slice D i cd)).toList k [.slice D' (i + 1) cd']).toArray = putC cs k (.slice D' (i + 1) cd') from congrArg List.toArray (putL_again (by simpa using hks))] at hb
        exact hb
      conv => whnf
      refine ⟨trivial, ?_⟩
      conv => whnf
      refine ⟨trivial, ?_⟩
      conv => whnf
      refine ⟨⟨trivial, by unfold rng; simp only; omega⟩, Next.heap (i + 1, D', cd') (by simp only; omega) (by simp only; omega) ⟨⟨rfl, rfl⟩, trivial⟩ ⟨⟨rfl, rfl⟩, ⟨rfl, rfl⟩, ⟨rfl, rfl⟩, trivial⟩ trivial rfl rfl fun h s => ?_⟩
      obtain ⟨h', e, s'⟩ := sub_tail (sepL_pull 2 s)
      refine ⟨h', e, ?_⟩
      show sepL [rowH (.slice D' (i + 1) cd') (i + 1) 2 1 ((l.take (i + 1)).flatMap numL), blkH b tb (putC cs k (.slice D' (i + 1) cd')), rowH (.slice (some ⟨B, 0, none⟩) n n) n 9 1 (strV (l.map Lib.itoa)), lnH lb (ws ++ [listW l])] R h'
      rw [f3]
      exact sepL_perm (List.Perm.swap _ _ _) s'
    · refine ⟨trivial, CallAt.pure (fun R' hR' => hnu R' fun w s => Sat.rest (hR' w s)) ?_⟩
      conv => whnf
      refine ⟨trivial, ⟨⟨rfl, rfl⟩, fun h s => sub_nil s⟩, ?_⟩
      conv => whnf
      refine ⟨?_, ?_⟩
      · refine ⟨trivial, LoadAt.cell (.slice D i cd) rfl rfl (fun w hw => blk_cell (hw.in_ 1 rfl) (putC_get hks)) ?_⟩
        conv => whnf
        refine ⟨trivial, ⟨⟨rfl, rfl⟩, fun h s => sub_nil s⟩, ?_⟩
        conv => whnf
        refine ⟨trivial, OpAt.lit [.int .i64 z] 1 rfl rfl rfl rfl rfl (by decide) rfl rfl rfl (by simp [Value.cells]) rfl (by decide) fun g => ?_⟩
        conv => whnf
        refine ⟨trivial, ⟨⟨rfl, rfl⟩, fun h s => sub_nil s⟩, ?_⟩
        conv => whnf
        refine ⟨trivial, OpAt.append (.slice D i cd) i 1 8 us [.int .i64 z] (some ⟨g, 0, none⟩) 1 1 _ rfl (fun h s => sepL_pull 1 s) rfl rfl rfl rfl rfl rfl rfl rfl rfl (by decide) (fun w hw => rowH_reads rfl (Sat.left hw)) (by simp [Value.oneCell']) (by simp only [maxLen]; omega) (by omega) fun D' cd' => ?_⟩
        conv => whnf
        refine ⟨trivial, ⟨⟨rfl, rfl⟩, fun h s => sub_nil s⟩, ?_⟩
        conv => whnf
        refine ⟨trivial, OpAt.store (A' := blkH b tb (putC cs k (.slice D' (i + 1) cd'))) b k (.slice D' (i + 1) cd') _ rfl (fun h s => sepL_pull 2 s) rfl rfl rfl rfl rfl (by simp [Value.cells, Value.oneCell']) (fun h r => ?_) ?_⟩
        · have hb := blk_put (off := k) (ys := [.slice D' (i + 1) cd']) (show k + 1 ≤ _ by rw [putC_size hks]; omega) r
          rw [show (putL (putC cs k (.slice D i cd)).toList k [.slice D' (i + 1) cd']).toArray = putC cs k (.slice D' (i + 1) cd') from congrArg List.toArray (putL_again (by simpa using hks))] at hb
          exact hb
        conv => whnf
        refine ⟨trivial, ?_⟩
        conv => whnf
        refine ⟨trivial, ?_⟩
        conv => whnf
        refine ⟨⟨trivial, by unfold rng; simp only; omega⟩, Next.heap (i + 1, D', cd') (by simp only; omega) (by simp only; omega) ⟨⟨rfl, rfl⟩, trivial⟩ ⟨⟨rfl, rfl⟩, ⟨rfl, rfl⟩, ⟨rfl, rfl⟩, trivial⟩ trivial rfl rfl fun h s => ?_⟩
        obtain ⟨h', e, s'⟩ := sub_tail (sepL_pull 2 s)
        refine ⟨h', e, ?_⟩
        show sepL [rowH (.slice D' (i + 1) cd') (i + 1) 2 1 ((l.take (i + 1)).flatMap numL), blkH b tb (putC cs k (.slice D' (i + 1) cd')), rowH (.slice (some ⟨B, 0, none⟩) n n) n 9 1 (strV (l.map Lib.itoa)), lnH lb (ws ++ [listW l])] R h'
        rw [f3]
        exact sepL_perm (List.Perm.swap _ _ _) s'
      · refine ⟨trivial, OpAt.lit [.int .i64 z] 1 rfl rfl rfl rfl rfl (by decide) rfl rfl rfl (by simp [Value.cells]) rfl (by decide) fun g => ?_⟩
        conv => whnf
        refine ⟨trivial, ⟨⟨rfl, rfl⟩, fun h s => sub_nil s⟩, ?_⟩
        conv => whnf
        refine ⟨trivial, LoadAt.cell (.slice D i cd) rfl rfl (fun w hw => blk_cell (hw.in_ 2 rfl) (putC_get hks)) ?_⟩
        conv => whnf
        refine ⟨trivial, ⟨⟨rfl, rfl⟩, fun h s => sub_nil s⟩, ?_⟩
        conv => whnf
        refine ⟨trivial, OpAt.append (.slice D i cd) i 1 8 us [.int .i64 z] (some ⟨g, 0, none⟩) 1 1 _ rfl (fun h s => sepL_pull 1 s) rfl rfl rfl rfl rfl rfl rfl rfl rfl (by decide) (fun w hw => rowH_reads rfl (Sat.left hw)) (by simp [Value.oneCell']) (by simp only [maxLen]; omega) (by omega) fun D' cd' => ?_⟩
        conv => whnf
        refine ⟨trivial, ⟨⟨rfl, rfl⟩, fun h s => sub_nil s⟩, ?_⟩
        conv => whnf
        refine ⟨trivial, OpAt.store (A' := blkH b tb (putC cs k (.slice D' (i + 1) cd'))) b k (.slice D' (i + 1) cd') _ rfl (fun h s => sepL_pull 2 s) rfl rfl rfl rfl rfl (by simp [Value.cells, Value.oneCell']) (fun h r => ?_) ?_⟩
        · have hb := blk_put (off := k) (ys := [.slice D' (i + 1) cd']) (show k + 1 ≤ _ by rw [putC_size hks]; omega) r
          rw [show (putL (putC cs k (.slice D i cd)).toList k [.slice D' (i + 1) cd']).toArray = putC cs k (.slice D' (i + 1) cd') from congrArg List.toArray (putL_again (by simpa using hks))] at hb
          exact hb
        conv => whnf
        refine ⟨trivial, ?_⟩
        conv => whnf
        refine ⟨trivial, ?_⟩
        conv => whnf
        refine ⟨⟨trivial, by unfold rng; simp only; omega⟩, Next.heap (i + 1, D', cd') (by simp only; omega) (by simp only; omega) ⟨⟨rfl, rfl⟩, trivial⟩ ⟨⟨rfl, rfl⟩, ⟨rfl, rfl⟩, ⟨rfl, rfl⟩, trivial⟩ trivial rfl rfl fun h s => ?_⟩
        obtain ⟨h', e, s'⟩ := sub_tail (sepL_pull 2 s)
        refine ⟨h', e, ?_⟩
        show sepL [rowH (.slice D' (i + 1) cd') (i + 1) 2 1 ((l.take (i + 1)).flatMap numL), blkH b tb (putC cs k (.slice D' (i + 1) cd')), rowH (.slice (some ⟨B, 0, none⟩) n n) n 9 1 (strV (l.map Lib.itoa)), lnH lb (ws ++ [listW l])] R h'
        rw [f3]
        exact sepL_perm (List.Perm.swap _ _ _) s'
  · have hi3 : i = n := by simp at h; omega
    subst hi3
    conv => whnf
    refine ⟨trivial, .mk [lnH lb (ws ++ [listW l]), blkH b tb (putC cs k (.slice D i cd))] (fun w ⟨h, hs, s⟩ => ?_) ⟨rfl, _, rfl⟩⟩
    obtain ⟨h', e, s'⟩ := sub_front (m := [lnH lb (ws ++ [listW l]), blkH b tb (putC cs k (.slice D i cd))]) (sepL_perm ((List.Perm.swap _ _ _).cons _) (sepL_pull 3 s))
    exact ⟨h', hs.mono e, s'⟩
end Go.Proofs.YteplckkoiffnnaaGreatDoor

/-
  Symbolic runs: a slice literal of pointers to the call's own objects.
-/
namespace Go.Proofs.YteplckkoiffnnaaGreatDoor
open Go.RowKit
namespace Sy
set_option linter.unusedVariables false
set_option linter.unusedSimpArgs false

/-- an operation that comes to its end -/
def OpMk (G : Gl) (o : Oper) (st : St) (K : St → Prop) : Prop := ∀ ρ a w, Tm G st ρ a → Mem G st ρ w → o.wp G.P a w (fun a' w' => ∃ st' ρ', K st' ∧ Tm G st' ρ' a' ∧ Mem G st' ρ' w' ∧ Ext ρ ρ') fun _ _ _ => False
theorem OpMk.at {G : Gl} {o : Oper} {st : St} {K : St → Prop} (h : OpMk G o st K) : OpAt G o st K := .mk h
/-- ahead of it an object of the call's own comes to be a plain block -/
theorem OpMk.expose {G : Gl} {o : Oper} {st : St} {K : St → Prop} (n : Nat) (h : Sy.expose G st n False fun _ st' => OpMk G o st' K) : OpMk G o st K := fun ρ a w m mm => by
  rcases expose_sound h with h | ⟨t, vs, h, he⟩
  · exact h.elim
  · obtain ⟨b, e1, eb, m', mm'⟩ := he ρ a w m mm
    exact h b eb ρ a w m' mm'
theorem OpMk.sem {G : Gl} {o : Oper} {st : St} {K : St → Prop} {pre : List HP} {post : Value → List HP → Prop} (rest : List HP) (hp : ∀ h, sepL st.h G.R h → sepL (pre ++ rest) G.R h) (hsel : notSel o.op = true) (hr : allR st o.op.operands.toList = true)
    (hf : ∀ R', (∀ w, Sat R' w → Sat (sepL rest G.R) w) → SemR G.P R' (execOp (evR st) o) pre post) (k : ∀ v hs, post v hs → putK G { st with h := hs ++ rest } o.dst (.v v) none K) : OpMk G o st K := by
  intro ρ a w m mm
  obtain ⟨h, h1, h2, h3, h4⟩ := mem_split mm
  have h2 := hp h h2
  rw [sepL_append] at h2
  obtain ⟨v, hs, w', hrun, hv, ⟨g, g1, s⟩, hw⟩ := hf (plus (obj st ρ w) (sepL rest G.R)) (by
    rintro w' ⟨g, g1, ⟨g2, d, rfl, s⟩⟩
    exact ⟨g2, g1.right d, s⟩) w ⟨_, h4.un h1, plus_in h3 h2⟩
  have hc : execOp a.eval o = execOp (evR st) o := execOp_congr o (fun cs b => notSel_spec hsel cs b) fun x hx => allR_sound m hr x (by simpa using hx)
  have mm' : Mem G { st with h := hs ++ rest } ρ w' := by
    refine mem_join mm hw g1 ?_
    have := plus_out s
    rwa [sepL_append]
  obtain ⟨st', k', m', mm2⟩ := putK_go (k v hs hv) (ρ := ρ) (v := v) rfl (m.same rfl) mm'
  unfold Oper.wp
  rw [hc, hrun]
  exact ⟨st', ρ, k', m', mm2, Ext.refl _⟩

/-- a slice literal -/
theorem OpMk.lit {G : Gl} {o : Oper} {st : St} {K : St → Prop} {t e : TypeId} {len : Nat} {parts : Array (Nat × Operand)} {ie : TypeInfo} {z : Value} (vs : List Value) (size : Nat) (ho : o.op = .buildSlice t len parts) (hu : G.P.underlying t = some (.slice e)) (hie : G.P.info? e = some ie) (hz : ie.zero = some z)
    (hsz : ie.size = size) (hpos : 0 < size) (hd : dens 0 parts.toList = true) (hr : allR st o.op.operands.toList = true) (hvs : vs = parts.toList.map fun p => evR st p.2) (hcs : ∀ v ∈ vs, v.cells.size = size) (hl : len = vs.length) (hsm : len * size ≤ 16777216)
    (k : ∀ g, putK G { st with h := rowH (.slice (some ⟨g, 0, none⟩) len len) len e size (cellsOf vs) :: st.h } o.dst (.v (.slice (some ⟨g, 0, none⟩) len len)) none K) : OpMk G o st K := by
  refine OpMk.sem (pre := []) (post := fun v hs => ∃ g, v = .slice (some ⟨g, 0, none⟩) len len ∧ hs = [rowH (.slice (some ⟨g, 0, none⟩) len len) len e size (cellsOf vs)]) st.h (fun h s => s) (by rw [ho]; rfl) hr ?_ ?_
  · intro R' _ w s
    refine ⟨_, _, w.alloc (.cells (cellsOf vs).toArray e), ?_, ⟨w.heap.size, rfl, rfl⟩, ?_, .of_below ((Below.refl _ _).alloc (Nat.le_refl _) _)⟩
    · have hfill : Instr.fill (fun i => some (i * ie.size, ie.size)) ((Array.range (len * ie.size)).map (z.cells[· % z.cells.size]!)) (parts.map fun (i, x) => (i, evR st x)).toList = some (cellsOf vs).toArray := by
        rw [Array.toList_map, dens_eq hd, ← hvs, hsz]
        exact fill_all hpos vs _ hcs (by simp [hl])
      simp only [execOp, ho, Sem.run_bind]
      by_cases h0 : len = 0
      · have hv0 : vs = [] := List.eq_nil_of_length_eq_zero (by omega)
        have hp0 : parts.toList = [] := by
          rw [hv0] at hvs
          exact List.map_eq_nil_iff.1 hvs.symm
        have hp1 : (parts.map fun (i, x) => (i, evR st x)).toList = [] := by rw [Array.toList_map, hp0]; rfl
        subst h0 hv0
        simp [Instr.buildSlice, run_underlying hu, sizeOf, typeInfo, hie, newRow, newObj, hp0, Instr.fill, cellsOf]
        rw [show Array.map (fun _ => (default : Value)) (Array.range 0) = #[] from by apply Array.ext'; simp]
        rfl
      · rw [run_buildSlice w t e len _ (cellsOf vs).toArray ie z hu hie hz (by rw [hsz]; omega) (by rw [hsz]; exact Nat.mul_ne_zero h0 (by omega)) hfill]
        simp
    · refine sat_row s ((Below.refl _ _).alloc (Nat.le_refl _) _) ⟨?_, .inr ⟨_, len, (cellsOf vs).toArray, rfl, Nat.le_refl _, heap_alloc_new w _, Nat.le_refl _, by simp only [maxLen]; have : len ≤ len * size := Nat.le_mul_of_pos_right _ hpos; omega, ?_, ?_⟩⟩
      all_goals
        have hlen : (cellsOf vs).length = len * size := by rw [hl]; exact cellsOf_len hcs
      · exact hlen
      · simpa using hlen
      · simp only [List.toList_toArray]
        rw [List.take_of_length_le (by omega)]
  · rintro v hs ⟨g, rfl, rfl⟩
    exact k g

end Sy
end Go.Proofs.YteplckkoiffnnaaGreatDoor

/-
  script.Answer.
-/
namespace Go.Proofs.YteplckkoiffnnaaGreatDoor
open Go.RowKit
open Sy
set_option linter.unusedVariables false
set_option linter.unusedSimpArgs false
set_option maxRecDepth 100000
set_option maxHeartbeats 4000000

theorem FnR.openLn {P : Program} {R : HP} {f : FuncId} {args : List Value} {pre : List HP} {p : Value → List HP → Prop} {q : Value → List HP → Prop} {lb : Nat} {ws : List (List UInt8)} (h : FnR P R f args pre p) (hp : ∀ v hs, p v hs → ∃ rest, hs = lnH lb ws :: rest ∧ q v rest) :
    FnR P R f args pre fun r hs => ∃ A c rest, hs = lnP lb ws (A, c) ++ rest ∧ q r rest := by
  refine h.seen fun v hs hv w s => ?_
  obtain ⟨rest, rfl, hq⟩ := hp v hs hv
  obtain ⟨g, g1, s⟩ := s
  obtain ⟨⟨A, c⟩, s⟩ := boxH_open s
  exact ⟨_, ⟨A, c, rest, rfl, hq⟩, g, g1, s⟩
/-- a line of its own -/
theorem ln_new {R : HP} {lb : Nat} {A : Option Addr} {c : Nat} {ws : List (List UInt8)} {L : List HP} {h : Hl} (s : sepL (blkH lb 43 #[.slice A ws.length c, .bool false] :: rowH (.slice A ws.length c) ws.length 9 1 (strV ws) :: L) R h) : sepL (lnH lb ws :: L) R h :=
  boxH_shut (parts := lnP lb ws) (A, c) s
theorem sJoinR {R : HP} {A : Option Addr} {c : Nat} (d : UInt8) (ws : List (List UInt8)) (h : ∀ w, Sat R w → Sat (rowH (.slice A ws.length c) ws.length 9 1 (strV ws)) w) (h0 : ws ≠ []) (hl : (jn d ws).length ≤ 1000000000) (hN : ws.length ≤ 1000000000) : PureR Tryz.prog R 17 [.slice A ws.length c, .string (bs [d])] (.string (bs (jn d ws))) :=
  PureR.of_sat fun w s => sJoinC d ws rfl (row_capS (h w s)) (Sl.row fun w s => h w s) (List.length_pos_iff.2 h0) (by omega) (by omega)
/-- few enough -/
structure Rep.few (x : Rep) : Prop where
  cells : x.cells.length ≤ 500
  vals : x.vals.length ≤ 500
  parts : x.parts.length ≤ 500
  byts : x.byts.length ≤ 2000
  lines : x.lines.length ≤ 100
theorem ansW_ok {x : Rep} (ok : x.ok) (few : x.few) (kind : Int) : (ansW kind x).length ≤ 501 ∧ ∀ w ∈ ansW kind x, w.length ≤ 20000 := by
  have hn := itoa_len20 ok.n
  have hx := itoa_len20 ok.ax
  have hy := itoa_len20 ok.ay
  have hv := listW_len ok.vals
  have hc1 := few.cells
  have hv1 := few.vals
  have hb1 := few.byts
  have hh : (hexW x.byts).length ≤ 4001 := by
    unfold hexW
    split
    · simp
    · rw [hexT_len]; omega
  have hc : ∀ w ∈ x.cells.map celW, w.length ≤ 43 := fun w hw => by
    obtain ⟨c, hc, rfl⟩ := List.mem_map.1 hw
    have h1 := itoa_len20 (ok.cells c hc).1
    have h2 := itoa_len20 (ok.cells c hc).2
    simp [celW]; omega
  unfold ansW
  split
  · exact ⟨by simp, fun w hw => by simp at hw; subst hw; omega⟩
  split
  · exact ⟨by simp, fun w hw => by simp at hw; rcases hw with rfl | rfl | rfl <;> omega⟩
  split
  · split
    · exact ⟨by simp, fun w hw => by simp at hw; subst hw; decide⟩
    · exact ⟨by simp, fun w hw => by simp only [List.mem_cons, List.not_mem_nil, or_false] at hw; rcases hw with rfl | rfl | rfl <;> first | omega | decide⟩
  split
  · refine ⟨by simp; omega, fun w hw => ?_⟩
    rcases List.mem_cons.1 hw with rfl | hw
    · omega
    · have := hc w hw; omega
  split
  · exact ⟨by simp, fun w hw => by simp at hw; subst hw; omega⟩
  split
  · exact ⟨by simp; omega, fun w hw => by have := hc w hw; omega⟩
  split
  · exact ⟨by simp, fun w hw => by simp at hw; rcases hw with rfl | rfl | rfl <;> omega⟩
  split
  · exact ⟨by simp, fun w hw => by simp at hw; subst hw; omega⟩
  · exact ⟨by simp, fun w hw => by simp at hw⟩
theorem ansJ_len {x : Rep} (ok : x.ok) (few : x.few) (kind : Int) : (jn 32 (okT :: ansW kind x)).length ≤ 1000000000 := by
  obtain ⟨h1, h2⟩ := ansW_ok ok few kind
  have := jn_len (c := 32) (ws := okT :: ansW kind x) (m := 20000) fun w hw => by
    rcases List.mem_cons.1 hw with rfl | hw
    · decide
    · exact h2 w hw
  rw [List.length_cons] at this
  have h3 : ((ansW kind x).length + 1) * (20000 + 1) ≤ 502 * 20001 := Nat.mul_le_mul (by omega) (by omega)
  omega
theorem sNumbersO {R : HP} {lb b : Nat} {tb : TypeId} {cs : Array Value} {A : Option Addr} {m c : Nat} (hN : ∀ w, Sat R w → NumW w) (ws : List (List UInt8)) (ps : List (Nat × Int)) (hm : ps.length = m) (hm2 : m ≤ 100) (hw : ws.length ≤ 100000) (ha : Sl R A m 1 (ptrV b ps)) (hp : ∀ p ∈ ps, cs[p.1]? = some (.int .i64 p.2) ∧ I64 p.2) :
    FnR Tryz.prog R 12 [.pointer (some ⟨lb, 0, none⟩), .slice A m c] [lnH lb ws, blkH b tb cs] fun r hs => ∃ A c rest, hs = lnP lb (ws ++ itoas ps) (A, c) ++ rest ∧ r = .tuple #[] ∧ rest = [blkH b tb cs] :=
  FnR.openLn (sNumbers hN ws ps hm hm2 hw ha hp) (q := fun r rest => r = .tuple #[] ∧ rest = [blkH b tb cs]) fun v hs ⟨h1, h2⟩ => ⟨_, h2, h1, rfl⟩
theorem sAnswer1 {R : HP} {q : RepA} {x : Rep} (hN : ∀ w, Sat R w → NumW w) (kind : Int) (ok : x.ok) (few : x.few) (hc : x.code = 0) (hk : kind = 6 ∨ kind = 7 ∨ kind = 10 ∨ kind = 11 ∨ kind = 20 ∨ kind = 21 ∨ kind = 22) :
    FnR Tryz.prog R 7 [.int .i64 kind, repV q x] [] fun r hs => ∃ A c, r = .slice A (ans kind x).length c ∧ hs = [rowH (.slice A (ans kind x).length c) (ans kind x).length 9 1 (strV (ans kind x))] := by
  have hjl := ansJ_len ok few kind
  have hW : ansW kind x = [Lib.itoa x.n] := by unfold ansW; rw [if_pos hk]
  have hans : ans kind x = [jn 32 [okT, Lib.itoa x.n]] := by
    unfold ans
    rw [if_neg (by simp [hc]), hW]
    unfold ansM
    rw [if_neg (by omega), if_neg (by omega)]
  rw [hW] at hjl
  rw [hans]
  unfold repV
  rw [hc]
  clear hans hW
  rcases hk with rfl | rfl | rfl | rfl | rfl | rfl | rfl
  all_goals
    refine fn_of_run0 false Tryz.func7 rfl hmix rfl fun w0 => ?_
    conv => whnf
    repeat (first | (refine ⟨fun _ => ?_, fun h => absurd h (by decide)⟩; conv => whnf) | (refine ⟨fun h => absurd h (by decide), fun _ => ?_⟩; conv => whnf))
    refine ⟨trivial, OpAt.lit [.string (bs okT)] 1 rfl rfl rfl rfl rfl (by decide) rfl rfl rfl (by simp [Value.cells]) rfl (by decide) fun g => ?_⟩
    conv => whnf
    repeat (first | (refine ⟨fun _ => ?_, fun h => absurd h (by decide)⟩; conv => whnf) | (refine ⟨fun h => absurd h (by decide), fun _ => ?_⟩; conv => whnf))
    refine ⟨trivial, (OpMk.expose 0 ?_).at⟩
    conv => whnf
    intro rb _
    refine OpMk.lit (ptrV rb [(1, x.n)]) 1 rfl rfl rfl rfl rfl (by decide) rfl rfl rfl (by simp [Value.cells]) rfl (by decide) fun g2 => ?_
    conv => whnf
    intro lb _
    conv => whnf
    refine ⟨trivial, CallAt.fn (pre := [lnH lb [okT], blkH rb 31 _]) _ (fun h s => sepL_perm ((List.Perm.swap _ _ _).cons _) (ln_new (ws := [okT]) (sepL_perm (List.Perm.swap _ _ _) (sepL_pull 3 s)))) (fun R' hR' => sNumbersO (fun w s => hN w (Sat.rest (hR' w s))) [okT] [(1, x.n)] rfl (by decide) (by decide) (Sl.row fun w s => (hR' w s).in_ 0 rfl) (fun p hp => by simp at hp; subst hp; exact ⟨rfl, ok.n⟩)) ?_⟩
    rintro r hs ⟨A, c, rest, rfl, rfl, rfl⟩
    conv => whnf
    refine ⟨trivial, LoadAt.cell (.slice A [okT, Lib.itoa x.n].length c) rfl rfl (fun w hw => blk_cell (hw.in_ 0 rfl) rfl) ?_⟩
    conv => whnf
    refine ⟨trivial, CallAt.pure (fun R' hR' => sJoinR 32 [okT, Lib.itoa x.n] (fun w s => (hR' w s).in_ 1 rfl) (by simp) hjl (by simp)) ?_⟩
    conv => whnf
    refine ⟨trivial, OpAt.lit [.string (bs (jn 32 [okT, Lib.itoa x.n]))] 1 rfl rfl rfl rfl rfl (by decide) rfl rfl rfl (by simp [Value.cells]) rfl (by decide) fun g9 => ?_⟩
    conv => whnf
    refine ⟨trivial, OpAt.append (.slice (some ⟨g9, 0, none⟩) 1 1) 1 1 16 [.string (bs (jn 32 [okT, Lib.itoa x.n]))] [] none 0 0 _ rfl (fun h s => s) rfl rfl rfl rfl rfl rfl rfl rfl rfl (by decide) (fun w hw => Reads.empty) (by simp) (by decide) (by decide) fun A9 c9 => ?_⟩
    conv => whnf
    exact ⟨trivial, .mk [rowH (.slice A9 1 c9) 1 9 1 (strV [jn 32 [okT, Lib.itoa x.n]])] (fun w ⟨h, hs, s⟩ => by obtain ⟨h', e, s2⟩ := sub_head s; exact ⟨h', hs.mono e, s2⟩) ⟨A9, c9, rfl, rfl⟩⟩
end Go.Proofs.YteplckkoiffnnaaGreatDoor

/-
  The same lines; long lines.
-/
namespace Go.Proofs.YteplckkoiffnnaaGreatDoor
open Go.RowKit
open Sy
set_option linter.unusedVariables false
set_option linter.unusedSimpArgs false
set_option maxRecDepth 100000
set_option maxHeartbeats 4000000

theorem sSameS {R : HP} {A B : Option Addr} {n c c' : Nat} (l : List (List UInt8)) (hl : l.length = n) (hn : n ≤ 1000000) (ha : Sl R A n 1 (l.map fun z => .string (bs z))) (hb : Sl R B n 1 (l.map fun z => .string (bs z))) : PureR Tryz.prog R 6 [.slice A n c, .slice B n c'] (.bool true) := by
  refine PureR.of_sat fun wS hS => ?_
  obtain ⟨_, sa⟩ := ha.spot (by omega) hS
  obtain ⟨_, sb⟩ := hb.spot (by omega) hS
  refine fn_of_run0 false Tryz.func6 rfl hmix rfl fun w0 => ?_
  conv => whnf
  refine iff_f (by simp) ?_
  conv => whnf
  refine ⟨trivial, LoopAt.keep (α := Nat) [0, 1] (fun i => [(5, .v (.int .i64 (i : Int)))]) (fun i => i ≤ n) (fun i => n - i) 0 (Nat.zero_le _) rfl ⟨⟨rfl, rfl⟩, trivial⟩ ⟨⟨rfl, rfl⟩, ⟨rfl, rfl⟩, trivial⟩ trivial ?_⟩
  intro i hi
  conv => whnf
  refine ⟨fun h => ?_, fun h => ?_⟩
  · have hi2 : i < n := by simpa using h
    rcases sa with sa | ⟨b, off, rfl, sa⟩
    · omega
    rcases sb with sb | ⟨b', off', rfl, sb⟩
    · omega
    have f1 : (l.map fun z => Value.string (bs z))[i]? = some (.string (bs (l[i]'(by omega)))) := by simp [hl, hi2]
    generalize l[i]'(by omega) = z at f1
    conv => whnf
    refine ⟨trivial, RegAt.quiet hmix (by kernel_rfl) ?_⟩
    conv => whnf
    refine ⟨⟨trivial, by omega⟩, LoadAt.cell (.string (bs z)) rfl rfl (fun w hw => ?_) ?_⟩
    · simp only [Int.toNat_natCast, Nat.mul_one]
      exact sa w (sat_base hw) _ _ f1
    conv => whnf
    refine ⟨⟨trivial, by omega⟩, LoadAt.cell (.string (bs z)) rfl rfl (fun w hw => ?_) ?_⟩
    · simp only [Int.toNat_natCast, Nat.mul_one]
      exact sb w (sat_base hw) _ _ f1
    refine ⟨trivial, ?_⟩
    conv => whnf
    refine iff_f (by simp) ?_
    conv => whnf
    refine ⟨(by (repeat' apply And.intro) <;> first | exact True.intro | (unfold rng; omega) | omega), .mk (i + 1) (by omega) (by omega) (Le.of (Nat.le_of_ble_eq_true rfl) (Nat.zero_le _) ⟨⟨rfl, rfl⟩, ⟨rfl, rfl⟩, ⟨rfl, rfl⟩, trivial⟩ trivial fun h s => sub_same s)⟩
  · conv => whnf
    exact ⟨trivial, fin_drop rfl⟩
theorem sLong {R : HP} {A : Option Addr} {n c : Nat} (l : List (List UInt8)) (hl : l.length = n) (hm : n ≤ 9223372036854775807) (ha : Sl R A n 1 (strV l)) : FnR Tryz.prog R 5 [.slice A n c, .int .i64 400] [] fun r hs => ∃ b, r = .bool b ∧ (b = false → n ≤ 100) ∧ hs = [] := by
  refine FnR.of_sat fun wS hS => ?_
  obtain ⟨_, sa⟩ := ha.spot (by omega) (sat_base hS)
  refine fn_of_run0 false Tryz.func5 rfl hmix rfl fun w0 => ?_
  conv => whnf
  refine ⟨fun h => ?_, fun h => ?_⟩
  · conv => whnf
    exact ⟨trivial, .mk [] (fun w s => s) ⟨true, rfl, (fun h => by cases h), rfl⟩⟩
  have h100 : n ≤ 100 := by have := of_decide_eq_false h; omega
  conv => whnf
  refine ⟨trivial, LoopAt.keep (α := Nat) [0, 1] (fun i => [(5, .v (.int .i64 (i : Int)))]) (fun i => i ≤ n) (fun i => n - i) 0 (Nat.zero_le _) rfl ⟨⟨rfl, rfl⟩, trivial⟩ ⟨⟨rfl, rfl⟩, ⟨rfl, rfl⟩, trivial⟩ trivial ?_⟩
  intro i hi
  conv => whnf
  refine ⟨fun h2 => ?_, fun h2 => ?_⟩
  · have hi2 : i < n := by simpa using h2
    rcases sa with sa | ⟨b, off, rfl, sa⟩
    · omega
    have hil : i < l.length := by omega
    have f1 : (strV l)[i]? = some (.string (bs l[i])) := by simp [hil]
    generalize l[i] = z at *
    conv => whnf
    refine ⟨⟨trivial, by omega⟩, LoadAt.cell (.string (bs z)) rfl rfl (fun w hw => ?_) ?_⟩
    · simp only [Int.toNat_natCast, Nat.mul_one]
      exact sa w (sat_base hw) _ _ f1
    conv => whnf
    refine ⟨fun h3 => ?_, fun h3 => ?_⟩
    · conv => whnf
      exact ⟨trivial, .mk [] (fun w s => s) ⟨true, rfl, (fun h => by cases h), rfl⟩⟩
    conv => whnf
    refine ⟨(by (repeat' apply And.intro) <;> first | exact True.intro | (unfold rng; omega) | omega), .mk (i + 1) (by omega) (by omega) (Le.of (Nat.le_of_ble_eq_true rfl) (Nat.zero_le _) ⟨⟨rfl, rfl⟩, ⟨rfl, rfl⟩, ⟨rfl, rfl⟩, trivial⟩ trivial fun h s => sub_same s)⟩
  · conv => whnf
    exact ⟨trivial, .mk [] (fun w s => s) ⟨false, rfl, fun _ => h100, rfl⟩⟩
end Go.Proofs.YteplckkoiffnnaaGreatDoor

/-
  Closed runs in the scripts' program: the law's awake says true.
-/
namespace Go.Proofs.YteplckkoiffnnaaGreatDoor
open Go.RowKit
namespace Cx
set_option linter.unusedVariables false
set_option linter.unusedSimpArgs false
set_option maxRecDepth 100000
set_option maxHeartbeats 4000000

noncomputable def orcS : Callee := orAt 69 (orVal valDig) (orAt 70 (orVal valInt) (orAt 34 orSplit (orAt 17 orJoin orNone)))
theorem orcS_ok : CallOK Tryz.prog orcS := orAt_ok dig_ok (orAt_ok int_ok (orAt_ok split_ok (orAt_ok join_ok orNone_ok)))
def verbsV : List Value := [.string ⟨⟨[]⟩⟩, .string ⟨⟨[99, 114, 101, 97, 116, 101]⟩⟩, .string ⟨⟨[115, 101, 116]⟩⟩, .string ⟨⟨[102, 105, 108, 108]⟩⟩, .string ⟨⟨[112, 97, 115, 116, 101]⟩⟩, .string ⟨⟨[97, 100, 100]⟩⟩, .string ⟨⟨[103, 101, 116]⟩⟩, .string ⟨⟨[115, 117, 109]⟩⟩, .string ⟨⟨[109, 105, 110]⟩⟩, .string ⟨⟨[109, 97, 120]⟩⟩, .string ⟨⟨[111, 118, 101, 114]⟩⟩, .string ⟨⟨[114, 97, 110, 107]⟩⟩, .string ⟨⟨[115, 105, 103, 104, 116]⟩⟩, .string ⟨⟨[118, 105, 101, 119]⟩⟩, .string ⟨⟨[114, 101, 103, 105, 111, 110, 115]⟩⟩, .string ⟨⟨[115, 105, 110, 107]⟩⟩, .string ⟨⟨[114, 111, 117, 116, 101]⟩⟩, .string ⟨⟨[108, 101, 118, 101, 108]⟩⟩, .string ⟨⟨[102, 114, 101, 101, 122, 101]⟩⟩, .string ⟨⟨[116, 104, 97, 119]⟩⟩, .string ⟨⟨[111, 108, 100, 115, 117, 109]⟩⟩, .string ⟨⟨[111, 108, 100, 109, 105, 110]⟩⟩, .string ⟨⟨[111, 108, 100, 109, 97, 120]⟩⟩, .string ⟨⟨[115, 97, 118, 101]⟩⟩, .string ⟨⟨[108, 111, 97, 100]⟩⟩, .string ⟨⟨[117, 110, 100, 111]⟩⟩, .string ⟨⟨[114, 101, 100, 111]⟩⟩, .string ⟨⟨[100, 114, 97, 119]⟩⟩]
def tabS : List (Nat × Ob) := [(0, ⟨133, 0, verbsV⟩)]
def maxS (m : Int) : Nat × Ob := (2, ⟨3, 0, [.int .i64 m]⟩)
theorem awake_runs (m : Int) : saysM Tryz.prog 100000 orcS (maxS m) tabS 80 4 [] (.bool true) = (true, some (maxS m).2) := by kernel_rfl
theorem tabS_small (m : Int) : smallT (maxS m :: tabS) = true := by kernel_rfl
end Cx
end Go.Proofs.YteplckkoiffnnaaGreatDoor

