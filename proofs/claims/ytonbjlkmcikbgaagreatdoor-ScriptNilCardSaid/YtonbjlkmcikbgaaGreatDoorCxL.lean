/-
  Closed runs: a region that draws its order: each operation that may come up next.
-/
import Derived.Test.YtonbjlkmcikbgaaGreatDoorCxK
namespace Go.Proofs.YtonbjlkmcikbgaaGreatDoor
open Go.RowKit
namespace Cx
set_option linter.unusedVariables false
set_option linter.unusedSimpArgs false

theorem least_of {R : Nat → Prop} {a : Nat} : ∀ (n : Nat), (∃ p, a ≤ p ∧ p < a + n ∧ R p) → ∃ p, a ≤ p ∧ p < a + n ∧ R p ∧ ∀ x, a ≤ x → x < p → ¬ R x
  | 0, ⟨p, h1, h2, _⟩ => by omega
  | n + 1, ⟨p, h1, h2, h3⟩ => by
    by_cases c : ∃ p, a ≤ p ∧ p < a + n ∧ R p
    · obtain ⟨x, x1, x2, x3, x4⟩ := least_of n c
      exact ⟨x, x1, by omega, x3, x4⟩
    · refine ⟨p, h1, h2, h3, fun x hx hxp hr => c ⟨x, hx, by omega, hr⟩⟩
theorem greatest_of {R : Nat → Prop} {b : Nat} : ∀ (n : Nat), (∃ p, b ≤ p + n ∧ p < b ∧ R p) → ∃ p, b ≤ p + n ∧ p < b ∧ R p ∧ ∀ x, p < x → x < b → ¬ R x
  | 0, ⟨p, h1, h2, _⟩ => by omega
  | n + 1, ⟨p, h1, h2, h3⟩ => by
    by_cases c : ∃ p, b ≤ p + n ∧ p < b ∧ R p
    · obtain ⟨x, x1, x2, x3, x4⟩ := greatest_of n c
      exact ⟨x, by omega, x2, x3, x4⟩
    · exact ⟨p, h1, h2, h3, fun x hx hxp hr => c ⟨x, by omega, hxp, hr⟩⟩
theorem ldV_op {P : Program} {t : Tm} {h : Hp} {c : Nat} {o : Oper} {v : Value} (e : ldV P t h o = some v) : opV P t h c o = some (.val v h c) := by
  unfold ldV at e
  split at e
  · rename_i te x ho
    simp only [bd_some] at e
    obtain ⟨ad, h1, ob, h2, h3⟩ := e
    show disp o.op P t h c o = _
    rw [ho]
    show opLoad P t h c te x = _
    simp [opLoad, h1, h2, h3, bd_mk]
  · cases e
theorem newV_lf {c : Nat} {b : Ob} {q : Hp × Nat} (e : newV .lf c b = some q) (n : Nat) : q.1.get n = if n = c then some b else none := by
  obtain ⟨hc, rfl⟩ := newV_some e
  rw [Tr.put _ _ _ hc]
  rfl
/-- a new object alone -/
theorem single {P : Program} {t : Tm} {c : Nat} {o : Oper} {v : Value} {h1 : Hp} {c2 : Nat} (hk : kindOp o.op = .N) (e : opV P t .lf c o = some (.val v h1 c2)) : ∃ b, ∀ n, h1.get n = if n = c then some b else none := by
  have e : disp o.op P t .lf c o = some (.val v h1 c2) := e
  cases ho : o.op with
  | alloc te =>
    rw [ho] at e
    have e : opAlloc P t .lf c te = some (.val v h1 c2) := e
    simp only [opAlloc, bd_some, Option.some.injEq, OR.val.injEq] at e
    obtain ⟨z, _, q, hq, _, rfl, _⟩ := e
    exact ⟨_, newV_lf hq⟩
  | box te x =>
    rw [ho] at e
    have e : opBox t .lf c te x = some (.val v h1 c2) := e
    simp only [opBox, bd_some, Option.some.injEq, OR.val.injEq] at e
    obtain ⟨z, _, q, hq, _, rfl, _⟩ := e
    exact ⟨_, newV_lf hq⟩
  | buildSlice te n ps =>
    rw [ho] at e
    have e : opLit P t .lf c te n ps.toList = some (.val v h1 c2) := e
    simp only [opLit, bd_some, gd_some, forceL_eq, Option.some.injEq, OR.val.injEq] at e
    obtain ⟨_, _, _, _, _, _, _, _, _, _, _, q, hq, _, rfl, _⟩ := e
    exact ⟨_, newV_lf hq⟩
  | makeSlice te x y =>
    rw [ho] at e
    have e : opMake P t .lf c te x y = some (.val v h1 c2) := e
    simp only [opMake, bd_some, gd_some, forceL_eq, Option.some.injEq, OR.val.injEq] at e
    obtain ⟨_, _, _, _, _, _, _, _, _, _, _, q, hq, _, rfl, _⟩ := e
    exact ⟨_, newV_lf hq⟩
  | call k =>
    rw [ho] at hk
    simp only [kindOp] at hk
    split at hk
    · split at hk <;> cases hk
    · cases hk
  | _ => rw [ho] at hk; cases hk
section
variable {P : Program} {call : Callee} {all : List Oper} {N : Nat} {ms : List Nat} {rs : List Rc} {t0 : Tm} {h0 : Hp} {c0 : Nat} {tF : Tm} {hF : Hp} {cF : Nat} {pF : Pend}
variable {ρ0 ρ : Rn} {w0 w : World} {a0 a : Act} {q : Nat} {ls : Array Bool}
theorem pfl_same {i : Nat} {r : Rc} (hr : rs[i]? = some r) (hk : r.kd ≠ .N) (q : Nat) (x : Nat × Nat × Ob) : x ∈ pfl ms rs (ls.setIfInBounds i true) q ↔ x ∈ pfl ms rs ls q := by
  rw [pfl_mem, pfl_mem]
  by_cases hx : x.1 = i
  · have : ¬ IsN rs x := fun ⟨r', h1, h2, _⟩ => by
      rw [hx, hr] at h1
      injection h1 with h1
      subst h1
      exact hk h2
    exact ⟨fun h => absurd h.1 this, fun h => absurd h.1 this⟩
  · rw [getD_set_ne (Ne.symm hx)]
/-- what the next one runs on, beside what it does not see -/
theorem HD_split (X : Cxt P call N all ms rs t0 h0 c0 tF hF cF pF) (ls : Array Bool) (q : Nat) : HD ms rs hF ls q = ov (ovL (pfl ms rs ls q) fun _ => none) (stg rs hF q).get := by
  funext n
  unfold HD ov
  rcases ovL_cases (stg rs hF q).get (X.pflInj ls q) n with ⟨x, hx, rfl, e⟩ | ⟨hn, e⟩
  · rw [e, ovL_in (X.pflInj ls q) hx]
  · rw [e, ovL_out hn]
theorem lf_none (h : HF) : ov h (Tr.get (Tr.lf : Hp)) = h := by
  funext n
  unfold ov
  cases h n <;> rfl
/-- the stage at which a load may come up shows it the same -/
theorem DI.load (X : Cxt P call N all ms rs t0 h0 c0 tF hF cF pF) (I : DI all ms rs hF N ρ0 h0 c0 w0 cF a0 ρ q ls a w) {i : Nat} {o : Oper} {r : Rc} {m : Nat} (ho : all[i]? = some o) (hr : rs[i]? = some r) (hm : ms[i]? = some m)
    (hi : ls.getD i false = false) (hp : ∀ p ∈ preds o, ls.getD p false = true) (hk : r.kd = .L) (hv : ldV P r.t r.s o = some r.v) : ldV P r.t (stg rs hF q) o = some r.v := by
  have hlen := X.T.len
  have hin : i < all.length := (List.getElem?_eq_some_iff.1 ho).1
  have stp : ∀ (p : Nat) (rp : Rc), rs[p]? = some rp → stg rs hF p = rp.s := fun p rp h => by unfold stg; rw [h]
  let R := fun (p : Nat) => ∃ rp : Rc, rs[p]? = some rp ∧ isHk rp.kd = true
  have unord : ∀ (p : Nat) (rp : Rc), rs[p]? = some rp → isHk rp.kd = true → ∃ mp : Nat, ms[p]? = some mp ∧ ((p < i → ls.getD p false = false → Nat.testBit m p = false ∧ Nat.testBit mp i = false) ∧ (i < p → ls.getD p false = true → Nat.testBit m p = false ∧ Nat.testBit mp i = false)) := by
    intro p rp hrp hkp
    have hpl : p < all.length := by have := (List.getElem?_eq_some_iff.1 hrp).1; omega
    obtain ⟨mp, hmp⟩ := X.M.get p _ (List.getElem?_eq_getElem hpl)
    refine ⟨mp, hmp, fun h1 h2 => ⟨?_, ?_⟩, fun h1 h2 => ⟨?_, ?_⟩⟩
    · cases hb : Nat.testBit m p with
      | false => rfl
      | true => rw [anc_done X.M I.closed i o m ho hm hp p hb] at h2; cases h2
    · cases hb : Nat.testBit mp i with
      | false => rfl
      | true => have := bit_lt X.M p mp hmp i hb; omega
    · cases hb : Nat.testBit m p with
      | false => rfl
      | true => have := bit_lt X.M i m hm p hb; omega
    · cases hb : Nat.testBit mp i with
      | false => rfl
      | true => rw [anc_done' X.M I.closed (List.getElem?_eq_getElem hpl) hmp h2 hb] at hi; cases hi
  rcases Nat.le_total q i with hqi | hqi
  · by_cases c : ∃ p, q ≤ p ∧ p < q + (i - q) ∧ R p
    · obtain ⟨p, p1, p2, ⟨rp, hrp, hkp⟩, hno⟩ := least_of (i - q) c
      have hpi : p < i := by omega
      have := (X.front p1 (by omega) fun x rx hx hkx x1 x2 => hno x x1 x2 ⟨rx, hx, hkx⟩).1
      rw [this, stp p rp hrp]
      obtain ⟨mp, hmp, h1, _⟩ := unord p rp hrp hkp
      obtain ⟨b1, b2⟩ := h1 hpi (I.fr2 p rp hrp hkp p1)
      exact (X.fl i p o r rp m mp ho hr hk hrp hkp hm hmp b1 b2).1 hpi
    · have := (X.front hqi (by omega) fun x rx hx hkx x1 x2 => c ⟨x, x1, by omega, rx, hx, hkx⟩).1
      rw [this, stp i r hr]
      exact hv
  · by_cases c : ∃ p, q ≤ p + (q - i) ∧ p < q ∧ R p
    · obtain ⟨p, p1, p2, ⟨rp, hrp, hkp⟩, hno⟩ := greatest_of (q - i) c
      have hpi : i < p := by
        rcases Nat.lt_or_ge i p with h | h
        · exact h
        · have : p = i := by omega
          subst this
          rw [hr] at hrp
          injection hrp with hrp
          subst hrp
          rw [hk] at hkp
          cases hkp
      have := (X.front (q := p + 1) (q' := q) (by omega) I.qn fun x rx hx hkx x1 x2 => hno x (by omega) x2 ⟨rx, hx, hkx⟩).1
      rw [← this, (X.T.next p rp hrp).1]
      have : rp.next = rp.h' := by rw [Rc.next_eq, hkp]
      rw [this]
      obtain ⟨mp, hmp, _, h1⟩ := unord p rp hrp hkp
      obtain ⟨b1, b2⟩ := h1 hpi (I.fr1 p rp hrp hkp p2)
      exact (X.fl i p o r rp m mp ho hr hk hrp hkp hm hmp b1 b2).2 hpi
    · have := (X.front hqi I.qn fun x rx hx hkx x1 x2 => c ⟨x, by omega, x2, rx, hx, hkx⟩).1
      rw [← this, stp i r hr]
      exact hv
theorem lay_lf {ρ : Rn} {w : World} : Lay ρ .lf w := ⟨(fun n o e => by cases e), fun n m o o' x y e => by cases e⟩
theorem upon_val {o : Oper} {a : Act} {w w' : World} {n : Next} {u : Value} {K : Act → World → Prop} {Q : Exit → Act → World → Prop} (hrun : (execOp a.eval o).run P w = .ok n w') (hn : n = .value u ∨ (n = .skip ∧ u = undef)) (k : K (a.put o.dst u) w') : o.wp P a w K Q := by
  unfold Oper.wp
  rw [hrun]
  rcases hn with rfl | ⟨rfl, rfl⟩
  · exact k
  · exact k
/-- whatever comes up next -/
theorem DI.step (X : Cxt P call N all ms rs t0 h0 c0 tF hF cF pF) (I : DI all ms rs hF N ρ0 h0 c0 w0 cF a0 ρ q ls a w) (tm0 : TmOK N t0 ρ0 a0) (g0 : GOK ρ0) {i : Nat} (hrd : i ∈ Region.ready .any all.toArray ls) (Q : Exit → Act → World → Prop) :
    wpOp P all.toArray Q i (fun a' w' => ∃ ρ' q', DI all ms rs hF N ρ0 h0 c0 w0 cF a0 ρ' q' (ls.setIfInBounds i true) a' w') a w := by
  obtain ⟨hun, o, ho, hp⟩ := mem_ready hrd
  obtain ⟨hi, hsz⟩ := getD_both hun
  have hin : i < all.length := (List.getElem?_eq_some_iff.1 ho).1
  obtain ⟨r, hr⟩ : ∃ r, rs[i]? = some r := ⟨rs[i]'(by rw [X.T.len]; exact hin), List.getElem?_eq_getElem (by rw [X.T.len]; exact hin)⟩
  obtain ⟨o', m, pk, pk', ho', hm, T', ok⟩ := X.T.sub i r hr
  rw [ho] at ho'
  injection ho' with ho'
  subst ho'
  have rd : ∀ s ∈ reads all o, ∀ v, r.t.get s = some v → s < N ∧ Den ρ v (a.tmps.getD s undef) := fun s hs v hv => I.ev X tm0 ho hr hm hi hp hs hv
  have ev : EvOK ρ r.t a.eval o.op.operands.toList := fun x hx v hv => ev_sound (g0.le I.ran.le) hv fun k hk hg => (rd k (reads_slots (hk ▸ hx)) v hg).2
  have wn : ∀ {b}, want all r.t o = some b → Region.wanted o (yielded all.toArray a.tmps) = b := fun h => want_sound h I.tsz rd
  have ho2 : all.toArray[i]? = some o := by simpa using ho
  have fri := I.fre i r hr hi
  -- those that turn no memory
  have same : isHk r.kd = false → ∀ {ρ' : Rn} {w' : World} {u : Value}, RanF ρ (HD ms rs hF ls q) r.c w ρ' (HD ms rs hF (ls.setIfInBounds i true) q) r.c' w' → (∀ x ∈ pfl ms rs (ls.setIfInBounds i true) q, (stg rs hF q).get x.2.1 = none) → Den ρ' r.v u →
      DI all ms rs hF N ρ0 h0 c0 w0 cF a0 ρ' q (ls.setIfInBounds i true) (a.put o.dst u) w' := fun hk {ρ' w' u} rn dj hu => by
    have ne : ∀ (p : Nat) (rp : Rc), rs[p]? = some rp → isHk rp.kd = true → i ≠ p := fun p rp h1 h2 e => by
      subst e
      rw [hr] at h1
      injection h1 with h1
      subst h1
      rw [hk] at h2; cases h2
    exact I.done X ho hr hm hun hp I.qn (fun p rp h1 h2 h3 => by rw [getD_set_ne (ne p rp h1 h2)]; exact I.fr1 p rp h1 h2 h3) (fun p rp h1 h2 h3 => by rw [getD_set_ne (ne p rp h1 h2)]; exact I.fr2 p rp h1 h2 h3) rn dj hu
  have hHD : r.kd ≠ .N → HD ms rs hF (ls.setIfInBounds i true) q = HD ms rs hF ls q := fun hk => by
    unfold HD
    exact ovL_ext (X.pflInj _ _) (X.pflInj _ _) (pfl_same hr hk q)
  have hdj : r.kd ≠ .N → ∀ x ∈ pfl ms rs (ls.setIfInBounds i true) q, (stg rs hF q).get x.2.1 = none := fun hk x hx => I.dj x ((pfl_same hr hk q x).1 hx)
  unfold wpOp
  simp only [ho2]
  cases hkd : r.kd with
  | skip =>
    obtain ⟨h1, h2, h3, _⟩ := ok.skip hkd
    rw [wn h1]
    refine ⟨ρ, q, ?_⟩
    refine same (by rw [hkd]; rfl) ?_ (hdj (by rw [hkd]; simp)) (by rw [h2]; exact .flat rfl)
    rw [hHD (by rw [hkd]; simp), h3]
    exact .refl I.ran.lay
  | T =>
    obtain ⟨h1, h2, h3, _⟩ := ok.T hkd
    rw [wn h1]
    left
    obtain ⟨n, u, w', ρ', e1, e2, e3, e4⟩ := (opV_sound h2).2 ρ w a.eval ev lay_lf (fun n n1 n2 => by omega)
    refine upon_val e1 e2 ⟨ρ', q, same (by rw [hkd]; rfl) ?_ (hdj (by rw [hkd]; simp)) e3⟩
    rw [hHD (by rw [hkd]; simp), h3]
    have b := RanF.beside (r := HD ms rs hF ls q) e4 (by rw [lf_none]; exact I.ran.lay) (fun n => .inr rfl)
    rw [lf_none] at b
    exact b
  | L =>
    obtain ⟨h1, h2, h3, _⟩ := ok.L hkd
    rw [wn h1]
    left
    have hv := I.load X ho hr hm hi hp hkd h2
    have lay : Lay ρ (stg rs hF q) w := by
      have := I.ran.lay
      rw [HD_split X] at this
      refine ⟨fun n ob e => ?_, fun n m ob ob' x y e1 e2 => ?_⟩
      · refine this.ob n ob ?_
        have : ovL (pfl ms rs ls q) (fun _ => none) n = none := by
          rw [ovL_out fun x hx e' => ?_]
          have := I.dj x hx
          rw [e', e] at this; cases this
        rw [ov_r this]; exact e
      · have f : ∀ {k ob}, (stg rs hF q).get k = some ob → ov (ovL (pfl ms rs ls q) fun _ => none) (stg rs hF q).get k = some ob := fun {k ob} e => by
          have : ovL (pfl ms rs ls q) (fun _ => none) k = none := by
            rw [ovL_out fun x hx e' => ?_]
            have := I.dj x hx
            rw [e', e] at this; cases this
          rw [ov_r this]; exact e
        exact this.inj n m ob ob' x y (f e1) (f e2)
    obtain ⟨n, u, w', ρ', e1, e2, e3, e4⟩ := (opV_sound (ldV_op (c := r.c) hv)).2 ρ w a.eval ev lay (fun n n1 n2 => by omega)
    refine upon_val e1 e2 ⟨ρ', q, same (by rw [hkd]; rfl) ?_ (hdj (by rw [hkd]; simp)) e3⟩
    rw [hHD (by rw [hkd]; simp), h3, HD_split X]
    refine RanF.beside e4 (by rw [← HD_split X]; exact I.ran.lay) fun n => ?_
    rcases ovL_cases (fun _ => none) (X.pflInj ls q) n with ⟨x, hx, rfl, _⟩ | ⟨_, e⟩
    · exact .inr (I.dj x hx)
    · exact .inl e
  | N =>
    obtain ⟨h1, hkind, h2, h3, ob, hob, _⟩ := ok.N hkd
    rw [wn h1]
    left
    obtain ⟨n, u, w', ρ', e1, e2, e3, e4⟩ := (opV_sound h2).2 ρ w a.eval ev lay_lf (by rw [← h3]; exact fri)
    obtain ⟨b, hb⟩ := single hkind h2
    have hbo : b = ob := by
      have := hb r.c
      rw [if_pos rfl, hob] at this
      injection this with this
      exact this.symm
    subst hbo
    have isn : IsN rs (i, r.c, b) := ⟨r, hr, hkd, rfl, hob⟩
    -- the name is free as yet
    have free : HD ms rs hF ls q r.c = none := by
      cases e : HD ms rs hF ls q r.c with
      | none => rfl
      | some ob' =>
        obtain ⟨x, us, f1, _⟩ := I.ran.lay.ob _ _ e
        rw [fri r.c (Nat.le_refl _) (by omega)] at f1
        cases f1
    have hst : (stg rs hF q).get r.c = none := by
      unfold HD at free
      rcases ovL_cases (stg rs hF q).get (X.pflInj ls q) r.c with ⟨x, hx, _, e⟩ | ⟨_, e⟩
      · rw [e] at free; cases free
      · rw [e] at free; exact free
    have mem : ∀ x, x ∈ pfl ms rs (ls.setIfInBounds i true) q ↔ x = (i, r.c, b) ∨ x ∈ pfl ms rs ls q := fun x => by
      rw [pfl_mem, pfl_mem]
      by_cases hx : x.1 = i
      · constructor
        · rintro ⟨⟨r', g1, g2, g3, g4⟩, _⟩
          left
          rw [hx, hr] at g1
          injection g1 with g1
          subst g1
          obtain ⟨x1, x2, x3⟩ := x
          simp only at hx g3 g4
          rw [hob] at g4
          injection g4 with g4
          rw [hx, g3, g4]
        · rintro (rfl | ⟨_, h, _⟩)
          · refine ⟨isn, getD_set_self hsz _, fun p rp mp g1 g2 g3 g4 => ?_⟩
            cases hbt : Nat.testBit mp i with
            | false => rfl
            | true =>
              have hpl : p < all.length := by have := (List.getElem?_eq_some_iff.1 g1).1; rw [X.T.len] at this; exact this
              have := anc_done' X.M I.closed (List.getElem?_eq_getElem hpl) g4 (I.fr1 p rp g1 g2 g3) hbt
              rw [hi] at this
              cases this
          · rw [hx, hi] at h; cases h
      · rw [getD_set_ne (Ne.symm hx)]
        constructor
        · exact fun h => .inr h
        · rintro (rfl | h)
          · exact absurd rfl hx
          · exact h
    refine upon_val e1 e2 ⟨ρ', q, same (by rw [hkd]; rfl) ?_ (fun x hx => ?_) e3⟩
    · have bs := RanF.beside (r := HD ms rs hF ls q) e4 (by rw [lf_none]; exact I.ran.lay) (fun n => .inr rfl)
      rw [h3]
      refine bs.congr (lf_none _) ?_
      funext n
      by_cases hn : n = r.c
      · subst hn
        rw [ov_r free, hb, if_pos rfl]
        unfold HD
        rw [← ovL_in (h := (stg rs hF q).get) (X.pflInj _ _) ((mem (i, r.c, b)).2 (.inl rfl))]
      · have e0 : ov (HD ms rs hF ls q) r.h'.get n = HD ms rs hF ls q n := by
          unfold ov
          cases HD ms rs hF ls q n with
          | some _ => rfl
          | none => simp only; rw [hb, if_neg hn]
        rw [e0]
        unfold HD
        rcases ovL_cases (stg rs hF q).get (X.pflInj ls q) n with ⟨x, hx, rfl, e⟩ | ⟨hno, e⟩
        · rw [e, ← ovL_in (h := (stg rs hF q).get) (X.pflInj _ _) ((mem x).2 (.inr hx))]
        · rw [e, ovL_out]
          intro x hx
          rcases (mem x).1 hx with rfl | hx
          · exact fun e => hn e.symm
          · exact hno x hx
    · rcases (mem x).1 hx with rfl | hx
      · exact hst
      · exact I.dj x hx
  | H =>
    obtain ⟨h1, hH, hpk, hget, hcase⟩ := ok.H hkd
    rw [wn h1]
    left
    have hop : ∀ (p : Nat) (rp : Rc) (op : Oper), rs[p]? = some rp → isHk rp.kd = true → all[p]? = some op → isH op = true := fun p rp op g1 g2 g3 => by
      obtain ⟨op', m', pk2, pk2', ho', hm', T'', ok'⟩ := X.T.sub p rp g1
      rw [g3] at ho'
      injection ho' with ho'
      subst ho'
      exact (ok'.H (isHk_of g2)).2.1
    have I := I.move X (q' := i) (by omega) (fun p rp g1 g2 g3 => by
      have hpl : p < all.length := by omega
      have hpair := stat_pair X.S ho hm g3 (List.getElem?_eq_getElem hpl)
      cases hb : Nat.testBit m p with
      | true => exact anc_done X.M I.closed i o m ho hm hp p hb
      | false =>
        unfold pairOk at hpair
        rw [hb, hH, hop p rp _ g1 g2 (List.getElem?_eq_getElem hpl)] at hpair
        simp at hpair) (fun p rp g1 g2 g3 => by
      rcases Nat.lt_or_ge i p with hlt | hge
      · have hpl : p < all.length := by have := (List.getElem?_eq_some_iff.1 g1).1; rw [X.T.len] at this; exact this
        obtain ⟨mp, hmp⟩ := X.M.get p _ (List.getElem?_eq_getElem hpl)
        have hpair := stat_pair X.S (List.getElem?_eq_getElem hpl) hmp hlt ho
        cases hb : Nat.testBit mp i with
        | true =>
          cases hd : ls.getD p false with
          | false => rfl
          | true =>
            have := anc_done' X.M I.closed (List.getElem?_eq_getElem hpl) hmp hd hb
            rw [hi] at this
            cases this
        | false =>
          unfold pairOk at hpair
          rw [hb, hH, hop p rp _ g1 g2 (List.getElem?_eq_getElem hpl)] at hpair
          simp at hpair
      · have : p = i := by omega
        rw [this]; exact hi)
    have hst : stg rs hF i = r.s := by unfold stg; rw [hr]
    have pkm : ∀ x, x ∈ pk ↔ IsN (rs.take i) x ∧ Unabs ms (rs.take i) i x.1 := T'.pend_iff X.M
    have isn_iff : ∀ x : Nat × Nat × Ob, x.1 < i → (IsN (rs.take i) x ↔ IsN rs x) := fun x hx => by
      unfold IsN
      rw [List.getElem?_take_of_lt hx]
    have un_iff : ∀ j, Unabs ms (rs.take i) i j ↔ Unabs ms rs i j := fun j =>
      ⟨fun h p rp mp g1 g2 g3 g4 => h p rp mp (by rw [List.getElem?_take_of_lt g3]; exact g1) g2 g3 g4, fun h p rp mp g1 g2 g3 g4 => h p rp mp (by rw [List.getElem?_take_of_lt g3] at g1; exact g1) g2 g3 g4⟩
    -- what it absorbs; what it leaves
    have amem : ∀ x, x ∈ (pk.filter fun x => Nat.testBit m x.1) ↔ x ∈ pfl ms rs ls i ∧ Nat.testBit m x.1 = true := fun x => by
      rw [List.mem_filter, pkm, pfl_mem]
      constructor
      · rintro ⟨⟨h1, h2⟩, h3⟩
        have hx : x.1 < i := by
          obtain ⟨_, g, _⟩ := h1
          have := (List.getElem?_eq_some_iff.1 g).1
          simp at this
          omega
        exact ⟨⟨(isn_iff x hx).1 h1, anc_done X.M I.closed i o m ho hm hp _ h3, (un_iff _).1 h2⟩, h3⟩
      · rintro ⟨⟨h1, _, h2⟩, h3⟩
        have hx := bit_lt X.M i m hm _ h3
        exact ⟨⟨(isn_iff x hx).2 h1, (un_iff _).2 h2⟩, h3⟩
    let A := pk.filter fun x => Nat.testBit m x.1
    let R := (pfl ms rs ls i).filter fun x => !Nat.testBit m x.1
    have rmem : ∀ x, x ∈ R ↔ x ∈ pfl ms rs ls i ∧ Nat.testBit m x.1 = false := fun x => by simp [R]
    have injA : NmInj A := fun x hx y hy e => X.pflInj ls i x ((amem x).1 hx).1 y ((amem y).1 hy).1 e
    have injR : NmInj R := fun x hx y hy e => X.pflInj ls i x ((rmem x).1 hx).1 y ((rmem y).1 hy).1 e
    have hgA : r.h.get = ovL A r.s.get := hget
    have hR : ∀ x ∈ R, r.h.get x.2.1 = none := fun x hx => by
      rw [hgA, ovL_out]
      · have := I.dj x ((rmem x).1 hx).1
        rwa [hst] at this
      · intro y hy e
        have := X.pflInj ls i y ((amem y).1 hy).1 x ((rmem x).1 hx).1 e
        subst this
        have h1 := ((amem y).1 hy).2
        rw [((rmem y).1 hx).2] at h1
        cases h1
    have hov : HD ms rs hF ls i = ov (ovL R fun _ => none) r.h.get := by
      funext n
      unfold HD
      rw [hst]
      rcases ovL_cases r.s.get (X.pflInj ls i) n with ⟨x, hx, rfl, e⟩ | ⟨hno, e⟩
      · rw [e]
        cases hb : Nat.testBit m x.1 with
        | true =>
          have hxA : x ∈ A := (amem x).2 ⟨hx, hb⟩
          rw [ov_r, hgA, ovL_in injA hxA]
          rw [ovL_out fun y hy e' => ?_]
          have := X.pflInj ls i y ((rmem y).1 hy).1 x hx e'
          subst this
          rw [((rmem y).1 hy).2] at hb
          cases hb
        | false =>
          have hxR : x ∈ R := (rmem x).2 ⟨hx, hb⟩
          exact (ov_l (ovL_in injR hxR)).symm
      · rw [e, ov_r, hgA, ovL_out fun x hx => hno x ((amem x).1 hx).1]
        rw [ovL_out fun x hx => hno x ((rmem x).1 hx).1]
    have hsub : ∀ {n ob}, r.h.get n = some ob → HD ms rs hF ls i n = some ob := fun {n ob} e => by
      rw [hov, ov_r, e]
      rw [ovL_out fun x hx e' => ?_]
      have := hR x hx
      rw [e', e] at this; cases this
    have layh : Lay ρ r.h w := ⟨fun n ob e => I.ran.lay.ob n ob (hsub e), fun n k ob ob' x y e1 e2 => I.ran.lay.inj n k ob ob' x y (hsub e1) (hsub e2)⟩
    have hnext : stg rs hF (i + 1) = r.h' := by
      rw [(X.T.next i r hr).1]
      rw [Rc.next_eq, hkd]
      rfl
    have mem' : ∀ x, x ∈ pfl ms rs (ls.setIfInBounds i true) (i + 1) ↔ x ∈ R := fun x => by
      rw [rmem, pfl_mem, pfl_mem]
      have hne : IsN rs x → i ≠ x.1 := fun ⟨r', g1, g2, _⟩ e => by
        rw [← e, hr] at g1
        injection g1 with g1
        subst g1
        rw [hkd] at g2; cases g2
      have un' : Unabs ms rs (i + 1) x.1 ↔ Unabs ms rs i x.1 ∧ Nat.testBit m x.1 = false := by
        constructor
        · exact fun h => ⟨fun p rp mp g1 g2 g3 g4 => h p rp mp g1 g2 (by omega) g4, h i r m hr (by rw [hkd]; rfl) (by omega) hm⟩
        · rintro ⟨g, hb⟩ p rp mp g1 g2 g3 g4
          rcases Nat.lt_or_ge p i with hlt | hge
          · exact g p rp mp g1 g2 hlt g4
          · have : p = i := by omega
            subst this
            rw [hm] at g4
            injection g4 with g4
            subst g4
            exact hb
      constructor
      · rintro ⟨h1, h2, h3⟩
        rw [getD_set_ne (hne h1)] at h2
        exact ⟨⟨h1, h2, (un'.1 h3).1⟩, (un'.1 h3).2⟩
      · rintro ⟨⟨h1, h2, h3⟩, h4⟩
        exact ⟨h1, by rw [getD_set_ne (hne h1)]; exact h2, un'.2 ⟨h3, h4⟩⟩
    have finish : ∀ {ρ' : Rn} {w' : World} {u : Value}, Den ρ' r.v u → Ran ρ r.h r.c w ρ' r.h' r.c' w' → DI all ms rs hF N ρ0 h0 c0 w0 cF a0 ρ' (i + 1) (ls.setIfInBounds i true) (a.put o.dst u) w' := fun {ρ' w' u} hu rn => by
      have bs := RanF.beside (r := ovL R fun _ => none) rn (by rw [← hov]; exact I.ran.lay) (fun n => by
        rcases ovL_cases (fun _ => none) injR n with ⟨x, hx, rfl, _⟩ | ⟨_, e⟩
        · exact .inr (hR x hx)
        · exact .inl e)
      have hH' : ov (ovL R fun _ => none) r.h'.get = HD ms rs hF (ls.setIfInBounds i true) (i + 1) := by
        unfold HD
        rw [hnext, ovL_ext (h := r.h'.get) (X.pflInj _ _) injR mem']
        funext n
        unfold ov
        rcases ovL_cases r.h'.get injR n with ⟨x, hx, rfl, e⟩ | ⟨hno, e⟩
        · rw [e, ovL_in injR hx]
        · rw [e, ovL_out hno]
      refine I.done X ho hr hm hun hp (by omega) (fun p rp g1 g2 g3 => ?_) (fun p rp g1 g2 g3 => ?_) (bs.congr hov.symm hH') (fun x hx => ?_) hu
      · by_cases hpi : p = i
        · subst hpi; exact getD_set_self hsz _
        · rw [getD_set_ne (Ne.symm hpi)]; exact I.fr1 p rp g1 g2 (by omega)
      · rw [getD_set_ne (by omega)]; exact I.fr2 p rp g1 g2 (by omega)
      · rw [hnext]
        have hxR := (mem' x).1 hx
        cases e : r.h'.get x.2.1 with
        | none => rfl
        | some ob' =>
          have hHx : HD ms rs hF ls i x.2.1 = some x.2.2 := by rw [hov]; exact ov_l (ovL_in injR hxR)
          obtain ⟨y, us, f1, f2, f3, f4, _⟩ := I.ran.lay.ob _ _ hHx
          obtain ⟨k, ob2, z, e1, e2, e3⟩ := rn.own y.b (Array.getElem?_eq_some_iff.1 f4).1 ⟨x.2.1, ob', y, e, rn.le _ _ f1, rfl⟩
          have := I.ran.lay.inj k x.2.1 ob2 x.2.2 z y (hsub e1) hHx e2 f1 e3
          subst this
          rw [hR x hxR] at e1
          cases e1
    rcases hcase with hv | ⟨f, args, hv, hc⟩
    · obtain ⟨n, u, w', ρ', e1, e2, e3, e4⟩ := (opV_sound hv).2 ρ w a.eval ev layh fri
      exact upon_val e1 e2 ⟨ρ', i + 1, finish e3 e4⟩
    · obtain ⟨us, e1, e2⟩ := opV_sound hv ρ w a.eval ev layh
      unfold Oper.wp
      rw [e1]
      refine ((X.call f args r.h r.c r.v r.h' r.c' hc).2 ρ w us (g0.le I.ran.le) e2 layh fri).mono ?_
      rintro e w' ⟨u, ρ', rfl, g1, g2⟩
      exact ⟨ρ', i + 1, finish g1 g2⟩
end
end Cx
end Go.Proofs.YtonbjlkmcikbgaaGreatDoor
