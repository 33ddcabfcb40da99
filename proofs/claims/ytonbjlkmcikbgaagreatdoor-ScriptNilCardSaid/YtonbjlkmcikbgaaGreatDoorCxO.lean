/-
  Closed runs: code and calls: sound.
-/
import Derived.Test.YtonbjlkmcikbgaaGreatDoorCxN
namespace Go.Proofs.YtonbjlkmcikbgaaGreatDoor
open Go.RowKit
namespace Cx
set_option linter.unusedVariables false
set_option linter.unusedSimpArgs false

section
variable {P : Program} {call : Callee} {N : Nat}
theorem Tra.zero {all : List Oper} {ms : List Nat} {t0 : Tm} {h0 : Hp} {c0 i : Nat} {prs : List Rc} {t : Tm} {h : Hp} {c : Nat} {pend : Pend} (T : Tra P call N all ms t0 h0 c0 i prs t h c pend) (hi : i = 0) : h = h0 := by
  cases T with
  | nil => rfl
  | snoc _ _ _ _ _ => omega
theorem RanF.wide {ρ ρ' : Rn} {h h' : HF} {c c' c2 : Nat} {w w' : World} (a : RanF ρ h c w ρ' h' c' w') (hc : c' ≤ c2) : RanF ρ h c w ρ' h' c2 w' :=
  ⟨a.lay, a.le, fun n hn => a.out n (by omega), Nat.le_trans a.cc hc, a.os, a.tape, a.output, a.size, a.frame, a.own⟩
theorem drawn_sound (hm : P.follows .mixedOrders = true) (hN : N ≤ cap0) (hcall : CallOK P call) {ops : List Oper} {s s' : S} (h : region P call N ops true s = some s') (id : Nat) : s.c ≤ s'.c ∧ ∀ ρ a w Q, GOK ρ → TmOK N s.t ρ a → Lay ρ s.h w → Free ρ s.c s'.c → Go N s s' ρ a w (Q .normal) → (Code.region id ops.toArray true).wp P Q a w := by
  simp only [region, bd_some, gd_some] at h
  obtain ⟨ms, hms, hstat, ⟨rs, fin⟩, hrec, hfl, hlay⟩ := h
  obtain ⟨hE, hlay, hget⟩ := layAll_spec hlay
  injection hlay with hlay
  subst hlay
  simp only at hget hfl
  have M := masks_ok hms
  have T := recs_tra (prs := []) (fun k => by rw [Nat.zero_add]) (.nil) hrec
  rw [Nat.zero_add, List.nil_append] at T
  have X : Cxt P call N ops ms rs s.t s.h s.c fin.t fin.h fin.c fin.pend := ⟨T, M, hstat, hcall, hN, fun i p o r rp m mp ho hr hk hrp hkp hm1 hm2 hb1 hb2 => by
    have hpl : p < ops.length := by have := (List.getElem?_eq_some_iff.1 hrp).1; rw [T.len] at this; exact this
    have hopp : ops[p]? = some ops[p] := List.getElem?_eq_getElem hpl
    obtain ⟨op', m', pk, pk', ho', _, _, ok⟩ := T.sub p rp hrp
    rw [hopp] at ho'
    injection ho' with ho'
    have hH : isH ops[p] = true := by rw [ho']; exact (ok.H (isHk_of hkp)).2.1
    obtain ⟨o2, m2, pk2, pk2', ho2, _, _, ok2⟩ := T.sub i r hr
    rw [ho] at ho2
    injection ho2 with ho2
    subst ho2
    have hld := (ok2.L hk).2.1
    have hL : isL o = true := by
      unfold ldV at hld
      split at hld
      · rename_i e; simp [isL, kindOp, e]
      · cases hld
    have hmem := floats_mem (all := ops) (ms := ms) (m := m) (p := p) hopp hH (l := ops) (i := 0) (k := i) (o := o) ho hL (by rwa [Nat.zero_add]) hb1 (fun q hq => by rw [hm2] at hq; injection hq with hq; subst hq; rwa [Nat.zero_add])
    rw [Nat.zero_add] at hmem
    have hf := floatsOk_mem hfl i p hmem
    unfold float1 at hf
    simp only [ho, hr, hrp, hk, isLk, hkp] at hf
    constructor
    · intro hlt
      have hb : Nat.blt p i = true := Nat.ble_eq_true_of_le (by omega)
      rw [hb] at hf
      split at hf
      · rename_i v hv
        rw [← veq_eq hf]; exact hv
      · cases hf
    · intro hlt
      have hb : Nat.blt p i = false := by
        cases e : Nat.blt p i with
        | false => rfl
        | true => have := blt_of e; omega
      rw [hb] at hf
      split at hf
      · rename_i v hv
        rw [← veq_eq hf]; exact hv
      · cases hf⟩
  have hcnt := T.count hcall
  refine ⟨hcnt.1, fun ρ a w Q g m l f hk => ?_⟩
  simp only at f
  refine wp_region_any hm ?_
  have hls : (Array.replicate ops.toArray.size false : Array Bool).toList.count false = ops.toArray.size := by simp
  refine any_sound X m g (Q := Q) (w0 := w) (fun ρ' q ls a' w' I hall => ?_) _ ρ 0 _ a _ hls ?_
  · have I := I.move X (q' := ops.length) (Nat.le_refl _) (fun p r h1 h2 h3 => hall p h3) (fun p r h1 h2 h3 => by
      have := (List.getElem?_eq_some_iff.1 h1).1
      rw [T.len] at this
      omega)
    have hE' : HD ms rs fin.h ls ops.length = hE.get := by
      unfold HD
      have hst : stg rs fin.h ops.length = fin.h := by
        unfold stg
        rw [List.getElem?_eq_none (by rw [T.len]; exact Nat.le_refl _)]
      have mem : ∀ x, x ∈ pfl ms rs ls ops.length ↔ x ∈ fin.pend := fun x => by
        rw [pfl_mem, T.pend_iff M]
        constructor
        · exact fun ⟨h1, _, h3⟩ => ⟨h1, h3⟩
        · rintro ⟨h1, h3⟩
          refine ⟨h1, hall _ ?_, h3⟩
          obtain ⟨r, h4, _⟩ := h1
          have := (List.getElem?_eq_some_iff.1 h4).1
          rwa [T.len] at this
      rw [hst, hget]
      exact ovL_ext (X.pflInj _ _) (fun x hx y hy e => X.pflInj ls ops.length x ((mem x).2 hx) y ((mem y).2 hy) e) mem
    refine hk ρ' a' w' ⟨I.tsz, fun k v hv => ?_⟩ ?_ I.defs
    · rcases T.temps hN k v hv with ⟨j, oj, rj, h1, h2, h3, h4, rfl⟩ | ⟨h1, h2⟩
      · exact ⟨T.dst j oj k h1 h2 h4, I.t1 j oj rj k h2 h3 (hall j h1) h4⟩
      · obtain ⟨k1, k2⟩ := m.2 k v h1
        refine ⟨k1, ?_⟩
        rw [I.t2 k fun j oj hoj _ => h2 j oj (List.getElem?_eq_some_iff.1 hoj).1 hoj]
        exact k2.le I.ran.le
    · have := I.ran
      rw [hE'] at this
      exact this
  · have none : ∀ j, (Array.replicate ops.toArray.size false : Array Bool).getD j false = false := fun j => by
      rw [Array.getD_eq_getD_getElem?, Array.getElem?_replicate]
      split <;> rfl
    have pnil : ∀ x, x ∉ pfl ms rs (Array.replicate ops.toArray.size false) 0 := fun x hx => by
      have := (pfl_mem.1 hx).2.1
      rw [none] at this
      cases this
    have hst : stg rs fin.h 0 = s.h := by
      unfold stg
      cases hr : rs[0]? with
      | none =>
        have hl := T.len
        have : rs.length = 0 := by
          rcases Nat.eq_zero_or_pos rs.length with e | e
          · exact e
          · rw [List.getElem?_eq_getElem e] at hr; cases hr
        exact T.zero (by omega)
      | some r =>
        obtain ⟨_, _, _, _, _, _, T', _⟩ := T.sub 0 r hr
        exact T'.zero rfl
    have hHD : HD ms rs fin.h (Array.replicate ops.toArray.size false) 0 = s.h.get := by
      unfold HD
      rw [hst]
      funext n
      exact ovL_out fun x hx => absurd hx (pnil x)
    refine ⟨by simp, (fun j oj _ hj => by rw [none] at hj; cases hj), (fun p r _ _ hp => by omega), fun p r _ _ _ => none p, Nat.zero_le _, ?_, fun x hx => absurd hx (pnil x), fun j r hr _ => ?_, m.1, rfl, (fun j oj rj d _ _ hj => by rw [none] at hj; cases hj), fun d _ => rfl⟩
    · rw [hHD]
      exact (RanF.of_below (c := s.c) l ((Below.refl _ _).drew : Below w.heap.size w w.drew)).wide hcnt.1
    · have := hcnt.2 j r hr
      exact fun n h1 h2 => f n (by omega) (by omega)

def exOf : Ex → Exit
  | .normal => .normal
  | .ret => .ret
  | .exit j => .exit j
theorem region_sound (hm : P.follows .mixedOrders = true) (hN : N ≤ cap0) (hcall : CallOK P call) {ops : Array Oper} {draw : Bool} {s s' : S} (h : region P call N ops.toList draw s = some s') (id : Nat) : s.c ≤ s'.c ∧ ∀ ρ a w Q, GOK ρ → TmOK N s.t ρ a → Lay ρ s.h w → Free ρ s.c s'.c → Go N s s' ρ a w (Q .normal) → (Code.region id ops draw).wp P Q a w := by
  cases draw with
  | true =>
    have := drawn_sound hm hN hcall h id
    rwa [Array.toArray_toList] at this
  | false =>
    obtain ⟨h1, h2⟩ := steps_sound hN hcall (show steps P call N ops.toList ops.toList s = some s' from h)
    refine ⟨h1, fun ρ a w Q g m l f hk => wp_region_list ?_⟩
    have := h2 ρ a w Q g m l f hk
    rwa [Array.toArray_toList] at this
theorem code_sound (hm : P.follows .mixedOrders = true) (hN : N ≤ cap0) (hcall : CallOK P call) {fuel : Nat} : ∀ (c : Code) {s s' : S} {ex : Ex}, code P call fuel N c s = some (ex, s') →
    s.c ≤ s'.c ∧ ∀ ρ a w Q, GOK ρ → TmOK N s.t ρ a → Lay ρ s.h w → Free ρ s.c s'.c → Go N s s' ρ a w (Q (exOf ex)) → c.wp P Q a w
  | .skip, s, s', ex, h => by
    have h : some (Ex.normal, s) = some (ex, s') := h
    simp only [Option.some.injEq, Prod.mk.injEq] at h
    obtain ⟨rfl, rfl⟩ := h
    exact ⟨Nat.le_refl _, fun ρ a w Q g m l f hk => wp_skip (hk ρ a w m (.refl l) rfl)⟩
  | .region id ops draw, s, s', ex, h => by
    rw [code_reg] at h
    simp only [bd_some, Option.some.injEq, Prod.mk.injEq] at h
    obtain ⟨s1, h1, rfl, rfl⟩ := h
    exact region_sound hm hN hcall h1 id
  | .seq x y, s, s', ex, h => by
    rw [code_seq, bd_some] at h
    obtain ⟨⟨e1, s1⟩, h1, h2⟩ := h
    obtain ⟨c1, H1⟩ := code_sound hm hN hcall x h1
    cases e1 with
    | normal =>
      have h2 : code P call fuel N y s1 = some (ex, s') := h2
      obtain ⟨c2, H2⟩ := code_sound hm hN hcall y h2
      exact ⟨Nat.le_trans c1 c2, fun ρ a w Q g m l f hk => wp_seq (H1 ρ a w _ g m l (f.left c2) fun ρ' a' w' m' rn d =>
        H2 ρ' a' w' Q (g.le rn.le) m' rn.lay (rn.free f) fun ρ2 a2 w2 m2 rn2 d2 => hk ρ2 a2 w2 m2 (rn.trans rn2) (d2.trans d))⟩
    | ret =>
      have h2 : some (Ex.ret, s1) = some (ex, s') := h2
      simp only [Option.some.injEq, Prod.mk.injEq] at h2
      obtain ⟨rfl, rfl⟩ := h2
      exact ⟨c1, fun ρ a w Q g m l f hk => wp_seq (H1 ρ a w _ g m l f fun ρ' a' w' m' rn d => hk ρ' a' w' m' rn d)⟩
    | exit j =>
      have h2 : some (Ex.exit j, s1) = some (ex, s') := h2
      simp only [Option.some.injEq, Prod.mk.injEq] at h2
      obtain ⟨rfl, rfl⟩ := h2
      exact ⟨c1, fun ρ a w Q g m l f hk => wp_seq (H1 ρ a w _ g m l f fun ρ' a' w' m' rn d => hk ρ' a' w' m' rn d)⟩
  | .cond x y z, s, s', ex, h => by
    rw [code_cond, bd_some] at h
    obtain ⟨b, hb, h⟩ := h
    have hb := boolV_some hb
    cases b with
    | true =>
      have h : code P call fuel N y s = some (ex, s') := h
      obtain ⟨c1, H1⟩ := code_sound hm hN hcall y h
      exact ⟨c1, fun ρ a w Q g m l f hk => wp_cond_true (ev_sound g hb fun k _ hg => (m.2 k _ hg).2).bool_inv (H1 ρ a w Q g m l f hk)⟩
    | false =>
      have h : code P call fuel N z s = some (ex, s') := h
      obtain ⟨c1, H1⟩ := code_sound hm hN hcall z h
      exact ⟨c1, fun ρ a w Q g m l f hk => wp_cond_false (ev_sound g hb fun k _ hg => (m.2 k _ hg).2).bool_inv (H1 ρ a w Q g m l f hk)⟩
  | .block id x, s, s', ex, h => by
    rw [code_block, bd_some] at h
    obtain ⟨⟨e1, s1⟩, h1, h2⟩ := h
    obtain ⟨c1, H1⟩ := code_sound hm hN hcall x h1
    cases e1 with
    | normal =>
      have h2 : some (Ex.normal, s1) = some (ex, s') := h2
      simp only [Option.some.injEq, Prod.mk.injEq] at h2
      obtain ⟨rfl, rfl⟩ := h2
      exact ⟨c1, fun ρ a w Q g m l f hk => wp_block (H1 ρ a w _ g m l f fun ρ' a' w' m' rn d => hk ρ' a' w' m' rn d)⟩
    | ret =>
      have h2 : some (Ex.ret, s1) = some (ex, s') := h2
      simp only [Option.some.injEq, Prod.mk.injEq] at h2
      obtain ⟨rfl, rfl⟩ := h2
      exact ⟨c1, fun ρ a w Q g m l f hk => wp_block (H1 ρ a w _ g m l f fun ρ' a' w' m' rn d => hk ρ' a' w' m' rn d)⟩
    | exit j =>
      have h2 : Bool.rec (motive := fun _ => Option (Ex × S)) (some (.exit j, s1)) (some (.normal, s1)) (Nat.beq j id) = some (ex, s') := h2
      cases hj : Nat.beq j id with
      | true =>
        rw [hj] at h2
        have h2 : some (Ex.normal, s1) = some (ex, s') := h2
        have hj := beq_of hj
        simp only [Option.some.injEq, Prod.mk.injEq] at h2
        obtain ⟨rfl, rfl⟩ := h2
        refine ⟨c1, fun ρ a w Q g m l f hk => wp_block (H1 ρ a w _ g m l f fun ρ' a' w' m' rn d => ?_)⟩
        show Exit.inBlock id Q (.exit j) a' w'
        simp only [Exit.inBlock]
        rw [if_pos hj]
        exact hk ρ' a' w' m' rn d
      | false =>
        rw [hj] at h2
        have h2 : some (Ex.exit j, s1) = some (ex, s') := h2
        have hj := beq_no hj
        simp only [Option.some.injEq, Prod.mk.injEq] at h2
        obtain ⟨rfl, rfl⟩ := h2
        refine ⟨c1, fun ρ a w Q g m l f hk => wp_block (H1 ρ a w _ g m l f fun ρ' a' w' m' rn d => ?_)⟩
        show Exit.inBlock id Q (.exit j) a' w'
        simp only [Exit.inBlock]
        rw [if_neg hj]
        exact hk ρ' a' w' m' rn d
  | .loop x, s, s', ex, h => by
    have rounds : ∀ (n : Nat) {s s' : S} {ex : Ex}, iter (code P call fuel N x) n s = some (ex, s') → s.c ≤ s'.c ∧ ∀ ρ a w Q, GOK ρ → TmOK N s.t ρ a → Lay ρ s.h w → Free ρ s.c s'.c → Go N s s' ρ a w (Q (exOf ex)) → Code.rounds P x Q n a w := by
      intro n
      induction n with
      | zero => intro s s' ex h; cases h
      | succ n ih =>
        intro s s' ex h
        rw [iter_s, bd_some] at h
        obtain ⟨⟨e1, s1⟩, h1, h2⟩ := h
        obtain ⟨c1, H1⟩ := code_sound hm hN hcall x h1
        cases e1 with
        | normal =>
          have h2 : iter (code P call fuel N x) n s1 = some (ex, s') := h2
          obtain ⟨c2, H2⟩ := ih h2
          exact ⟨Nat.le_trans c1 c2, fun ρ a w Q g m l f hk => H1 ρ a w _ g m l (f.left c2) fun ρ' a' w' m' rn d =>
            H2 ρ' a' w' Q (g.le rn.le) m' rn.lay (rn.free f) fun ρ2 a2 w2 m2 rn2 d2 => hk ρ2 a2 w2 m2 (rn.trans rn2) (d2.trans d)⟩
        | ret =>
          have h2 : some (Ex.ret, s1) = some (ex, s') := h2
          simp only [Option.some.injEq, Prod.mk.injEq] at h2
          obtain ⟨rfl, rfl⟩ := h2
          exact ⟨c1, fun ρ a w Q g m l f hk => H1 ρ a w _ g m l f fun ρ' a' w' m' rn d => hk ρ' a' w' m' rn d⟩
        | exit j =>
          have h2 : some (Ex.exit j, s1) = some (ex, s') := h2
          simp only [Option.some.injEq, Prod.mk.injEq] at h2
          obtain ⟨rfl, rfl⟩ := h2
          exact ⟨c1, fun ρ a w Q g m l f hk => H1 ρ a w _ g m l f fun ρ' a' w' m' rn d => hk ρ' a' w' m' rn d⟩
    obtain ⟨c1, H1⟩ := rounds fuel (show iter (code P call fuel N x) fuel s = some (ex, s') from h)
    exact ⟨c1, fun ρ a w Q g m l f hk => wp_loop_rounds fuel (H1 ρ a w Q g m l f hk)⟩
  | .exit j, s, s', ex, h => by
    have h : some (Ex.exit j, s) = some (ex, s') := h
    simp only [Option.some.injEq, Prod.mk.injEq] at h
    obtain ⟨rfl, rfl⟩ := h
    exact ⟨Nat.le_refl _, fun ρ a w Q g m l f hk => wp_exit (hk ρ a w m (.refl l) rfl)⟩
  | .ret, s, s', ex, h => by
    have h : some (Ex.ret, s) = some (ex, s') := h
    simp only [Option.some.injEq, Prod.mk.injEq] at h
    obtain ⟨rfl, rfl⟩ := h
    exact ⟨Nat.le_refl _, fun ρ a w Q g m l f hk => wp_ret (hk ρ a w m (.refl l) rfl)⟩
  | .rangeFunc .., s, s', ex, h => by cases h
  | .scope _, s, s', ex, h => by cases h
  | .label _, s, s', ex, h => by cases h
  | .goto _, s, s', ex, h => by cases h
  | .refuse _, s, s', ex, h => by cases h
end
end Cx
end Go.Proofs.YtonbjlkmcikbgaaGreatDoor
