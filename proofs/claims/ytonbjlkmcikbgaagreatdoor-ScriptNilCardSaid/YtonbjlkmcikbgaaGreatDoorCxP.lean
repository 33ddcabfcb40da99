/-
  Closed runs: calls are sound; a call that is run by the kernel.
-/
import Derived.Test.YtonbjlkmcikbgaaGreatDoorCxO
namespace Go.Proofs.YtonbjlkmcikbgaaGreatDoor
open Go.RowKit
namespace Cx
set_option linter.unusedVariables false
set_option linter.unusedSimpArgs false

theorem startT_get : ∀ {l : List Value} {n : Nat} {t0 t : Tm}, startT l n t0 = some t → n + l.length ≤ cap0 → ∀ k v, t.get k = some v → (n ≤ k ∧ l[k - n]? = some v) ∨ t0.get k = some v
  | [], n, t0, t, h, _, k, v, hv => by
    simp only [startT, Option.some.injEq] at h
    subst h
    exact .inr hv
  | x :: l, n, t0, t, h, hc, k, v, hv => by
    simp only [List.length_cons] at hc
    simp only [startT, Tr.setK_eq] at h
    rcases startT_get h (by omega) k v hv with ⟨h1, h2⟩ | h1
    · refine .inl ⟨by omega, ?_⟩
      rw [show k - n = (k - (n + 1)) + 1 by omega]
      simpa using h2
    · rw [Tr.put _ _ _ (by omega)] at h1
      split at h1
      · rename_i e
        injection h1 with h1
        subst h1
        subst e
        exact .inl ⟨Nat.le_refl _, by simp⟩
      · exact .inr h1
def rv (tmps : Array Value) : ResultVar → Sem Value
  | .tmp t => pure (tmps.getD t undef)
  | .cell b t => do loadVar t (← asAddr (tmps.getD b undef))
section
variable {P : Program} {N : Nat}
theorem resV_sound {s : S} {ρ : Rn} {a : Act} {w : World} (m : TmOK N s.t ρ a) (l : Lay ρ s.h w) : ∀ {rs : List ResultVar} {vs : List Value}, resV P s rs = some vs → ∃ us, DenL ρ vs us ∧ Sem.run P (rs.mapM (rv a.tmps)) w = Result.ok us w
  | [], vs, h => by
    simp only [resV, Option.some.injEq] at h
    subst h
    exact ⟨[], .nil, rfl⟩
  | .tmp i :: rs, vs, h => by
    simp only [resV, bd_some, Option.some.injEq] at h
    obtain ⟨v, hv, r, hr, rfl⟩ := h
    obtain ⟨us, e1, e2⟩ := resV_sound m l hr
    refine ⟨_, .cons (m.2 i v hv).2 e1, ?_⟩
    rw [List.mapM_cons]
    simp [e2, rv]
  | .cell i e :: rs, vs, h => by
    simp only [resV, bd_some, Option.some.injEq] at h
    obtain ⟨ad, ha, o, ho, v, hv, r, hr, rfl⟩ := h
    obtain ⟨us, e1, e2⟩ := resV_sound m l hr
    obtain ⟨bk, k1, k2, k3⟩ := (m.2 i _ (ptrV_some ha)).2.ptr_inv
    obtain ⟨bk', cs, f1, f2, f3, f4, f5, f6⟩ := l.ob _ _ ho
    rw [k1] at f1
    injection f1 with f1
    subst f1
    obtain ⟨u, g1, g2⟩ := load_sound (P := P) hv f4 f6
    refine ⟨u :: us, .cons g1 e1, ?_⟩
    have g3 : (loadVar e ⟨bk.b, ad.off, none⟩).run P w = .ok u w := by simpa [Instr.loadAt, Instr.sureAddr] using g2
    have g4 : (rv a.tmps (.cell i e)).run P w = .ok u w := by
      simp only [rv, k3, asAddr, Sem.run_bind, Sem.run_pure, Result.andThen_ok, g3]
    rw [List.mapM_cons]
    simp [e2, g4]
theorem results_run {fn : Func} {tmps : Array Value} {vs : List Value} {w : World} (h : Sem.run P (fn.results.toList.mapM (rv tmps)) w = Result.ok vs w) : (results fn tmps).run P w = .ok (mkRes vs) w := by
  have e : results fn tmps = (do let vs ← fn.results.mapM (rv tmps); pure (if h : vs.size = 1 then vs[0] else .tuple vs)) := by
    unfold results
    congr 1
  rw [e, Array.mapM_eq_mapM_toList]
  simp only [Sem.run_bind, Sem.run_map, h, Result.andThen_ok, Sem.run_pure, bind_map_left]
  unfold mkRes
  match vs with
  | [] => simp
  | [v] => simp
  | a :: b :: l => simp
theorem mkRes_den {ρ : Rn} : ∀ {l m : List Value}, DenL ρ l m → Den ρ (mkRes l) (mkRes m)
  | _, _, .nil => .tup .nil
  | _, _, .cons h .nil => h
  | _, _, .cons h (.cons h' t) => .tup (.cons h (.cons h' t))
theorem call_sound (hm : P.follows .mixedOrders = true) (fuel : Nat) : ∀ n, CallOK P (call P fuel n)
  | 0 => fun f args h c v h' c' e => by cases e
  | n + 1 => fun f args h c v h' c' e => by
    simp only [call, bd_some, gd_some, Bool.and_eq_true] at e
    obtain ⟨fn, hf, b, hb, ⟨hN, hcap⟩, t, ht, ⟨ex, s'⟩, hcode, e⟩ := e
    have hN := ble_of hN
    have hcap := ble_of hcap
    obtain ⟨hc, H⟩ := code_sound hm hcap (call_sound hm fuel n) b hcode
    have fin : ∀ l, resV P s' fn.results.toList = some l → (v, h', c') = (mkRes l, s'.h, s'.c) → (ex = .normal ∨ ex = .ret) → c ≤ c' ∧ ∀ ρ w (us : List Value), GOK ρ → DenL ρ args us → Lay ρ h w → Free ρ c c' → Calls P f us.toArray w fun e w' => ∃ u ρ', e = .returned u ∧ Den ρ' v u ∧ Ran ρ h c w ρ' h' c' w' := by
      intro l hl he hex
      injection he with e1 e2
      injection e2 with e2 e3
      subst e1 e2 e3
      refine ⟨hc, fun ρ w us g d ly f => ?_⟩
      have hlen := d.len
      refine calls_of_wp hf hb (H ρ _ w _ g ⟨by simp; omega, fun k x hk => ?_⟩ ly f fun ρ' a' w' m' rn dd => ?_)
      · rcases startT_get ht (by omega) k x hk with ⟨_, h2⟩ | h2
        · rw [Nat.sub_zero] at h2
          obtain ⟨u, g1, g2⟩ := d.at h2
          have hlt := (List.getElem?_eq_some_iff.1 g1).1
          refine ⟨by omega, ?_⟩
          have : us[k] = u := (List.getElem?_eq_some_iff.1 g1).2
          simp [Array.getD_eq_getD_getElem?, Array.getElem?_append, hlt, this, g2]
        · cases h2
      · obtain ⟨vs, k1, k2⟩ := resV_sound m' rn.lay hl
        rcases hex with rfl | rfl
        · exact ⟨dd, _, results_run k2, _, ρ', rfl, mkRes_den k1, rn⟩
        · exact ⟨dd, _, results_run k2, _, ρ', rfl, mkRes_den k1, rn⟩
    cases ex with
    | normal =>
      simp only [bd_some, Option.some.injEq] at e
      obtain ⟨l, hl, he⟩ := e
      exact fin l hl he.symm (.inl rfl)
    | ret =>
      simp only [bd_some, Option.some.injEq] at e
      obtain ⟨l, hl, he⟩ := e
      exact fin l hl he.symm (.inr rfl)
    | exit j => cases e
/-- at the start nothing but the program's variables has a name -/
def rn0 : Rn := fun n => if gbase ≤ n then some ⟨n - gbase, 0, 0⟩ else none
theorem rn0_ok : GOK rn0 := fun g => ⟨⟨g, 0, 0⟩, by simp [rn0], rfl⟩
theorem rn0_free {c c' : Nat} (h : c' ≤ gbase) : Free rn0 c c' := fun n _ h2 => by
  unfold rn0
  rw [if_neg (by omega)]
/-- the call of a function without memory of its caller's: the kernel's own run says what it hands back -/
theorem closed_call (hm : P.follows .mixedOrders = true) {fuel n : Nat} {f : FuncId} {args : List Value} {c : Nat} {v : Value} {h' : Hp} {c' : Nat} (hr : call P fuel n f args .lf c = some (v, h', c')) (ha : flats args = true) (hv : flat v = true) (hc : Nat.ble c' gbase = true) (w : World) :
    Calls P f args.toArray w fun e w' => e = .returned v ∧ Below w.heap.size w w' := by
  refine ((call_sound hm fuel n f args .lf c v h' c' hr).2 rn0 w args rn0_ok (DenL.flat ha) lay_lf (rn0_free (ble_of hc))).mono ?_
  rintro e w' ⟨u, ρ', rfl, d, rn⟩
  refine ⟨by rw [d.flat_eq hv], rn.os, rn.tape, rn.output, rn.size, fun i hi => rn.frame i hi ?_⟩
  rintro ⟨n, o, x, e, _⟩
  cases e
/-- the same, by a test -/
noncomputable def says (P : Program) (fuel n : Nat) (f : FuncId) (args : List Value) (v : Value) : Bool := match call P fuel n f args .lf 0 with
  | some (u, _, c') => veq u v && Nat.ble c' gbase
  | none => false
theorem closed_says (hm : P.follows .mixedOrders = true) {fuel n : Nat} {f : FuncId} {args : List Value} {v : Value} (ha : flats args = true) (hv : flat v = true) (hr : says P fuel n f args v = true) (w : World) :
    Calls P f args.toArray w fun e w' => e = .returned v ∧ Below w.heap.size w w' := by
  unfold says at hr
  split at hr
  · rename_i u h' c' hc
    simp only [Bool.and_eq_true] at hr
    have := veq_eq hr.1
    subst this
    exact closed_call hm hc ha hv hr.2 w
  · cases hr
end
end Cx
end Go.Proofs.YtonbjlkmcikbgaaGreatDoor
