/-
  Closed runs: a function that defers a call which recovers, where nothing panics.
-/
import Derived.Test.YtonbjlkmcikbgaaGreatDoorCxP
import Derived.Defers
import Derived.Recover
namespace Go.Proofs.YtonbjlkmcikbgaaGreatDoor
open Go.RowKit
namespace Cx
set_option linter.unusedVariables false
set_option linter.unusedSimpArgs false

/-- a body that lays one call: what is ahead, the operations ahead in its region, whose call it is, what is behind -/
structure Dsh where
  c0 : Code
  os : List Oper
  x : Operand
  rest : Code
/-- the last of them lays a call -/
def cutD : List Oper → Option (List Oper × Operand)
  | [] => none
  | [o] => match o.op with
    | .defer ⟨.value x, ⟨[]⟩, ⟨[]⟩⟩ => match o.dst, o.guard with
      | none, none => some ([], x)
      | _, _ => none
    | _ => none
  | o :: l => match cutD l with
    | some (r, x) => some (o :: r, x)
    | none => none
def shapeD (b : Code) : Option Dsh := match b with
  | .seq c0 (.seq (.region _ ⟨os⟩ false) rest) => match cutD os with
    | some (l, x) => some ⟨c0, l, x, rest⟩
    | none => none
  | _ => none
/-- a body whose first operation recovers -/
structure Rsh where
  id : Nat
  all : List Oper
  d : Nat
  l : List Oper
  rest : Code
def shapeR (b : Code) : Option Rsh := match b with
  | .seq (.region id ⟨o :: l⟩ false) rest => match o.op with
    | .call ⟨.builtin .recover, ⟨[]⟩, ⟨[]⟩⟩ => match o.dst, o.guard with
      | some d, none => some ⟨id, o :: l, d, l, rest⟩
      | _, _ => none
    | _ => none
  | _ => none
noncomputable section
def done : Ex → Bool
  | .exit _ => false
  | _ => true
/-- the deferred call: what is behind it -/
def lateV (P : Program) (fuel : Nat) (call : Callee) (g : FuncId) (caps : List Value) (h : Hp) (c : Nat) : Option (Hp × Nat) :=
  bd P.funcs[g]? fun fn => bd fn.body fun b => bd (shapeR b) fun sh => gd (Nat.ble caps.length fn.ntmps && (Nat.ble fn.ntmps cap0 && (match fn.results with
    | ⟨[]⟩ => true
    | _ => false))) (bd (startT caps 0 .lf) fun t => bd (put fn.ntmps t h c (some sh.d) .nilIface) fun s => bd (steps P call fn.ntmps sh.all sh.l s) fun s => bd (code P call fuel fn.ntmps sh.rest s) fun r => gd (done r.1) (some (r.2.h, r.2.c)))
def stepX (P : Program) (fuel : Nat) (call : Callee) (f : FuncId) (args : List Value) (h : Hp) (c : Nat) : Option (Value × Hp × Nat) := bd P.funcs[f]? fun fn => bd fn.body fun b => gd (Nat.ble args.length fn.ntmps && Nat.ble fn.ntmps cap0) (bd (startT args 0 .lf) fun t => Option.rec (motive := fun _ => Option (Value × Hp × Nat))
    (bd (code P call fuel fn.ntmps b ⟨t, h, c⟩) fun r => gd (done r.1) (bd (resV P r.2 fn.results.toList) fun l => some (mkRes l, r.2.h, r.2.c)))
    (fun sh => bd (code P call fuel fn.ntmps sh.c0 ⟨t, h, c⟩) fun r0 => gd (match r0.1 with
      | .normal => true
      | _ => false) (bd (steps P call fn.ntmps sh.os sh.os r0.2) fun s => bd (funV (evl s.t sh.x)) fun q => gd (canEnter P q.1) (bd (code P call fuel fn.ntmps sh.rest s) fun r => gd (done r.1)
        (bd (lateV P fuel call q.1 q.2 r.2.h r.2.c) fun z => bd (resV P ⟨r.2.t, z.1, z.2⟩ fn.results.toList) fun l => some (mkRes l, z.1, z.2)))))
    (shapeD b))
def callX (P : Program) (fuel : Nat) : Nat → Callee
  | 0, _, _, _, _ => none
  | n + 1, f, args, h, c => stepX P fuel (callX P fuel n) f args h c
end
theorem cutD_some : ∀ {l : List Oper} {r : List Oper} {x : Operand}, cutD l = some (r, x) → ∃ o : Oper, l = r ++ [o] ∧ o.op = .defer { callee := .value x, args := #[], argTypes := #[] } ∧ o.dst = none ∧ o.guard = none
  | [], r, x, h => by cases h
  | [o], r, x, h => by
    unfold cutD at h
    split at h
    · rename_i ho
      split at h
      · rename_i h1 h2
        injection h with h
        injection h with h3 h4
        subst h3 h4
        exact ⟨o, rfl, ho, h1, h2⟩
      · cases h
    · cases h
  | o :: p :: l, r, x, h => by
    unfold cutD at h
    split at h
    · rename_i r' x' e
      injection h with h
      injection h with h1 h2
      subst h1 h2
      obtain ⟨q, e1, e2⟩ := cutD_some e
      exact ⟨q, by rw [e1]; rfl, e2⟩
    · cases h
theorem shapeD_some {b : Code} {sh : Dsh} (h : shapeD b = some sh) : ∃ (id : Nat) (od : Oper), b = .seq sh.c0 (.seq (.region id (sh.os ++ [od]).toArray false) sh.rest) ∧ od.op = .defer { callee := .value sh.x, args := #[], argTypes := #[] } ∧ od.dst = none ∧ od.guard = none := by
  unfold shapeD at h
  split at h
  · split at h
    · rename_i id os rest _ _ _ e
      injection h with h
      subst h
      obtain ⟨o, e1, e2⟩ := cutD_some e
      exact ⟨_, o, by rw [e1], e2⟩
    · cases h
  · cases h
theorem shapeR_some {b : Code} {sh : Rsh} (h : shapeR b = some sh) : ∃ o : Oper, b = .seq (.region sh.id sh.all.toArray false) sh.rest ∧ sh.all = o :: sh.l ∧ o.op = .call { callee := .builtin .recover, args := #[], argTypes := #[] } ∧ o.dst = some sh.d ∧ o.guard = none := by
  unfold shapeR at h
  split at h
  · split at h
    · rename_i ho
      split at h
      · rename_i h1 h2
        injection h with h
        subst h
        exact ⟨_, rfl, rfl, ho, h1, h2⟩
      · cases h
    · cases h
  · cases h
section
variable {P : Program} {call : Callee} {N : Nat}
theorem wpList_append {ops : Array Oper} {Q : Exit → Act → World → Prop} {l2 : List Oper} : ∀ {l1 : List Oper} {a : Act} {w : World}, wpList P ops (Exit.then (wpList P ops Q l2) Q) l1 a w → wpList P ops Q (l1 ++ l2) a w
  | [], a, w, h => h
  | o :: l, a, w, h => by
    have out : LetsOut (Exit.then (wpList P ops Q l2) Q) → LetsOut Q := fun ⟨a, w, h⟩ => ⟨a, w, h⟩
    simp only [List.cons_append]
    unfold wpList at h ⊢
    split
    · rename_i hw
      rw [if_pos hw] at h
      rcases h with h | ⟨h1, h2⟩
      · left
        unfold Oper.wp at *
        generalize (execOp a.eval o).run P w = r at *
        cases r with
        | ok n w' =>
          cases n <;> simp only [Oper.upon] at h ⊢ <;> first
            | exact h.elim
            | exact wpList_append h
            | exact Calls.mono h fun e w'' he => by
                cases e with
                | returned v => exact wpList_append he
                | panicked c => exact he
                | outgrown => exact out he
            | exact Rows.mono h fun v w'' he => wpList_append he
        | halt x w' => cases x <;> simp only [Oper.upon] at h ⊢; exact h
      · exact .inr ⟨h1, out h2⟩
    · rename_i hw
      rw [if_neg hw] at h
      exact wpList_append h
theorem want_app {all x : List Oper} {t : Tm} {o : Oper} {b : Bool} (h : want all t o = some b) : want (all ++ x) t o = some b := by
  unfold want at h ⊢
  split at h
  · exact h
  · simp only [bd_some, nth_eq] at h ⊢
    obtain ⟨oj, hj, d, hd, h⟩ := h
    exact ⟨oj, by rw [List.getElem?_append_left (List.getElem?_eq_some_iff.1 hj).1]; exact hj, d, hd, h⟩
theorem step_app {all x : List Oper} {o : Oper} {s s' : S} (h : step P call N all o s = some s') : step P call N (all ++ x) o s = some s' := by
  obtain ⟨t, hh, c⟩ := s
  let K : Bool → Option S := fun w => Bool.rec (motive := fun _ => Option S) (put N t hh c o.dst undef)
    (bd (opV P t hh c o) fun r => OR.rec (motive := fun _ => Option S) (fun v h c => put N t h c o.dst v) (fun f args => bd (call f args hh c) fun r => put N t r.2.1 r.2.2 o.dst r.1) r) w
  have h : bd (want all t o) K = some s' := h
  show bd (want (all ++ x) t o) K = some s'
  rw [bd_some] at h ⊢
  obtain ⟨b, hb, h⟩ := h
  exact ⟨b, want_app hb, h⟩
theorem steps_app {all x : List Oper} : ∀ {l : List Oper} {s s' : S}, steps P call N all l s = some s' → steps P call N (all ++ x) l s = some s'
  | [], s, s', h => h
  | o :: l, s, s', h => by
    have h : bd (step P call N all o s) (steps P call N all l) = some s' := h
    show bd (step P call N (all ++ x) o s) (steps P call N (all ++ x) l) = some s'
    rw [bd_some] at h ⊢
    obtain ⟨s1, h1, h2⟩ := h
    exact ⟨s1, step_app h1, steps_app h2⟩
theorem steps_soundS (hN : N ≤ cap0) (hcall : CallOK P call) {all : List Oper} : ∀ {l : List Oper} {k : Nat} {s s' : S}, (∀ j, l[j]? = all[k + j]?) → steps P call N all l s = some s' → s.c ≤ s'.c ∧ ∀ ρ a w (Q : Exit → Act → List Frame → World → Prop) cs, GOK ρ → TmOK N s.t ρ a → Lay ρ s.h w → Free ρ s.c s'.c → Go N s s' ρ a w (fun a' w' => Q .normal a' cs w') → wpOpsS P all.toArray Q (List.range' k l.length) a cs w
  | [], k, s, s', _, h => by
    have h : some s = some s' := h
    injection h with h
    subst h
    exact ⟨Nat.le_refl _, fun ρ a w Q cs g m l f hk => hk ρ a w m (.refl l) rfl⟩
  | o :: l, k, s, s', hl, h => by
    have h : bd (step P call N all o s) (steps P call N all l) = some s' := h
    rw [bd_some] at h
    obtain ⟨s1, h1, h2⟩ := h
    obtain ⟨c1, H1⟩ := step_sound hN hcall h1
    obtain ⟨c2, H2⟩ := steps_soundS hN hcall (k := k + 1) (fun j => by have := hl (j + 1); simp at this; rw [this]; congr 1; omega) h2
    refine ⟨Nat.le_trans c1 c2, fun ρ a w Q cs g m ly f hk => ?_⟩
    have ho : all.toArray[k]? = some o := by have := hl 0; simp at this; simpa using this.symm
    have key := H1 ρ a w (fun e a' w' => Q e a' cs w') (fun a' w' => wpOpsS P all.toArray Q (List.range' (k + 1) l.length) a' cs w') g m ly (f.left c2) fun ρ' a' w' m' rn d => H2 ρ' a' w' Q cs (g.le rn.le) m' rn.lay (rn.free f) fun ρ2 a2 w2 m2 rn2 d2 => hk ρ2 a2 w2 m2 (rn.trans rn2) (d2.trans d)
    show wpOpsS P all.toArray Q (k :: List.range' (k + 1) l.length) a cs w
    unfold wpOpsS
    simp only [ho]
    split
    · rename_i hw
      rw [if_pos hw] at key
      unfold Oper.wp at key
      split
      · rename_i w' hr
        rw [hr] at key
        exact key.elim
      · rename_i r hr
        exact key
    · rename_i hw
      rw [if_neg hw] at key
      exact key
theorem late_sound (hm : P.follows .mixedOrders = true) (hcall : CallOK P call) {fuel : Nat} {g : FuncId} {caps : List Value} {h h' : Hp} {c c' : Nat} (e : lateV P fuel call g caps h c = some (h', c')) : c ≤ c' ∧ ∀ ρ w (us : List Value), GOK ρ → DenL ρ caps us → Lay ρ h w → Free ρ c c' →
    CallsD P g us.toArray .returning w fun e u' w' => (∃ v, e = .returned v) ∧ u' = .returning ∧ ∃ ρ', Ran ρ h c w ρ' h' c' w' := by
  simp only [lateV, bd_some, gd_some, Bool.and_eq_true, Option.some.injEq, Prod.mk.injEq] at e
  obtain ⟨fn, hf, b, hb, sh, hsh, ⟨hN, hcap, hres⟩, t, ht, s1, hput, s2, hst, ⟨ex, s3⟩, hcode, hd, rfl, rfl⟩ := e
  have hN := ble_of hN
  have hcap := ble_of hcap
  have hres : fn.results = #[] := by
    split at hres
    · assumption
    · cases hres
  obtain ⟨o, rfl, hall, ho, hdst, hg⟩ := shapeR_some hsh
  obtain ⟨p1, p2, p3⟩ := put_sound (s := ⟨t, h, c⟩) hput hcap
  simp only at p1 p2 p3
  obtain ⟨c1, H1⟩ := steps_soundS hcap hcall (k := 1) (fun j => by rw [hall, show 1 + j = j + 1 by omega]; simp) hst
  obtain ⟨c2, H2⟩ := code_sound hm hcap hcall sh.rest hcode
  rw [p2] at c1 H1
  refine ⟨Nat.le_trans c1 c2, fun ρ w us gk d ly f => ?_⟩
  have hlen := d.len
  refine callsD_of_wpS hf hb fun c₀ cs hc => wpS_seq (wpS_region ?_)
  have tm0 : TmOK fn.ntmps t ρ { tmps := us.toArray ++ Array.replicate (fn.ntmps - us.toArray.size) undef, defers := [] } := by
    refine ⟨by simp; omega, fun k x hk => ?_⟩
    rcases startT_get ht (by omega) k x hk with ⟨_, h2⟩ | h2
    · rw [Nat.sub_zero] at h2
      obtain ⟨u, g1, g2⟩ := d.at h2
      have hlt := (List.getElem?_eq_some_iff.1 g1).1
      refine ⟨by omega, ?_⟩
      have : us[k] = u := (List.getElem?_eq_some_iff.1 g1).2
      simp [Array.getD_eq_getD_getElem?, Array.getElem?_append, hlt, this, g2]
    · cases h2
  obtain ⟨tm1, df⟩ := p3 ρ _ .nilIface tm0 (.flat rfl)
  have hrun : ∀ ev : Operand → Value, (execOp ev o).run P w = .ok .recover w := fun ev => by
    simp [execOp, ho, resolve, invoke, builtin]
  have hwt : ∀ y, Region.wanted o y = true := fun y => by unfold Region.wanted; rw [hg]
  have hrec : recoverD (c₀ :: cs) = none := by simp [recoverD, hc]
  have h0 : sh.all.toArray[0]? = some o := by rw [hall]; simp
  have hrg : List.range sh.all.toArray.size = 0 :: List.range' 1 sh.l.length := by
    rw [hall, List.range_eq_range']
    simp [List.range'_succ]
  rw [hrg]
  unfold wpOpsS
  simp only [h0, hwt, if_true, hrun, hrec, hdst]
  refine H1 ρ _ w _ _ gk tm1 (by rw [p1]; exact ly) (f.left c2) fun ρ1 a1 w1 m1 rn1 d1 => ?_
  rw [p1, p2] at rn1
  refine wpS_of_wp (H2 ρ1 a1 w1 _ (gk.le rn1.le) m1 rn1.lay (rn1.free f) fun ρ2 a2 w2 m2 rn2 d2 => ?_)
  have hr2 : (results fn a2.tmps).run P w2 = .ok (.tuple #[]) w2 := results_run (vs := []) (by rw [hres]; rfl)
  have fin : a2.defers = [] ∧ ∃ u', c₀ :: cs = { c₀ with mode := u' } :: cs ∧ ∃ v, (results fn a2.tmps).run P w2 = .ok v w2 ∧ ((∃ v', Ending.returned v = .returned v') ∧ u' = .returning ∧ ∃ ρ', Ran ρ h c w ρ' s3.h s3.c w2) :=
    ⟨by rw [d2, d1, df], .returning, by rw [← hc], _, hr2, ⟨_, rfl⟩, rfl, ρ2, rn1.trans rn2⟩
  cases ex with
  | normal => exact fin
  | ret => exact fin
  | exit j => cases hd
theorem leaves_ret {fn : Func} {tmps : Array Value} {R : Ending → World → Prop} {g : FuncId} {caps : List Value} {w : World} (hen : canEnter P g = true)
    (h : CallsD P g caps.toArray .returning w fun e u' w' => (∃ v, e = .returned v) ∧ u' = .returning ∧ ∃ v, (results fn tmps).run P w' = .ok v w' ∧ R (.returned v) w') : Leaves P fn tmps R [{ target := .fn (.func g) caps.toArray, args := #[] }] .returning w := by
  have hi : (invoke (.fn (.func g) caps.toArray) #[]).run P w = .ok (.enter g caps.toArray) w := by
    have := canEnter_sound hen caps.toArray w
    simpa [invoke] using this
  refine leaves_cons (by simp) hi (h.mono ?_)
  rintro e u' w' ⟨⟨v, rfl⟩, rfl, v2, h1, h2⟩
  exact ⟨v2, h1, h2⟩
theorem stepX_sound (hm : P.follows .mixedOrders = true) (fuel : Nat) {call : Callee} (ih : CallOK P call) : CallOK P (stepX P fuel call) := fun f args h c v h' c' e => by
    have e : bd P.funcs[f]? (fun fn => bd fn.body fun b => gd (Nat.ble args.length fn.ntmps && Nat.ble fn.ntmps cap0) (bd (startT args 0 .lf) fun t => Option.rec (motive := fun _ => Option (Value × Hp × Nat))
      (bd (code P call fuel fn.ntmps b ⟨t, h, c⟩) fun r => gd (done r.1) (bd (resV P r.2 fn.results.toList) fun l => some (mkRes l, r.2.h, r.2.c)))
      (fun sh => bd (code P call fuel fn.ntmps sh.c0 ⟨t, h, c⟩) fun r0 => gd (match r0.1 with
        | .normal => true
        | _ => false) (bd (steps P call fn.ntmps sh.os sh.os r0.2) fun s => bd (funV (evl s.t sh.x)) fun q => gd (canEnter P q.1) (bd (code P call fuel fn.ntmps sh.rest s) fun r => gd (done r.1)
          (bd (lateV P fuel call q.1 q.2 r.2.h r.2.c) fun z => bd (resV P ⟨r.2.t, z.1, z.2⟩ fn.results.toList) fun l => some (mkRes l, z.1, z.2)))))
      (shapeD b))) = some (v, h', c') := e
    simp only [bd_some, gd_some, Bool.and_eq_true] at e
    obtain ⟨fn, hf, b, hb, ⟨hN, hcap⟩, t, ht, e⟩ := e
    have hN := ble_of hN
    have hcap := ble_of hcap
    have tm0 : ∀ {ρ : Rn} {us : List Value}, DenL ρ args us → TmOK fn.ntmps t ρ { tmps := us.toArray ++ Array.replicate (fn.ntmps - us.toArray.size) undef, defers := [] } := fun {ρ us} d => by
      have hlen := d.len
      refine ⟨by simp; omega, fun k x hk => ?_⟩
      rcases startT_get ht (by omega) k x hk with ⟨_, h2⟩ | h2
      · rw [Nat.sub_zero] at h2
        obtain ⟨u, g1, g2⟩ := d.at h2
        have hlt := (List.getElem?_eq_some_iff.1 g1).1
        refine ⟨by omega, ?_⟩
        have : us[k] = u := (List.getElem?_eq_some_iff.1 g1).2
        simp [Array.getD_eq_getD_getElem?, Array.getElem?_append, hlt, this, g2]
      · cases h2
    cases hsh : shapeD b with
    | none =>
      rw [hsh] at e
      have e : bd (code P call fuel fn.ntmps b ⟨t, h, c⟩) (fun r => gd (done r.1) (bd (resV P r.2 fn.results.toList) fun l => some (mkRes l, r.2.h, r.2.c))) = some (v, h', c') := e
      simp only [bd_some, gd_some, Option.some.injEq, Prod.mk.injEq] at e
      obtain ⟨⟨ex, s'⟩, hcode, hd, l, hl, rfl, rfl, rfl⟩ := e
      obtain ⟨hc, H⟩ := code_sound hm hcap ih b hcode
      refine ⟨hc, fun ρ w us g d ly f => calls_of_wp hf hb (H ρ _ w _ g (tm0 d) ly f fun ρ' a' w' m' rn dd => ?_)⟩
      obtain ⟨vs, k1, k2⟩ := resV_sound m' rn.lay hl
      cases ex with
      | normal => exact ⟨dd, _, results_run k2, _, ρ', rfl, mkRes_den k1, rn⟩
      | ret => exact ⟨dd, _, results_run k2, _, ρ', rfl, mkRes_den k1, rn⟩
      | exit j => cases hd
    | some sh =>
      rw [hsh] at e
      have e : bd (code P call fuel fn.ntmps sh.c0 ⟨t, h, c⟩) (fun r0 => gd (match r0.1 with
        | .normal => true
        | _ => false) (bd (steps P call fn.ntmps sh.os sh.os r0.2) fun s => bd (funV (evl s.t sh.x)) fun q => gd (canEnter P q.1) (bd (code P call fuel fn.ntmps sh.rest s) fun r => gd (done r.1)
          (bd (lateV P fuel call q.1 q.2 r.2.h r.2.c) fun z => bd (resV P ⟨r.2.t, z.1, z.2⟩ fn.results.toList) fun l => some (mkRes l, z.1, z.2))))) = some (v, h', c') := e
      simp only [bd_some, gd_some, Option.some.injEq, Prod.mk.injEq] at e
      obtain ⟨⟨e0, s0⟩, hc0, he0, s1, hs1, q, hq, hen, ⟨ex, s2⟩, hc2, hd, z, hz, l, hl, rfl, rfl, rfl⟩ := e
      obtain ⟨id, od, rfl, hod, hdst, hgd⟩ := shapeD_some hsh
      have he0 : e0 = .normal := by cases e0 <;> first | rfl | cases he0
      subst he0
      obtain ⟨k0, H0⟩ := code_sound hm hcap ih sh.c0 hc0
      obtain ⟨k1, H1⟩ := steps_sound hcap ih (steps_app (x := [od]) hs1)
      obtain ⟨k2, H2⟩ := code_sound hm hcap ih sh.rest hc2
      obtain ⟨k3, H3⟩ := late_sound hm ih (show lateV P fuel call q.1 q.2 s2.h s2.c = some (z.1, z.2) from hz)
      simp only at k0 k1 k2 k3
      refine ⟨by omega, fun ρ w us g d ly f => calls_of_wp_defers hf hb (wp_seq ?_)⟩
      refine H0 ρ _ w _ g (tm0 d) ly (f.left (by omega)) fun ρ0 a0 w0 m0 rn0 d0 => ?_
      refine wp_seq (wp_region_list ?_)
      have f0 := rn0.free f
      rw [show ((sh.os ++ [od]).toArray).toList = sh.os ++ [od] from rfl]
      refine wpList_append (H1 ρ0 a0 w0 _ (g.le rn0.le) m0 rn0.lay (f0.left (by omega)) fun ρ1 a1 w1 m1 rn1 d1 => ?_)
      have rn01 := rn0.trans rn1
      have f1 := rn01.free f
      show wpList P _ _ [od] a1 w1
      unfold wpList
      have hwt : ∀ y, Region.wanted od y = true := fun y => by unfold Region.wanted; rw [hgd]
      rw [if_pos (hwt _)]
      left
      obtain ⟨us1, hev, dus⟩ := (ev_sound (g.le rn01.le) (funV_some hq) fun k _ hg => (m1.2 k _ hg).2 : Den ρ1 _ (a1.eval sh.x)).fn_inv
      unfold Oper.wp
      have hrun : (execOp a1.eval od).run P w1 = .ok (.defer { target := .fn (.func q.1) us1.toArray, args := #[] }) w1 := by
        simp [execOp, hod, resolve, hev, Deferred.ofValue]
      rw [hrun]
      simp only [Oper.upon, hdst]
      have m1' : TmOK fn.ntmps s1.t ρ1 { a1 with defers := { target := .fn (.func q.1) us1.toArray, args := #[] } :: a1.defers } := m1
      refine H2 ρ1 _ w1 _ (g.le rn01.le) m1' rn01.lay (f1.left k3) fun ρ2 a2 w2 m2 rn2 d2 => ?_
      have rn02 := rn01.trans rn2
      have hdf : a2.defers = [{ target := .fn (.func q.1) us1.toArray, args := #[] }] := by
        rw [d2]
        show _ :: a1.defers = _
        rw [d1, d0]
      have fin : Leaves P fn a2.tmps (fun e w' => ∃ u ρ', e = .returned u ∧ Den ρ' (mkRes l) u ∧ Ran ρ h c w ρ' z.1 z.2 w') a2.defers .returning w2 := by
        rw [hdf]
        refine leaves_ret hen ((H3 ρ2 w2 us1 (g.le rn02.le) (dus.le rn2.le) rn02.lay (rn02.free f)).mono ?_)
        rintro e u' w3 ⟨h1, h2, ρ3, rn3⟩
        obtain ⟨vs, e1, e2⟩ := resV_sound (s := ⟨s2.t, z.1, z.2⟩) (m2.le rn3.le) rn3.lay hl
        exact ⟨h1, h2, _, results_run e2, _, ρ3, rfl, mkRes_den e1, rn02.trans rn3⟩
      cases ex with
      | normal => exact fin
      | ret => exact fin
      | exit j => cases hd
theorem callX_sound (hm : P.follows .mixedOrders = true) (fuel : Nat) : ∀ n, CallOK P (callX P fuel n)
  | 0 => fun f args h c v h' c' e => by cases e
  | n + 1 => stepX_sound hm fuel (callX_sound hm fuel n)
end
end Cx
end Go.Proofs.YtonbjlkmcikbgaaGreatDoor
