/-
  Closed runs: some functions are known by their contracts; the program's variables that are laid.
-/
import Derived.Test.YtonbjlkmcikbgaaGreatDoorCxQ
namespace Go.Proofs.YtonbjlkmcikbgaaGreatDoor
open Go.RowKit
namespace Cx
set_option linter.unusedVariables false
set_option linter.unusedSimpArgs false
/-- runs, where some calls are told by orc -/
noncomputable def callO (P : Program) (fuel : Nat) (orc : Callee) (n : Nat) : Callee := Nat.rec (motive := fun _ => Callee) (fun _ _ _ _ => none) (fun _ ih f args h c => Option.rec (motive := fun _ => Option (Value × Hp × Nat)) (stepX P fuel ih f args h c) (fun r => some r) (orc f args h c)) n
/-- one function is told by g -/
noncomputable def orAt (F : FuncId) (g : List Value → Hp → Nat → Option (Value × Hp × Nat)) (rest : Callee) : Callee := fun f args h c => Bool.rec (motive := fun _ => Option (Value × Hp × Nat)) (rest f args h c) (g args h c) (Nat.beq f F)
noncomputable def orNone : Callee := fun _ _ _ _ => none
/-- told by a value alone -/
noncomputable def orVal (val : List Value → Option Value) (args : List Value) (h : Hp) (c : Nat) : Option (Value × Hp × Nat) := bd (val args) fun v => gd (flats args && flat v) (some (v, h, c))
section
variable {P : Program}
def OneOK (P : Program) (F : FuncId) (g : List Value → Hp → Nat → Option (Value × Hp × Nat)) : Prop := ∀ args h c v h' c', g args h c = some (v, h', c') → c ≤ c' ∧ ∀ ρ w (us : List Value), GOK ρ → DenL ρ args us → Lay ρ h w → Free ρ c c' →
    Calls P F us.toArray w fun e w' => ∃ u ρ', e = .returned u ∧ Den ρ' v u ∧ Ran ρ h c w ρ' h' c' w'
theorem DenL.flats_eq {ρ : Rn} : ∀ {l m : List Value}, DenL ρ l m → flats l = true → m = l
  | _, _, .nil, _ => rfl
  | _, _, .cons (x := x) (l := l) h t, hf => by
    unfold flats at hf
    split at hf
    · rename_i hx
      rw [h.flat_eq hx, DenL.flats_eq t hf]
    · cases hf
theorem orNone_ok : CallOK P orNone := fun f args h c v h' c' e => by cases e
theorem orAt_ok {F : FuncId} {g : List Value → Hp → Nat → Option (Value × Hp × Nat)} {rest : Callee} (hg : OneOK P F g) (hr : CallOK P rest) : CallOK P (orAt F g rest) := fun f args h c v h' c' e => by
  unfold orAt at e
  cases hb : Nat.beq f F with
  | true =>
    rw [hb] at e
    have := beq_of hb
    subst this
    exact hg args h c v h' c' e
  | false =>
    rw [hb] at e
    exact hr f args h c v h' c' e
theorem orVal_ok {F : FuncId} {val : List Value → Option Value} (H : ∀ args v, val args = some v → ∀ w, Calls P F args.toArray w fun e w' => e = .returned v ∧ Below w.heap.size w w') : OneOK P F (orVal val) := fun args h c v h' c' e => by
  simp only [orVal, bd_some, gd_some, Bool.and_eq_true, Option.some.injEq, Prod.mk.injEq] at e
  obtain ⟨u, hu, ⟨hf, hv⟩, rfl, rfl, rfl⟩ := e
  refine ⟨Nat.le_refl _, fun ρ w us g d l f => ?_⟩
  have := d.flats_eq hf
  subst this
  refine (H us u hu w).mono ?_
  rintro e w' ⟨rfl, hb⟩
  exact ⟨_, ρ, rfl, .flat hv, .of_below l hb⟩
theorem callO_sound (hm : P.follows .mixedOrders = true) (fuel : Nat) {orc : Callee} (ho : CallOK P orc) : ∀ n, CallOK P (callO P fuel orc n)
  | 0 => fun f args h c v h' c' e => by cases e
  | n + 1 => fun f args h c v h' c' e => by
    have ih := callO_sound hm fuel ho n
    have e : Option.rec (motive := fun _ => Option (Value × Hp × Nat)) (stepX P fuel (callO P fuel orc n) f args h c) (fun r => some r) (orc f args h c) = some (v, h', c') := e
    cases hr : orc f args h c with
    | none =>
      rw [hr] at e
      exact stepX_sound hm fuel ih f args h c v h' c' e
    | some r =>
      rw [hr] at e
      have e : some r = some (v, h', c') := e
      rw [e] at hr
      exact ho f args h c v h' c' hr
/-! the program's variables that are laid -/
/-- the variables' objects, by their blocks -/
noncomputable def hpK {β : Type} : List (Nat × Ob) → (Hp → β) → β
  | [], K => K .lf
  | x :: l, K => hpK l fun t => Tr.setK (some x.2) 48 t (gbase + x.1) K
noncomputable def hpT : List (Nat × Ob) → Hp
  | [] => .lf
  | x :: l => Tr.set (some x.2) 48 (hpT l) (gbase + x.1)
theorem hpK_eq {β : Type} : ∀ (l : List (Nat × Ob)) (K : Hp → β), hpK l K = K (hpT l)
  | [], K => rfl
  | x :: l, K => by
    show hpK l (fun t => Tr.setK (some x.2) 48 t (gbase + x.1) K) = _
    rw [hpK_eq l, Tr.setK_eq]
    rfl
/-- the first object of a block -/
def lkT : List (Nat × Ob) → Nat → Option Ob
  | [], _ => none
  | x :: l, g => if g = x.1 then some x.2 else lkT l g
def smallT (l : List (Nat × Ob)) : Bool := l.all fun x => Nat.blt x.1 1000000 && (Nat.beq x.2.k 0 && flats x.2.cs)
theorem hpT_get : ∀ (l : List (Nat × Ob)), smallT l = true → ∀ n o, (hpT l).get n = some o → gbase ≤ n ∧ lkT l (n - gbase) = some o ∧ o.k = 0 ∧ flats o.cs = true
  | [], _, n, o, h => by cases h
  | x :: l, hs, n, o, h => by
    simp only [smallT, List.all_cons, Bool.and_eq_true] at hs
    obtain ⟨⟨h1, h2, h3⟩, hs⟩ := hs
    have h1 := blt_of h1
    have e : (hpT (x :: l)).get n = if n = gbase + x.1 then some x.2 else (hpT l).get n := Tr.get_set _ _ _ _ _ (by unfold gbase; omega)
    rw [e] at h
    split at h
    · rename_i hn
      injection h with h
      subst h
      subst hn
      exact ⟨by omega, by simp [lkT], beq_of h2, h3⟩
    · rename_i hn
      obtain ⟨k1, k2, k3, k4⟩ := hpT_get l (by simpa [smallT, Bool.and_eq_true] using hs) n o h
      refine ⟨k1, ?_, k3, k4⟩
      unfold lkT
      rw [if_neg (by omega)]
      exact k2
/-- the variables' blocks, named -/
def rnT (l : List (Nat × Ob)) : Rn := fun n => if gbase ≤ n then some ⟨n - gbase, match lkT l (n - gbase) with
  | some o => o.cs.length
  | none => 0, 0⟩ else none
theorem rnT_ok (l : List (Nat × Ob)) : GOK (rnT l) := fun g => ⟨_, by unfold rnT; rw [if_pos (by omega)], by simp⟩
theorem rnT_free {l : List (Nat × Ob)} {c c' : Nat} (h : c' ≤ gbase) : Free (rnT l) c c' := fun n _ h2 => by
  unfold rnT
  rw [if_neg (by omega)]
/-- the variables hold what they are told to -/
def LaidT (l : List (Nat × Ob)) (w : World) : Prop := ∀ g o, lkT l g = some o → w.heap[g]? = some (.cells o.cs.toArray o.ty (0, 0))
theorem lay_hpT {l : List (Nat × Ob)} (hs : smallT l = true) {w : World} (h : LaidT l w) : Lay (rnT l) (hpT l) w := by
  refine ⟨fun n o e => ?_, fun n m o o' x y e1 e2 ex ey exy => ?_⟩
  · obtain ⟨k1, k2, k3, k4⟩ := hpT_get l hs n o e
    refine ⟨⟨n - gbase, o.cs.length, 0⟩, o.cs.toArray, ?_, k3.symm, by simp, h _ _ k2, by simp, ?_⟩
    · unfold rnT
      rw [if_pos k1, k2]
    · simpa using DenL.flat k4
  · obtain ⟨k1, _⟩ := hpT_get l hs n o e1
    obtain ⟨k2, _⟩ := hpT_get l hs m o' e2
    unfold rnT at ex ey
    rw [if_pos k1] at ex
    rw [if_pos k2] at ey
    injection ex with ex
    injection ey with ey
    subst ex ey
    simp only at exy
    omega
theorem veqs_eq {a b : List Value} (h : veqs a b = true) : a = b := (veq_n _).2 a b (Nat.le_refl _) h
/-- the variables hold what they held -/
noncomputable def keptT : List (Nat × Ob) → Hp → Bool
  | [], _ => true
  | x :: l, h => match h.get (gbase + x.1) with
    | some o => match Nat.beq o.ty x.2.ty && veqs o.cs x.2.cs with
      | true => keptT l h
      | false => false
    | none => false
theorem keptT_get : ∀ {l : List (Nat × Ob)} {h : Hp}, keptT l h = true → ∀ g o, lkT l g = some o → ∃ k, h.get (gbase + g) = some ⟨o.ty, k, o.cs⟩
  | x :: l, h, hk, g, o, e => by
    unfold keptT at hk
    split at hk
    · rename_i o' ho
      split at hk
      · rename_i hb
        simp only [Bool.and_eq_true] at hb
        unfold lkT at e
        split at e
        · rename_i hg
          injection e with e
          subst e
          subst hg
          obtain ⟨ty, k, cs⟩ := o'
          have h1 := beq_of hb.1
          have h2 := veqs_eq hb.2
          simp only at h1 h2
          subst h1 h2
          exact ⟨k, ho⟩
        · exact keptT_get hk g o e
      · cases hk
    · cases hk
/-- what there was stays, but for the variables: they hold what they held -/
theorem ran_below {l : List (Nat × Ob)} (hs : smallT l = true) {w : World} (hw : LaidT l w) {ρ' : Rn} {h' : Hp} {c' : Nat} {w' : World} (rn : Ran (rnT l) (hpT l) 0 w ρ' h' c' w') (hk : ∀ g o, lkT l g = some o → ∃ k, h'.get (gbase + g) = some ⟨o.ty, k, o.cs⟩) : Below w.heap.size w w' := by
  refine ⟨rn.os, rn.tape, rn.output, rn.size, fun i hi => ?_⟩
  by_cases ho : OwnF (rnT l) (hpT l).get i
  · obtain ⟨n, o, x, e1, e2, e3⟩ := ho
    obtain ⟨k1, k2, k3, k4⟩ := hpT_get l hs n o e1
    have ex : x.b = n - gbase ∧ x.sz = o.cs.length := by
      unfold rnT at e2
      rw [if_pos k1, k2] at e2
      have e2 := Option.some.inj e2
      exact ⟨(congrArg Bk.b e2).symm, (congrArg Bk.sz e2).symm⟩
    obtain ⟨k, hk⟩ := hk _ _ k2
    rw [Nat.add_sub_of_le k1] at hk
    obtain ⟨y, us, f1, f2, f3, f4, f5, f6⟩ := rn.lay.ob _ _ hk
    rw [rn.le _ _ e2] at f1
    have f1 := Option.some.inj f1
    rw [← f1] at f3 f4
    rw [ex.2] at f3
    have f6 : DenL ρ' o.cs (us.toList.take o.cs.length) := f6
    rw [List.take_of_length_le (by simp; omega)] at f6
    have := f6.flats_eq k4
    rw [← e3, f4, ex.1, hw _ _ k2, ← this]
  · exact rn.frame i hi ho
noncomputable def runO (P : Program) (fuel : Nat) (orc : Callee) (T : List (Nat × Ob)) (n : Nat) (f : FuncId) (args : List Value) : Option (Value × Hp × Nat) := hpK T fun h => bd (callO P fuel orc n f args h 0) fun r => gd (Nat.ble r.2.2 gbase && keptT T r.2.1) (some r)
theorem runO_sound (hm : P.follows .mixedOrders = true) {fuel n : Nat} {orc : Callee} (ho : CallOK P orc) {T : List (Nat × Ob)} (hs : smallT T = true) {f : FuncId} {args : List Value} {v : Value} {h' : Hp} {c' : Nat} (ha : flats args = true) (hr : runO P fuel orc T n f args = some (v, h', c')) {w : World} (hw : LaidT T w) :
    Calls P f args.toArray w fun e w' => ∃ u ρ', e = .returned u ∧ Den ρ' v u ∧ Ran (rnT T) (hpT T) 0 w ρ' h' c' w' ∧ Below w.heap.size w w' := by
  unfold runO at hr
  rw [hpK_eq] at hr
  simp only [bd_some, gd_some, Bool.and_eq_true, Option.some.injEq] at hr
  obtain ⟨⟨v', h2, c2⟩, hc, ⟨hb, hk⟩, e⟩ := hr
  injection e with e1 e2
  injection e2 with e2 e3
  subst e1 e2 e3
  refine ((callO_sound hm fuel ho n f args (hpT T) 0 _ _ _ hc).2 (rnT T) w args (rnT_ok T) (DenL.flat ha) (lay_hpT hs hw) (rnT_free (ble_of hb))).mono ?_
  rintro e w' ⟨u', ρ', rfl, d, rn⟩
  exact ⟨u', ρ', rfl, d, rn, ran_below hs hw rn (keptT_get hk)⟩
noncomputable def saysO (P : Program) (fuel : Nat) (orc : Callee) (T : List (Nat × Ob)) (n : Nat) (f : FuncId) (args : List Value) (v : Value) : Bool := match runO P fuel orc T n f args with
  | some r => veq r.1 v
  | none => false
theorem closed_saysO (hm : P.follows .mixedOrders = true) {fuel n : Nat} {orc : Callee} (ho : CallOK P orc) {T : List (Nat × Ob)} (hs : smallT T = true) {f : FuncId} {args : List Value} {v : Value} (ha : flats args = true) (hv : flat v = true) (hr : saysO P fuel orc T n f args v = true) {w : World} (hw : LaidT T w) :
    Calls P f args.toArray w fun e w' => e = .returned v ∧ Below w.heap.size w w' := by
  unfold saysO at hr
  split at hr
  · rename_i r hc
    obtain ⟨u, h', c'⟩ := r
    have := veq_eq hr
    subst this
    refine (runO_sound hm ho hs ha hc hw).mono ?_
    rintro e w' ⟨u', ρ', rfl, d, rn, hb⟩
    exact ⟨by rw [d.flat_eq hv], hb⟩
  · cases hr
/-- where one variable's number is not known: it is told what that variable holds at the end -/
noncomputable def saysM (P : Program) (fuel : Nat) (orc : Callee) (x : Nat × Ob) (T : List (Nat × Ob)) (n : Nat) (f : FuncId) (args : List Value) (v : Value) : Bool × Option Ob := hpK (x :: T) fun h => match callO P fuel orc n f args h 0 with
  | some (u, h', c') => (veq u v && (Nat.ble c' gbase && keptT T h'), h'.get (gbase + x.1))
  | none => (false, none)
theorem closed_saysM (hm : P.follows .mixedOrders = true) {fuel n : Nat} {orc : Callee} (ho : CallOK P orc) {x : Nat × Ob} {T : List (Nat × Ob)} (hs : smallT (x :: T) = true) {f : FuncId} {args : List Value} {v : Value} (ha : flats args = true) (hv : flat v = true) (hr : saysM P fuel orc x T n f args v = (true, some x.2)) {w : World} (hw : LaidT (x :: T) w) :
    Calls P f args.toArray w fun e w' => e = .returned v ∧ Below w.heap.size w w' := by
  unfold saysM at hr
  rw [hpK_eq] at hr
  split at hr
  · rename_i u h' c' hc
    simp only [Prod.mk.injEq, Bool.and_eq_true] at hr
    obtain ⟨⟨h1, h2, h3⟩, h4⟩ := hr
    have := veq_eq h1
    subst this
    refine ((callO_sound hm fuel ho n f args (hpT (x :: T)) 0 _ _ _ hc).2 (rnT (x :: T)) w args (rnT_ok _) (DenL.flat ha) (lay_hpT hs hw) (rnT_free (ble_of h2))).mono ?_
    rintro e w' ⟨u', ρ', rfl, d, rn⟩
    refine ⟨by rw [d.flat_eq hv], ran_below hs hw rn fun g o hg => ?_⟩
    unfold lkT at hg
    split at hg
    · rename_i hgx
      injection hg with hg
      subst hg hgx
      exact ⟨_, h4⟩
    · exact keptT_get h3 g o hg
  · cases hr
end
end Cx
end Go.Proofs.YtonbjlkmcikbgaaGreatDoor
