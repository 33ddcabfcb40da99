/-
  Closed runs: the operations, put together.
-/
import Derived.Test.YtonbjlkmcikbgaaGreatDoorCxE
namespace Go.Proofs.YtonbjlkmcikbgaaGreatDoor
open Go.RowKit
namespace Cx
set_option linter.unusedVariables false
set_option linter.unusedSimpArgs false
section
variable {P : Program} {t : Tm} {h : Hp} {c : Nat} {o : Oper} {r : OR}
theorem two_some {l : List Value} {q : Value × Value} (h : two l = some q) : l = [q.1, q.2] := by
  unfold two at h; split at h
  · injection h with h; subst h; rfl
  · cases h
theorem twoT_some {l : List TypeId} {q : TypeId × TypeId} (h : twoT l = some q) : l = [q.1, q.2] := by
  unfold twoT at h; split at h
  · injection h with h; subst h; rfl
  · cases h
theorem two_map {ρ : Rn} {ev : Operand → Value} {args : Array Operand} {a b : Value} (m : EvOK ρ t ev args.toList) (hl : evls t args.toList = some [a, b]) : ∃ u v, Den ρ a u ∧ Den ρ b v ∧ args.map ev = #[u, v] := by
  have := evls_sound m hl
  cases h1 : args.toList.map ev with
  | nil => rw [h1] at this; cases this
  | cons u l =>
    rw [h1] at this
    cases this with
    | cons d1 tl =>
      cases tl with
      | cons d2 tl =>
        cases tl
        exact ⟨_, _, d1, d2, by apply Array.ext'; simpa using h1⟩
theorem one_map {ρ : Rn} {ev : Operand → Value} {args : Array Operand} {a : Value} (m : EvOK ρ t ev args.toList) (hl : evls t args.toList = some [a]) : ∃ u, Den ρ a u ∧ args.map ev = #[u] := by
  have := evls_sound m hl
  cases h1 : args.toList.map ev with
  | nil => rw [h1] at this; cases this
  | cons u l =>
    rw [h1] at this
    cases this with
    | cons d1 tl =>
      cases tl
      exact ⟨_, d1, by apply Array.ext'; simpa using h1⟩
theorem arr2 {ts : Array TypeId} {a b : TypeId} (h : ts.toList = [a, b]) : ts = #[a, b] := by apply Array.ext'; simpa using h
theorem callArgs {ρ : Rn} {ev : Operand → Value} {k : Call} (ho : o.op = .call k) (m : EvOK ρ t ev o.op.operands.toList) : EvOK ρ t ev k.args.toList := fun x hx => m x (by
  simp only [ho, Op.operands, Call.operands, Array.toList_append, List.mem_append]
  exact .inr hx)
theorem opAppend_sound {k : Call} (ho : o.op = .call k) (hk : k.callee = .builtin .append) (hr : opAppend P t h c k.args.toList k.argTypes.toList = some r) : OpOK P t h c o r := by
  simp only [opAppend, bd_some, gd_some, Bool.and_eq_true] at hr
  obtain ⟨l, hl, q, hq, e, he, el, hel, hsrc, ie, hie, z, hz, ⟨h1, h2, h3⟩, hr⟩ := hr
  obtain ⟨hf, i, hi, hz⟩ := zeroV_some hz
  rw [hie] at hi
  injection hi with hi
  subst hi
  have hzc := cells_len (ρ := fun _ => none) hf
  obtain ⟨v, h', c', rfl, hcc, G⟩ := appV_sound (P := P) (sliceD_some hel) hsrc hie hz (by rw [hzc, beq_of h3]) (blt_of h2) (ble_of h1) hr
  refine ⟨hcc, fun ρ w ev m ly f => ?_⟩
  have hl' := two_some hq
  subst hl'
  obtain ⟨u, y, d1, d2, hm⟩ := two_map (callArgs ho m) hl
  obtain ⟨q', w', ρ', g1, g2, g3⟩ := G ρ w u y o.type d1 d2 ly f
  refine ⟨_, q', w', ρ', ?_, .inl rfl, g2, g3⟩
  have ht := arr2 (twoT_some he)
  simp [execOp, ho, resolve, hk, invoke, builtin, hm, ht, g1]
theorem opCopy_sound {k : Call} (ho : o.op = .call k) (hk : k.callee = .builtin .copy) (hr : opCopy P t h c k.args.toList k.argTypes.toList = some r) : OpOK P t h c o r := by
  simp only [opCopy, bd_some] at hr
  obtain ⟨l, hl, q, hq, e, he, el, hel, ie, hie, hr⟩ := hr
  split at hr
  case h_2 => cases hr
  rename_i base n cap hq1
  simp only [bd_some, gd_some, Bool.or_eq_true] at hr
  obtain ⟨m, hm, hs, cs, hcs, hr⟩ := hr
  have hl' := two_some hq
  rw [hq1] at hl'
  subst hl'
  have hu := sliceD_some hel
  have ht := arr2 (twoT_some he)
  have hs : isSl q.2 = true ∨ Nat.min m n = m := hs.imp id beq_of
  have common : ∀ {ρ : Rn} {w : World} {ev : Operand → Value}, EvOK ρ t ev o.op.operands.toList → Lay ρ h w → ∃ u y us, Den ρ (.slice base n cap) u ∧ DenL ρ cs us ∧ k.args.map ev = #[u, y] ∧ (∀ w', (Builtin.lenOf y).run P w' = .ok m w') ∧ (Builtin.firstCells ie.size (Nat.min m n) y).run P w = .ok us.toArray w := fun mm ly => by
    obtain ⟨u, y, d1, d2, hmap⟩ := two_map (callArgs ho mm) hl
    obtain ⟨us, g1, g2, g3, g4⟩ := firstV_sound ly hcs d2 hm hs
    exact ⟨u, y, us, d1, g1, hmap, g3, g4 _ fun i _ => rfl⟩
  cases base with
  | some a =>
    simp only [bd_some, Option.some.injEq] at hr
    obtain ⟨h', hset, rfl⟩ := hr
    refine ⟨Nat.le_refl _, fun ρ w ev mm ly f => ?_⟩
    obtain ⟨u, y, us, d1, d2, hmap, g3, g4⟩ := common mm ly
    obtain ⟨bk, q', k1, k2, rfl, _⟩ := d1.slc_inv
    obtain ⟨w', hst, rn⟩ := setV_sound (P := P) (c := c) hset ly d2 k1
    refine ⟨_, .int .i64 (Nat.min m n), w', ρ, ?_, .inl rfl, .flat rfl, rn⟩
    simp [execOp, ho, resolve, hk, invoke, builtin, hmap, ht, Builtin.copy_, run_underlying hu, g3, sizeOf, typeInfo, hie, g4, hst, goInt]
  | none =>
    simp only [Option.some.injEq] at hr
    subst hr
    refine .pure fun ρ w ev mm ly => ?_
    obtain ⟨u, y, us, d1, d2, hmap, g3, g4⟩ := common mm ly
    have := d1.nil_slc_inv
    subst this
    refine ⟨.int .i64 (Nat.min m n), ?_, .flat rfl⟩
    simp [execOp, ho, resolve, hk, invoke, builtin, hmap, ht, Builtin.copy_, run_underlying hu, g3, sizeOf, typeInfo, hie, g4, goInt]
theorem opLen_sound {k : Call} (ho : o.op = .call k) (hk : k.callee = .builtin .len) (hr : opLen P t h c k.args.toList k.argTypes.toList = some r) : OpOK P t h c o r := by
  simp only [opLen, bd_some] at hr
  obtain ⟨l, hl, hr⟩ := hr
  split at hr
  case h_2 => cases hr
  rename_i _ _ v e ht
  have ht : k.argTypes = #[e] := by apply Array.ext'; simpa using ht
  split at hr
  · rename_i e' a n cap hu
    injection hr with hr
    subst hr
    refine .pure fun ρ w ev m _ => ⟨.int .i64 n, ?_, .flat rfl⟩
    obtain ⟨u, d, hmap⟩ := one_map (callArgs ho m) hl
    cases a with
    | none =>
      have := d.nil_slc_inv
      subst this
      simp [execOp, ho, resolve, hk, invoke, builtin, hmap, ht, Builtin.len_, run_underlying hu, goInt]
    | some a =>
      obtain ⟨bk, q', k1, k2, rfl, _⟩ := d.slc_inv
      simp [execOp, ho, resolve, hk, invoke, builtin, hmap, ht, Builtin.len_, run_underlying hu, goInt]
  · rename_i s hu
    injection hr with hr
    subst hr
    refine .pure fun ρ w ev m _ => ⟨.int .i64 s.data.size, ?_, .flat rfl⟩
    obtain ⟨u, d, hmap⟩ := one_map (callArgs ho m) hl
    have := d.str_inv
    subst this
    simp [execOp, ho, resolve, hk, invoke, builtin, hmap, ht, Builtin.len_, run_underlying hu, goInt]
  · cases hr
theorem canEnter_sound {f : FuncId} (hc : canEnter P f = true) (args : Array Value) (w : World) : (callFunc f args).run P w = .ok (.enter f args) w := by
  unfold canEnter at hc
  split at hc
  · rename_i fn hf
    split at hc
    · rename_i cd hb
      have hn : fn.name ≠ "runtime.NumGoroutine" := by simpa using hc
      simp [callFunc, program, Sem.run, hf, hb, hn]
    · cases hc
  · cases hc
theorem opCall_sound {k : Call} {x : Operand} (ho : o.op = .call k) (hk : k.callee = .value x) (hr : opCall P t x k.args.toList = some r) : OpOK P t h c o r := by
  simp only [opCall, bd_some, gd_some, Option.some.injEq] at hr
  obtain ⟨q, hq, hc, l, hl, rfl⟩ := hr
  intro ρ w ev m ly
  have hx : x ∈ o.op.operands.toList := by simp [ho, Op.operands, Call.operands, hk]
  obtain ⟨us, e1, e2⟩ := (m x hx _ (funV_some hq)).fn_inv
  have d := evls_sound (callArgs ho m) hl
  refine ⟨k.args.toList.map ev ++ us, ?_, d.append e2⟩
  have hm : k.args.map ev ++ (⟨us⟩ : Array Value) = (k.args.toList.map ev ++ us).toArray := by apply Array.ext'; simp
  simp [execOp, ho, resolve, hk, e1, Deferred.ofValue, invoke, canEnter_sound hc, hm]
theorem opInvoke_sound {k : Call} {x : Operand} {name : String} (ho : o.op = .call k) (hk : k.callee = .invoke x name) (hr : opInvoke P t x name k.args.toList = some r) : OpOK P t h c o r := by
  simp only [opInvoke, bd_some, gd_some, Option.some.injEq] at hr
  obtain ⟨q, hq, f, hf, hc, l, hl, rfl⟩ := hr
  intro ρ w ev m ly
  have hx : x ∈ o.op.operands.toList := by simp [ho, Op.operands, Call.operands, hk]
  obtain ⟨u, e1, e2⟩ := (m x hx _ (ifcV_some hq)).ifc_inv
  have d := evls_sound (callArgs ho m) hl
  refine ⟨u :: k.args.toList.map ev, ?_, .cons e2 d⟩
  have hmeth : (method (P.types.size + Made.depth) q.1 u name).run P w = .ok (f, u) w := by
    simp only [methodV, bd_some, gd_some] at hf
    obtain ⟨i, hi, mm, hmm, hpath, qf, hqf, hfin⟩ := hf
    have hp : mm.path = #[] := by
      split at hpath
      · rename_i hp; apply Array.ext'; simpa using hp
      · cases hpath
    obtain ⟨qf, pr⟩ := qf
    rw [show P.types.size + Made.depth = (P.types.size + (Made.depth - 1)) + 1 from rfl]
    unfold method
    split at hfin
    · rename_i e' hu
      simp only [gd_some, Option.some.injEq] at hfin
      obtain ⟨hpr, rfl⟩ := hfin
      have hpr : pr = true := hpr
      subst hpr
      simp [typeInfo, hi, hmm, hp, follow, hqf, receiverAt, run_underlying hu, Place.get]
    · rename_i d hne hd
      simp only [gd_some, Option.some.injEq] at hfin
      obtain ⟨hpr, rfl⟩ := hfin
      have hpr : pr = false := by simpa using hpr
      subst hpr
      have hrec : ∀ wr, (receiverAt q.1 (.val u) false wr).run P w = .ok u w := fun wr => by
        simp only [receiverAt, Sem.run_bind, run_underlying hd, Result.andThen_ok]
        cases d <;> first | rfl | exact absurd rfl (hne _)
      simp [typeInfo, hi, hmm, hp, follow, hqf, hrec]
    · cases hfin
  have hm : #[u] ++ (k.args.map ev) = (u :: k.args.toList.map ev).toArray := by apply Array.ext'; simp
  have hm' : #[Value.iface q.1 u] ++ k.args.map ev = (Value.iface q.1 u :: k.args.toList.map ev).toArray := by apply Array.ext'; simp
  simp only [execOp, ho, resolve, hk, e1, hm', Sem.run_bind, Sem.run_pure, Result.andThen_ok, invoke]
  simp [callMethod, hmeth, canEnter_sound hc, List.take_of_length_le]

theorem bnd_sound {ρ : Rn} {ev : Operand → Value} {l : List Operand} (m : EvOK ρ t ev l) {x : Option Operand} (hx : ∀ y, x = some y → y ∈ l) {d i : Nat} (hb : bndV t x d = some i) (y : Nat) (code : BoundsCode) (hi : i ≤ y) (w : World) :
    (x = none ∧ i = d) ∨ ∃ z, x = some z ∧ (Instr.sliceBound (ev z) y code).run P w = .ok i w := by
  cases x with
  | none => simp only [bndV, Option.some.injEq] at hb; exact .inl ⟨rfl, hb.symm⟩
  | some z =>
    obtain ⟨k, hk⟩ := natV_some hb
    have e := (m z (hx z rfl) _ hk).int_inv
    exact .inr ⟨z, rfl, by simp [Instr.sliceBound, asIntOf, e, hi]⟩
theorem bounds_sound {ρ : Rn} {ev : Operand → Value} {lst : List Operand} (m : EvOK ρ t ev lst) {lo hi mx : Option Operand} (h1 : ∀ y, lo = some y → y ∈ lst) (h2 : ∀ y, hi = some y → y ∈ lst) (h3 : ∀ y, mx = some y → y ∈ lst) {n cap l r q : Nat}
    (b1 : bndV t lo 0 = some l) (b2 : bndV t hi n = some r) (b3 : bndV t mx cap = some q) (e1 : l ≤ r) (e2 : r ≤ q) (e3 : q ≤ cap) (hmx : mx = none ∨ hi ≠ none) (s : Bool) (w : World) :
    (Instr.sliceBounds s n cap (lo.map ev) (hi.map ev) (mx.map ev)).run P w = .ok (l, r, q) w := by
  unfold Instr.sliceBounds
  rcases bnd_sound (P := P) m h3 b3 cap (if s then .slice3Acap else .slice3Alen) e3 w with ⟨rfl, rfl⟩ | ⟨z3, rfl, g3⟩
  · rcases bnd_sound (P := P) m h2 b2 q (if s then .sliceAcap else .sliceAlen) e2 w with ⟨rfl, rfl⟩ | ⟨z2, rfl, g2⟩
    · rcases bnd_sound (P := P) m h1 b1 r .sliceB e1 w with ⟨rfl, rfl⟩ | ⟨z1, rfl, g1⟩
      · simp
      · simp [g1]
    · rcases bnd_sound (P := P) m h1 b1 r .sliceB e1 w with ⟨rfl, rfl⟩ | ⟨z1, rfl, g1⟩
      · simp [g2]
      · simp [g1, g2]
  · rcases bnd_sound (P := P) m h2 b2 q .slice3B e2 w with ⟨rfl, rfl⟩ | ⟨z2, rfl, g2⟩
    · rcases hmx with h | h
      · cases h
      · exact absurd rfl h
    · rcases bnd_sound (P := P) m h1 b1 r .slice3C e1 w with ⟨rfl, rfl⟩ | ⟨z1, rfl, g1⟩
      · simp [g2, g3]
      · simp [g1, g2, g3]

/-- what a cut yields, given what it is cut of -/
theorem cutV_sound {size n cap : Nat} {base : Option Addr} {lo hi mx : Option Operand} (hr : cutV t h c size base n cap lo hi mx = some r) :
    ∃ v, r = .val v h c ∧ ∀ ρ ev lst u s w, EvOK ρ t ev lst → (∀ y, lo = some y → y ∈ lst) → (∀ y, hi = some y → y ∈ lst) → (∀ y, mx = some y → y ∈ lst) → Den ρ (.slice base n cap) u →
      ∃ A q l' r' m', u = .slice A n q ∧ (Instr.sliceBounds s n q (lo.map ev) (hi.map ev) (mx.map ev)).run P w = .ok (l', r', m') w ∧ Den ρ v (.slice (if m' = l' then A else A.map (·.add (l' * size))) (r' - l') (m' - l')) := by
  simp only [cutV, bd_some, gd_some, Bool.and_eq_true, Bool.or_eq_true] at hr
  obtain ⟨l, hl, rr, hrr, m, hm, ⟨hmx, h1, h2, h3⟩, hr⟩ := hr
  have h1 := ble_of h1
  have h2 := ble_of h2
  have h3 := ble_of h3
  have hmx : mx = none ∨ hi ≠ none := by
    rcases hmx with hmx | hmx
    · exact .inl (by simpa using hmx)
    · exact .inr (by intro e; rw [e] at hmx; cases hmx)
  cases base with
  | none =>
    simp only [Option.some.injEq] at hr
    subst hr
    refine ⟨_, rfl, fun ρ ev lst u s w me m1 m2 m3 du => ?_⟩
    have := du.nil_slc_inv
    subst this
    refine ⟨none, cap, l, rr, m, rfl, bounds_sound me m1 m2 m3 hl hrr hm h1 h2 h3 hmx s w, ?_⟩
    have : (if m = l then none else Option.map (fun x => Addr.add x (l * size)) none : Option Addr) = none := by split <;> rfl
    rw [this]
    exact .flat rfl
  | some a =>
    simp only at hr
    split at hr
    · rename_i hcap
      have hcap := beq_of hcap
      simp only [gd_some, Bool.and_eq_true] at hr
      obtain ⟨⟨hl0, hrn⟩, hr⟩ := hr
      have hl0 := beq_of hl0
      have hrn := ble_of hrn
      subst hl0
      have aa : ∀ (A : Addr) (q : Nat), (if q = 0 then some A else Option.map (fun x => Addr.add x (0 * size)) (some A) : Option Addr) = some A := fun A q => by
        split
        · rfl
        · simp [Addr.add]
      cases mx with
      | none =>
        simp only [Option.some.injEq] at hr
        subst hr
        refine ⟨_, rfl, fun ρ ev lst u s w me m1 m2 m3 du => ?_⟩
        obtain ⟨bk, q, g1, g2, rfl, ⟨g3, _⟩ | ⟨_, g4, g5, g6⟩⟩ := du.slc_inv
        · exact absurd hcap g3
        refine ⟨some ⟨bk.b, a.off, none⟩, q, 0, rr, q, rfl, bounds_sound me m1 m2 m3 hl hrr (by rfl) h1 (by omega) (Nat.le_refl _) hmx s w, ?_⟩
        rw [aa]
        obtain ⟨ab, ao, as⟩ := a
        simp only at g2
        subst g2
        exact .grown g1 (by omega) g5 g6
      | some z =>
        simp only [gd_some, Bool.and_eq_true, Option.some.injEq] at hr
        obtain ⟨⟨hmn, hmu⟩, rfl⟩ := hr
        have hmn := ble_of hmn
        have hmu := blt_of hmu
        refine ⟨_, rfl, fun ρ ev lst u s w me m1 m2 m3 du => ?_⟩
        obtain ⟨bk, q, g1, g2, rfl, ⟨g3, _⟩ | ⟨_, g4, g5, g6⟩⟩ := du.slc_inv
        · exact absurd hcap g3
        refine ⟨some ⟨bk.b, a.off, none⟩, q, 0, rr, m, rfl, bounds_sound me m1 m2 m3 hl hrr (show bndV t (some z) q = some m from hm) h1 h2 (by omega) hmx s w, ?_⟩
        rw [aa]
        obtain ⟨ab, ao, as⟩ := a
        simp only at g2
        subst g2
        exact .slc g1 (by omega)
    · rename_i hcap
      have hcap := beq_no hcap
      simp only [gd_some] at hr
      obtain ⟨hcu, hr⟩ := hr
      have hcu := blt_of hcu
      have fin : ∀ {v : Value}, r = .val v h c → (v = .slice (if m = l then some a else some ⟨a.block, a.off + l * size, none⟩) (rr - l) (m - l)) → ∀ ρ ev lst u s w, EvOK ρ t ev lst → (∀ y, lo = some y → y ∈ lst) → (∀ y, hi = some y → y ∈ lst) → (∀ y, mx = some y → y ∈ lst) → Den ρ (.slice (some a) n cap) u →
          ∃ A q l' r' m', u = .slice A n q ∧ (Instr.sliceBounds s n q (lo.map ev) (hi.map ev) (mx.map ev)).run P w = .ok (l', r', m') w ∧ Den ρ v (.slice (if m' = l' then A else A.map (·.add (l' * size))) (r' - l') (m' - l')) := by
        intro v _ hv ρ ev lst u s w me m1 m2 m3 du
        obtain ⟨bk, q, g1, g2, rfl, ⟨g3, rfl⟩ | ⟨g3, _⟩⟩ := du.slc_inv
        · refine ⟨some ⟨bk.b, a.off, none⟩, q, l, rr, m, rfl, bounds_sound me m1 m2 m3 hl hrr hm h1 h2 h3 hmx s w, ?_⟩
          have hne : m - l ≠ unk := by omega
          obtain ⟨ab, ao, as⟩ := a
          simp only at g2
          subst g2
          rw [hv]
          by_cases hml : m = l
          · rw [if_pos hml, if_pos hml]
            exact .slc g1 hne
          · rw [if_neg hml, if_neg hml]
            simp only [Option.map_some, Addr.add_mid]
            exact .slc g1 hne
        · exact absurd g3 hcap
      split at hr
      · rename_i hml
        injection hr with hr
        subst hr
        exact ⟨_, rfl, fin rfl (by rw [if_pos (beq_of hml)])⟩
      · rename_i hml
        injection hr with hr
        subst hr
        exact ⟨_, rfl, fin rfl (by rw [if_neg (beq_no hml)])⟩

theorem opSlice_sound {e : TypeId} {x : Operand} {lo hi mx : Option Operand} (ho : o.op = .slice e x lo hi mx) (hr : opSlice P t h c o e x lo hi mx = some r) : OpOK P t h c o r := by
  have m1 : ∀ y, lo = some y → y ∈ o.op.operands.toList := fun y e => by simp [ho, Op.operands, e]
  have m2 : ∀ y, hi = some y → y ∈ o.op.operands.toList := fun y e => by simp [ho, Op.operands, e]
  have m3 : ∀ y, mx = some y → y ∈ o.op.operands.toList := fun y e => by simp [ho, Op.operands, e]
  unfold opSlice at hr
  split at hr
  · rename_i base n cap hx
    simp only [bd_some] at hr
    obtain ⟨el, hel, ie, hie, hr⟩ := hr
    obtain ⟨v, rfl, G⟩ := cutV_sound (P := P) hr
    have hu := sliceD_some hel
    refine .pure fun ρ w ev m _ => ?_
    obtain ⟨A, q, l', r', m', g1, g2, g3⟩ := G ρ ev _ _ true w m m1 m2 m3 (m x (by simp [ho, Op.operands]) _ hx)
    exact ⟨_, by simp [execOp, ho, Instr.sliceAt, Instr.slice, run_underlying hu, g1, g2, sizeOf, typeInfo, hie], g3⟩
  · rename_i a hx
    simp only [bd_some, gd_some] at hr
    obtain ⟨q, hq, ie, hie, hlt, hr⟩ := hr
    obtain ⟨v, rfl, G⟩ := cutV_sound (P := P) hr
    have hu := arrayD_some hq
    refine .pure fun ρ w ev m _ => ?_
    obtain ⟨bk, k1, k2, k3⟩ := (m x (by simp [ho, Op.operands]) _ hx).ptr_inv
    obtain ⟨ab, ao, as⟩ := a
    simp only at k1 k2 k3
    subst k2
    obtain ⟨A, q', l', r', m', g1, g2, g3⟩ := G ρ ev _ _ false w m m1 m2 m3 (.slc (len := q.1) k1 (by have := blt_of hlt; omega))
    injection g1 with g1 g1' g1''
    subst g1 g1''
    refine ⟨_, ?_, g3⟩
    simp [execOp, ho, Instr.sliceAt, run_underlying hu, k3, Instr.sureAddr, g2, sizeOf, typeInfo, hie]
    split <;> rfl
  · exact modelV_sound hr
theorem okV_sound {ok : Bool} {v : Value} {x : Operand} {xt as : TypeId} {u : Value → Value} (ho : o.op = .typeAssert x xt as ok)
    (H : ∀ ρ w ev, EvOK ρ t ev o.op.operands.toList → Lay ρ h w → ∃ u, (Instr.typeAssert (ev x) xt as ok).run P w = .ok (if ok then .tuple #[u, .bool true] else u) w ∧ Den ρ v u) : OpOK P t h c o (okV ok v h c) := by
  cases ok with
  | true =>
    refine .pure fun ρ w ev m l => ?_
    obtain ⟨u, h1, h2⟩ := H ρ w ev m l
    exact ⟨.tuple ⟨[u, .bool true]⟩, by simp [execOp, ho, h1], .tup (.cons h2 (.cons (.flat rfl) .nil))⟩
  | false =>
    refine .pure fun ρ w ev m l => ?_
    obtain ⟨u, h1, h2⟩ := H ρ w ev m l
    exact ⟨u, by simp [execOp, ho, h1], h2⟩
theorem ilt_eq : ∀ a b : Int, ilt a b = decide (a < b)
  | .ofNat m, .ofNat n => by
    show Nat.blt m n = _
    by_cases c : m < n
    · rw [decide_eq_true (by simpa using c)]; exact Nat.ble_eq_true_of_le c
    · rw [decide_eq_false (by simpa using c)]
      cases e : Nat.blt m n with
      | false => rfl
      | true => exact absurd (blt_of e) c
  | .ofNat m, .negSucc n => by
    show false = _
    rw [decide_eq_false]
    simp only [Int.ofNat_eq_natCast, Int.negSucc_eq]; omega
  | .negSucc m, .ofNat n => by
    show true = _
    rw [decide_eq_true]
    simp only [Int.ofNat_eq_natCast, Int.negSucc_eq]; omega
  | .negSucc m, .negSucc n => by
    show Nat.blt n m = _
    by_cases c : n < m
    · rw [decide_eq_true (by simp only [Int.negSucc_eq]; omega)]; exact Nat.ble_eq_true_of_le c
    · rw [decide_eq_false (by simp only [Int.negSucc_eq]; omega)]
      cases e : Nat.blt n m with
      | false => rfl
      | true => exact absurd (blt_of e) c
theorem ieq_eq : ∀ a b : Int, ieq a b = decide (a = b)
  | .ofNat m, .ofNat n => by
    show Nat.beq m n = _
    cases e : Nat.beq m n with
    | true => rw [beq_of e]; simp
    | false => have := beq_no e; rw [decide_eq_false]; intro h; injection h with h; exact this h
  | .ofNat m, .negSucc n => by
    show false = _
    rw [decide_eq_false]
    intro h; cases h
  | .negSucc m, .ofNat n => by
    show false = _
    rw [decide_eq_false]
    intro h; cases h
  | .negSucc m, .negSucc n => by
    show Nat.beq n m = _
    cases e : Nat.beq n m with
    | true => rw [beq_of e]; simp
    | false => have := beq_no e; rw [decide_eq_false]; intro h; injection h with h; exact this h.symm
theorem ile_eq (i j : Int) : (!ilt j i) = decide (i ≤ j) := by
  rw [ilt_eq]
  by_cases c : j < i
  · rw [decide_eq_true c, decide_eq_false (by omega)]; rfl
  · rw [decide_eq_false c, decide_eq_true (by omega)]; rfl
theorem rngV_some {r : Int} {v : Value} (h : rngV r = some v) : v = .int .i64 r ∧ IntKind.i64.wrap r = r := by
  cases r with
  | ofNat n =>
    have hn : (Nat.rec (motive := fun _ => Option Value) (some (.int .i64 (.ofNat 0))) (fun m _ => some (.int .i64 (.ofNat (Nat.succ m)))) n) = some (Value.int .i64 (.ofNat n)) := by cases n <;> rfl
    have h : gd (Nat.blt n 9223372036854775808) (Nat.rec (motive := fun _ => Option Value) (some (.int .i64 (.ofNat 0))) (fun m _ => some (.int .i64 (.ofNat (Nat.succ m)))) n) = some v := h
    rw [hn] at h
    simp only [gd_some, Option.some.injEq] at h
    have := blt_of h.1
    refine ⟨h.2.symm, ?_⟩
    rw [IntKind.wrap_i64]
    simp only [Int.ofNat_eq_natCast]
    omega
  | negSucc n =>
    have h : gd (Nat.blt n 9223372036854775808) (some (.int .i64 (.negSucc n))) = some v := h
    simp only [gd_some, Option.some.injEq] at h
    have := blt_of h.1
    refine ⟨h.2.symm, ?_⟩
    rw [IntKind.wrap_i64]
    simp only [Int.negSucc_eq]
    omega
theorem fastI_sound {b : BinOp} {i j : Int} {v : Value} (h : fastI b i j = some v) (e : TypeId) (w : World) : (binOp b e (.int .i64 i) (.int .i64 j)).run P w = .ok v w ∧ flat v = true := by
  unfold fastI at h
  split at h
  · obtain ⟨rfl, hw⟩ := rngV_some h
    refine ⟨?_, rfl⟩
    have hw : IntKind.i64.wrap (i + j) = i + j := hw
    simp only [binOp, Op.intArith, hw, ne_eq, not_true_eq_false, if_false, Sem.run_pure]
    rfl
  · obtain ⟨rfl, hw⟩ := rngV_some h
    refine ⟨?_, rfl⟩
    have hw : IntKind.i64.wrap (i - j) = i - j := hw
    simp only [binOp, Op.intArith, hw, ne_eq, not_true_eq_false, if_false, Sem.run_pure]
    rfl
  · obtain ⟨rfl, hw⟩ := rngV_some h
    refine ⟨?_, rfl⟩
    have hw : IntKind.i64.wrap (i * j) = i * j := hw
    simp only [binOp, Op.intArith, hw, ne_eq, not_true_eq_false, if_false, Sem.run_pure]
    rfl
  all_goals first
    | (injection h with h
       rw [ile_eq] at h
       subst h
       refine ⟨?_, rfl⟩
       simp [binOp, Op.intCmp]
       done)
    | (injection h with h
       subst h
       refine ⟨?_, rfl⟩
       simp [binOp, Op.intCmp, ile_eq, ilt_eq, ieq_eq]
       done)
    | (injection h with h
       subst h
       refine ⟨?_, rfl⟩
       simp [binOp, Op.intCmp, ile_eq, ilt_eq, ieq_eq]
       rfl)
    | cases h
theorem i64V_some {x : Option Value} {i : Int} (h : i64V x = some i) : x = some (.int .i64 i) := by
  unfold i64V at h; split at h
  · injection h with h; subst h; rfl
  · cases h
theorem fastB_sound {h' : Hp} {b : BinOp} {e ye : TypeId} {x y : Operand} {v : Value} (ho : o.op = .binOp b e x y ye) (h : fastB t b x y = some v) : OpOK P t h' c o (.val v h' c) := by
  simp only [fastB, bd_some] at h
  obtain ⟨i, hi, j, hj, h⟩ := h
  refine .pure fun ρ w ev m _ => ?_
  have e1 := (m x (by simp [ho, Op.operands]) _ (i64V_some hi)).int_inv
  have e2 := (m y (by simp [ho, Op.operands]) _ (i64V_some hj)).int_inv
  obtain ⟨g1, g2⟩ := fastI_sound (P := P) h e w
  refine ⟨v, ?_, .flat g2⟩
  have gd : (eqGuard b e x y (.int .i64 i) (.int .i64 j)).run P w = .ok () w := by
    unfold eqGuard
    cases b <;> rfl
  simp only [execOp, ho, e1, e2, Sem.run_bind, gd, Result.andThen_ok, g1, Sem.run_pure]
theorem missL_eq (want : Array (String × TypeId)) (got : Array Method) : (want.toList.filter fun (name, sig) => !got.any fun m => m.name == name && m.sig == sig).map (·.1) = missL want got := by
  unfold missL
  congr 1
  congr 1
  funext q
  rw [Array.any_toList]
theorem least_none : ∀ {l : List String}, Instr.least l = none → l = []
  | [], _ => rfl
  | _ :: _, h => by simp [Instr.least] at h
theorem miss_nil {want : Array (String × TypeId)} {got : Array Method} (h : missL want got = []) : Instr.missingMethod want got = none := by
  unfold Instr.missingMethod
  simp only [missL_eq, h]
  rfl
theorem miss_or {α : Type} {a b : Option α} (h : (a <|> b) = none) : a = none ∧ b = none := by
  cases a with
  | none => exact ⟨rfl, by simpa using h⟩
  | some v => simp at h
theorem miss_cons {want : Array (String × TypeId)} {got : Array Method} {x : String} {l : List String} (h : missL want got = x :: l) : ∃ m, Instr.missingMethod want got = some m := by
  cases e : Instr.missingMethod want got with
  | some m => exact ⟨m, rfl⟩
  | none =>
    exfalso
    unfold Instr.missingMethod at e
    simp only [missL_eq, h] at e
    obtain ⟨e1, e2⟩ := miss_or e
    have h1 := least_none e1
    have h2 := least_none e2
    rw [List.partition_eq_filter_filter] at h1 h2
    simp only [List.map_eq_nil_iff, List.filter_eq_nil_iff] at h1 h2
    have a1 := h1 x List.mem_cons_self
    have a2 := h2 x List.mem_cons_self
    simp at a1 a2
    simp_all
theorem opAssert_sound {x : Operand} {xt as : TypeId} {ok : Bool} (ho : o.op = .typeAssert x xt as ok) (hr : opAssert P t h c x xt as ok = some r) : OpOK P t h c o r := by
  simp only [opAssert, bd_some] at hr
  obtain ⟨q, hq, hr⟩ := hr
  have fails : ∀ {r : OR}, failV P as ok h c = some r → (∀ ρ w ev, EvOK ρ t ev o.op.operands.toList → Lay ρ h w → ∀ z, (zeroValue as).run P w = .ok z w → ok = true → (Instr.typeAssert (ev x) xt as ok).run P w = .ok (.tuple #[z, .bool false]) w) → OpOK P t h c o r := by
    intro r hf H
    simp only [failV, gd_some, bd_some, Option.some.injEq] at hf
    obtain ⟨hok, z, hz, rfl⟩ := hf
    obtain ⟨hfl, i, hi, hz⟩ := zeroV_some hz
    refine .pure fun ρ w ev m l => ?_
    have := H ρ w ev m l z (by simp [zeroValue, typeInfo, hi, hz]) hok
    exact ⟨.tuple ⟨[z, .bool false]⟩, by simp [execOp, ho, this], .tup (.cons (.flat hfl) (.cons (.flat rfl) .nil))⟩
  split at hr
  · rename_i want hu
    simp only [bd_some] at hr
    obtain ⟨i, hi, hr⟩ := hr
    split at hr
    · rename_i hmis
      have hmis := miss_nil hmis
      injection hr with hr
      subst hr
      refine okV_sound (u := id) ho fun ρ w ev m l => ?_
      have d := m x (by simp [ho, Op.operands]) _ (ifcV_some hq)
      obtain ⟨u, e1, e2⟩ := d.ifc_inv
      refine ⟨ev x, ?_, d⟩
      simp [e1, Instr.typeAssert, run_underlying hu, typeInfo, hi, hmis]
    · rename_i _ _ hmis
      obtain ⟨nm, hmis⟩ := miss_cons hmis
      refine fails hr fun ρ w ev m l z hz hok => ?_
      obtain ⟨u, e1, e2⟩ := (m x (by simp [ho, Op.operands]) _ (ifcV_some hq)).ifc_inv
      simp [e1, Instr.typeAssert, run_underlying hu, typeInfo, hi, hmis, hok, hz]
  · rename_i d hne hu
    have key : ∀ (u : Value) (w : World), (Instr.typeAssert (.iface q.1 u) xt as ok).run P w = (if q.1 = as then (pure (if ok then .tuple #[u, .bool true] else u) : Sem Value) else (if ok then do pure (.tuple #[← zeroValue as, .bool false]) else runtimePanic (.typeAssertion (some xt) (some q.1) as ""))).run P w := fun u w => by
      simp only [Instr.typeAssert, Sem.run_bind, run_underlying hu, Result.andThen_ok]
    split at hr
    · rename_i he
      injection hr with hr
      subst hr
      refine okV_sound (u := id) ho fun ρ w ev m l => ?_
      obtain ⟨u, e1, e2⟩ := (m x (by simp [ho, Op.operands]) _ (ifcV_some hq)).ifc_inv
      exact ⟨u, by rw [e1, key, if_pos (beq_of he)]; rfl, e2⟩
    · rename_i he
      refine fails hr fun ρ w ev m l z hz hok => ?_
      obtain ⟨u, e1, e2⟩ := (m x (by simp [ho, Op.operands]) _ (ifcV_some hq)).ifc_inv
      rw [e1, key, if_neg (beq_no he), if_pos hok]
      simp [hz]
  · cases hr

theorem unF_sound {u : UnOp} {e : TypeId} {x : Operand} (ho : o.op = .unOp u e x) (hr : unF u e x P t h c o = some r) : OpOK P t h c o r := by
  unfold unF at hr
  split at hr
  · rename_i q hq
    injection hr with hr
    subst hr
    refine .pure fun ρ w ev m _ => ⟨.bool (!q), ?_, .flat rfl⟩
    have e1 := (m x (by simp [ho, Op.operands]) _ (boolV_some hq)).bool_inv
    simp [execOp, ho, e1, Op.unary]
  · exact modelV_sound hr
/-- every operation -/
theorem opV_sound (hr : opV P t h c o = some r) : OpOK P t h c o r := by
  have hr : disp o.op P t h c o = some r := hr
  cases ho : o.op with
  | move x => rw [ho] at hr; exact opMove_sound (.inl ho) hr
  | assign x => rw [ho] at hr; exact opMove_sound (.inr ho) hr
  | pick x a b => rw [ho] at hr; exact opPick_sound ho hr
  | alloc e => rw [ho] at hr; exact opAlloc_sound ho hr
  | box e x => rw [ho] at hr; exact opBox_sound ho hr
  | build e ps => rw [ho] at hr; exact opBuild_sound ho hr
  | buildSlice e n ps => rw [ho] at hr; exact opLit_sound ho hr
  | load e x => rw [ho] at hr; exact opLoad_sound ho hr
  | store e x y => rw [ho] at hr; exact opStore_sound ho hr
  | nilCheck x => rw [ho] at hr; exact opNil_sound ho hr
  | binOp b e x y ye =>
    rw [ho] at hr
    have hr : Option.rec (motive := fun _ => Option OR) (biS b e x y P t h c o) (fun v => some (.val v h c)) (fastB t b x y) = some r := hr
    cases hf : fastB t b x y with
    | some v =>
      rw [hf] at hr
      have hr : some (OR.val v h c) = some r := hr
      injection hr with hr
      subst hr
      exact fastB_sound ho hf
    | none =>
      rw [hf] at hr
      have hr : biS b e x y P t h c o = some r := hr
      unfold biS at hr
      split at hr
      · exact opEq_sound (neg := false) ho hr
      · exact opEq_sound (neg := true) ho hr
      · exact modelV_sound hr
  | unOp u e x => rw [ho] at hr; exact unF_sound ho hr
  | fieldAddr e x f => rw [ho] at hr; exact opFieldAddr_sound ho hr
  | indexAddr e x y => rw [ho] at hr; exact opIndexAddr_sound ho hr
  | field e x f => rw [ho] at hr; exact opField_sound ho hr
  | index e x y =>
    rw [ho] at hr
    have hr : Option.rec (motive := fun _ => Option OR) (modelV P t h c o) (fun r => some r) (opIndex P t h c e x y) = some r := hr
    cases hf : opIndex P t h c e x y with
    | some v =>
      rw [hf] at hr
      have hr : some v = some r := hr
      injection hr with hr
      subst hr
      exact opIndex_sound ho hf
    | none =>
      rw [hf] at hr
      exact modelV_sound hr
  | slice e x lo hi mx => rw [ho] at hr; exact opSlice_sound ho hr
  | makeInterface e x => rw [ho] at hr; exact opIface_sound ho hr
  | typeAssert x xt as ok => rw [ho] at hr; exact opAssert_sound ho hr
  | makeFunc fn a b => rw [ho] at hr; exact opFunc_sound ho hr
  | extract x i => rw [ho] at hr; exact opExtract_sound ho hr
  | makeSlice s x y => rw [ho] at hr; exact opMake_sound ho hr
  | call k =>
    rw [ho] at hr
    have hr : clF k P t h c o = some r := hr
    unfold clF at hr
    split at hr
    · rename_i hk; exact opCall_sound ho hk hr
    · rename_i hk; exact opInvoke_sound ho hk hr
    · rename_i hk
      split at hr
      · exact opLen_sound ho hk hr
      · exact opAppend_sound ho hk hr
      · exact opCopy_sound ho hk hr
      · exact modelV_sound hr
  | _ => rw [ho] at hr; exact modelV_sound hr
end
end Cx
end Go.Proofs.YtonbjlkmcikbgaaGreatDoor
