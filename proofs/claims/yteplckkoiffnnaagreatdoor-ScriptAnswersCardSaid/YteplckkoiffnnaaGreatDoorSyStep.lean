/-
  Symbolic runs: what is handed to a call; one operation; lists of operations.
-/
import Derived.Test.YteplckkoiffnnaaGreatDoorSyRun
namespace Go.Proofs.YteplckkoiffnnaaGreatDoor
open Go.RowKit
namespace Sy
set_option linter.unusedVariables false
set_option linter.unusedSimpArgs false

def subV (n b : Nat) (x : SV) : SV := match x with
  | .p m off => match Nat.beq m n with
    | true => .v (.pointer (some ⟨b, off, none⟩))
    | false => .p m off
  | .v y => .v y
  | .k y => .k y
theorem subV_den {ρ : List Nat} {n b : Nat} (hb : ρ[n]? = some b) (x : SV) : (subV n b x).den ρ = x.den ρ := by
  cases x with
  | v y => rfl
  | k y => rfl
  | p m off =>
    unfold subV
    simp only
    split
    · rename_i e
      have := beq_of e
      subst this
      simp [SV.den, hb]
    · rfl
def subL (n b : Nat) : List SV → List SV
  | [] => []
  | x :: l => subV n b x :: subL n b l
theorem subL_den {ρ : List Nat} {n b : Nat} (hb : ρ[n]? = some b) : ∀ l : List SV, denL ρ (subL n b l) = denL ρ l
  | [] => rfl
  | x :: l => by
    unfold subL denL
    rw [List.mapM_cons, List.mapM_cons, subV_den hb]
    have := subL_den hb l
    unfold denL at this
    rw [this]
def subT (n b : Nat) : List (Nat × SV) → List (Nat × SV)
  | [] => []
  | (t, x) :: l => (t, subV n b x) :: subT n b l
theorem subT_get {n b : Nat} : ∀ {l : List (Nat × SV)} {t : Nat} {y : SV}, getT (subT n b l) t = some y → ∃ x, getT l t = some x ∧ y = subV n b x
  | [], t, y, h => by cases h
  | (k, x) :: l, t, y, h => by
    simp only [subT, getT] at h ⊢
    split at h
    · rename_i e
      injection h with h
      exact ⟨x, rfl, h.symm⟩
    · exact subT_get h
def subO (n b : Nat) : List (Nat × TypeId × List SV) → List (Nat × TypeId × List SV)
  | [] => []
  | (k, t, cs) :: l => match Nat.beq k n with
    | true => subO n b l
    | false => (k, t, subL n b cs) :: subO n b l
theorem subO_mem {n b : Nat} : ∀ {l : List (Nat × TypeId × List SV)} {x : Nat × TypeId × List SV}, x ∈ subO n b l → x.1 ≠ n ∧ ∃ cs, (x.1, x.2.1, cs) ∈ l ∧ x.2.2 = subL n b cs
  | [], x, h => by cases h
  | (k, t, cs) :: l, x, h => by
    unfold subO at h
    split at h
    · obtain ⟨h1, cs', h2, h3⟩ := subO_mem h
      exact ⟨h1, cs', List.mem_cons_of_mem _ h2, h3⟩
    · rename_i e
      rcases List.mem_cons.1 h with rfl | h
      · exact ⟨(fun c => by simp only at c; subst c; rw [Nat.beq_refl] at e; cases e), cs, List.mem_cons_self, rfl⟩
      · obtain ⟨h1, cs', h2, h3⟩ := subO_mem h
        exact ⟨h1, cs', List.mem_cons_of_mem _ h2, h3⟩
theorem subO_nodup {n b : Nat} : ∀ {l : List (Nat × TypeId × List SV)}, (l.map (·.1)).Nodup → ((subO n b l).map (·.1)).Nodup
  | [], _ => by simp [subO]
  | (k, t, cs) :: l, h => by
    have h' := List.nodup_cons.1 h
    unfold subO
    split
    · exact subO_nodup h'.2
    · simp only [List.map_cons, List.nodup_cons]
      refine ⟨fun hx => h'.1 ?_, subO_nodup h'.2⟩
      obtain ⟨x, hx, e⟩ := List.mem_map.1 hx
      obtain ⟨_, cs', h2, _⟩ := subO_mem hx
      exact List.mem_map.2 ⟨_, h2, e⟩

def expose (G : Gl) (st : St) (n : Nat) (F : Prop) (K : Nat → St → Prop) : Prop :=
  match getO st.o n with
  | some (t, cs) => reals F cs fun vs => ∀ b, (∀ b', G.B[n]? = some b' → b = b') → match st with
    | ⟨tm, o, m, h, c⟩ => K b ⟨subT n b tm, subO n b o, m, blkH b t vs.toArray :: h, c⟩
  | none => F
theorem expose_sound {G : Gl} {st : St} {n : Nat} {F : Prop} {K : Nat → St → Prop} (h : expose G st n F K) :
    F ∨ ∃ (t : TypeId) (vs : List Value), (∀ b, (∀ b', G.B[n]? = some b' → b = b') → K b ⟨subT n b st.t, subO n b st.o, st.n, blkH b t vs.toArray :: st.h, st.c⟩) ∧ ∀ ρ a w, Tm G st ρ a → Mem G st ρ w → ∃ b, ρ[n]? = some b ∧ (∀ b', G.B[n]? = some b' → b = b') ∧
      Tm G ⟨subT n b st.t, subO n b st.o, st.n, blkH b t vs.toArray :: st.h, st.c⟩ ρ a ∧ Mem G ⟨subT n b st.t, subO n b st.o, st.n, blkH b t vs.toArray :: st.h, st.c⟩ ρ w := by
  unfold expose at h
  split at h
  · rename_i t cs hg
    rcases reals_sound h with h | ⟨vs, h, e⟩
    · exact .inl h
    refine .inr ⟨t, vs, h, fun ρ a w m mm => ?_⟩
    have hm := getO_mem hg
    obtain ⟨b, us, e1, e2, e3⟩ := mm.ob _ hm
    simp only at e1 e2 e3
    rw [e ρ] at e2
    injection e2 with e2
    subst e2
    refine ⟨b, e1, fun b' hb' => ?_, ⟨m.size, m.defs, fun t y hy => ?_⟩, ?_⟩
    · obtain ⟨q, rfl⟩ := mm.kn
      rw [List.getElem?_append_left (List.getElem?_eq_some_iff.1 hb').1, hb'] at e1
      injection e1 with e1
      exact e1.symm
    · obtain ⟨x, hx, rfl⟩ := subT_get hy
      exact ⟨(m.get _ _ hx).1, by rw [subV_den e1]; exact (m.get _ _ hx).2⟩
    · obtain ⟨m1, m2, m3, m4, m5, m6, mk, h', m7, m8, m9⟩ := mm
      have hbn := m9 _ hm b e1
      refine ⟨m1, m2, m3, m4, subO_nodup m5, fun x hx => ?_, mk, un (fun i => if i = b then some (.cells vs.toArray t (0, 0)) else none) h', ?_, ?_, fun x hx b' hb' => ?_⟩
      · obtain ⟨hne, cs', hx', ec⟩ := subO_mem hx
        obtain ⟨b1, us1, g1, g2, g3⟩ := m6 _ hx'
        exact ⟨b1, us1, g1, by rw [ec, subL_den e1]; exact g2, g3⟩
      · refine Sub.un (fun i o ho => ?_) m7
        split at ho
        · rename_i hi
          subst hi
          rw [← ho]; exact e3
        · cases ho
      · refine ⟨_, h', fun i => ?_, rfl, fun i => rfl, m8⟩
        by_cases hi : i = b
        · subst hi; exact .inr hbn
        · exact .inl (by simp [hi])
      · obtain ⟨hne, cs', hx', ec⟩ := subO_mem hx
        refine un_none.2 ⟨?_, m9 _ hx' b' hb'⟩
        have : b' ≠ b := fun c => by
          subst c
          have h1 := (List.getElem?_eq_some_iff.1 hb')
          have h2 := (List.getElem?_eq_some_iff.1 e1)
          exact hne ((List.getElem_inj m3).1 (h1.2.trans h2.2.symm))
        simp [this]
  · exact .inl h

def look : List (Nat × Nat) → Nat → Option Nat
  | [], _ => none
  | (k, b) :: l, n => match Nat.beq k n with
    | true => some b
    | false => look l n
theorem look_mem : ∀ {l : List (Nat × Nat)} {n b : Nat}, look l n = some b → (n, b) ∈ l
  | [], _, _, h => by cases h
  | (k, c) :: l, n, b, h => by
    unfold look at h
    split at h
    · rename_i e
      have := beq_of e
      subst this
      injection h with h
      subst h
      exact List.mem_cons_self
    · exact List.mem_cons_of_mem _ (look_mem h)
/-- arguments: pointers to objects of the call's own become plain ones -/
def expA (G : Gl) (F : Prop) : List SV → List (Nat × Nat) → St → (List Value → St → Prop) → Prop
  | [], _, st, K => K [] st
  | .v x :: l, σ, st, K => expA G F l σ st fun r st => K (x :: r) st
  | .k b :: l, σ, st, K => expA G F l σ st fun r st => K (.bool b :: r) st
  | .p n off :: l, σ, st, K => match look σ n with
    | some b => expA G F l σ st fun r st => K (.pointer (some ⟨b, off, none⟩) :: r) st
    | none => expose G st n F fun b st => expA G F l ((n, b) :: σ) st fun r st => K (.pointer (some ⟨b, off, none⟩) :: r) st
theorem expA_sound {G : Gl} {F : Prop} : ∀ {l : List SV} {σ : List (Nat × Nat)} {st : St} {K : List Value → St → Prop}, expA G F l σ st K →
    (F ∨ ∃ vs st', st'.c = st.c ∧ K vs st') ∧ ∀ ρ a w, (∀ x ∈ σ, ρ[x.1]? = some x.2) → Tm G st ρ a → Mem G st ρ w → F ∨ ∃ vs st', K vs st' ∧ denL ρ l = some vs ∧ Tm G st' ρ a ∧ Mem G st' ρ w
  | [], σ, st, K, h => ⟨.inr ⟨_, _, rfl, h⟩, fun ρ a w _ m mm => .inr ⟨_, _, h, rfl, m, mm⟩⟩
  | .v x :: l, σ, st, K, h => by
    obtain ⟨h1, h2⟩ := expA_sound (l := l) h
    refine ⟨h1.imp id fun ⟨vs, st', e, k⟩ => ⟨_, _, e, k⟩, fun ρ a w hs m mm => ?_⟩
    refine (h2 ρ a w hs m mm).imp id fun ⟨vs, st', k, e, m', mm'⟩ => ⟨_, _, k, denL_cons.2 ⟨_, _, rfl, e, rfl⟩, m', mm'⟩
  | .k b :: l, σ, st, K, h => by
    obtain ⟨h1, h2⟩ := expA_sound (l := l) h
    refine ⟨h1.imp id fun ⟨vs, st', e, k⟩ => ⟨_, _, e, k⟩, fun ρ a w hs m mm => ?_⟩
    refine (h2 ρ a w hs m mm).imp id fun ⟨vs, st', k, e, m', mm'⟩ => ⟨_, _, k, denL_cons.2 ⟨_, _, rfl, e, rfl⟩, m', mm'⟩
  | .p n off :: l, σ, st, K, h => by
    unfold expA at h
    split at h
    · rename_i b hb
      obtain ⟨h1, h2⟩ := expA_sound (l := l) h
      refine ⟨h1.imp id fun ⟨vs, st', e, k⟩ => ⟨_, _, e, k⟩, fun ρ a w hs m mm => ?_⟩
      refine (h2 ρ a w hs m mm).imp id fun ⟨vs, st', k, e, m', mm'⟩ => ⟨_, _, k, denL_cons.2 ⟨_, _, ?_, e, rfl⟩, m', mm'⟩
      have := hs _ (look_mem hb)
      simp only at this
      simp [SV.den, this]
    · rcases expose_sound h with h | ⟨t, vs, h, he⟩
      · exact ⟨.inl h, fun _ _ _ _ _ _ => .inl h⟩
      refine ⟨?_, fun ρ a w hs m mm => ?_⟩
      · obtain ⟨h1, h2⟩ := expA_sound (l := l) (h ((G.B[n]?).getD 0) fun b' hb' => by rw [hb']; rfl)
        exact h1.imp id fun ⟨vs, st', e, k⟩ => ⟨_, _, e, k⟩
      · obtain ⟨b, e1, eb, m', mm'⟩ := he ρ a w m mm
        obtain ⟨h1, h2⟩ := expA_sound (l := l) (h b eb)
        refine (h2 ρ a w (fun x hx => ?_) m' mm').imp id fun ⟨vs, st', k, e, m', mm'⟩ => ⟨_, _, k, denL_cons.2 ⟨_, _, ?_, e, rfl⟩, m', mm'⟩
        · rcases List.mem_cons.1 hx with rfl | hx
          · exact e1
          · exact hs x hx
        · simp [SV.den, e1]

def canEnter (P : Program) (f : FuncId) : Bool := match P.funcs[f]? with
  | some fn => match fn.body with
    | some _ => !(fn.name == "runtime.NumGoroutine")
    | none => false
  | none => false
theorem canEnter_sound {P : Program} {f : FuncId} (h : canEnter P f = true) {o : Oper} {c : Call} {x : Operand} (ho : o.op = .call c) (hc : c.callee = .value x) (a : Act) {caps : Array Value} (hx : a.eval x = .func (.func f) #[] caps) (w : World) : (execOp a.eval o).run P w = .ok (.enter f (c.args.map a.eval ++ caps)) w := by
  unfold canEnter at h
  split at h
  · rename_i fn hf
    split at h
    · rename_i cd hb
      have hn : fn.name ≠ "runtime.NumGoroutine" := by simpa using h
      simp [execOp, ho, resolve, hc, hx, Deferred.ofValue, invoke, callFunc, program, Sem.run, hf, hb, hn]
    · cases h
  · cases h
def appV : List SV → List Value → List SV
  | [], l => toSVs l
  | x :: r, l => x :: appV r l
theorem appV_den {ρ : List Nat} : ∀ {vs : List SV} {us caps : List Value}, denL ρ vs = some us → denL ρ (appV vs caps) = some (us ++ caps)
  | [], us, caps, h => by cases h; exact toSVs_den ρ caps
  | x :: r, us, caps, h => by
    obtain ⟨v, ws, h1, h2, rfl⟩ := denL_cons.1 h
    exact denL_cons.2 ⟨v, _, h1, appV_den h2, rfl⟩
/-- a function value: which function, what it has caught -/
def fnK (x : SV) (F : Prop) (K : FuncId → List Value → Prop) : Prop := match x with
  | .v (.func (.func f) fs cs) => match fs.toList with
    | [] => forceL cs.toList fun l => K f l
    | _ => F
  | _ => F
theorem fnK_sound {x : SV} {F : Prop} {K : FuncId → List Value → Prop} (h : fnK x F K) : F ∨ ∃ f l, K f l ∧ ∀ ρ, x.den ρ = some (.func (.func f) #[] l.toArray) := by
  unfold fnK at h
  split at h
  · rename_i f fs cs
    split at h
    · rename_i hfs
      refine .inr ⟨_, _, forceL_eq h, fun ρ => ?_⟩
      have : fs = #[] := by apply Array.ext'; simpa using hfs
      subst this
      simp [SV.den]
    · exact .inl h
  · exact .inl h

/-- one operation -/
def op1 (G : Gl) (o : Oper) (st : St) (K : St → Prop) : Prop :=
  match o.op with
  | .alloc t => match G.P.info? t with
    | some i => match i.zero with
      | some z => cellsK (.v z) fun cs => newO G o.dst t cs st K
      | none => False
    | none => False
  | .box t x => ev st x False fun v => cellsK v fun cs => newO G o.dst t cs st K
  | .store t x y => ev st x False fun vx => ev st y False fun vy => match vx with
    | .p n off => cellsK vy fun cs => stO G.P t n off cs st False fun st => putK G st o.dst (.v undef) none K
    | _ => stp st fun st => OpAt G o st K
  | .load t x => ev st x False fun vx => match vx with
    | .v (.pointer (some ad)) => stp st fun st => LoadAt G t ad st fun r => putK G st o.dst r none K
    | _ => q1 G.P G.tr st o (stp st fun st => OpAt G o st K) fun r q => putK G st o.dst r q K
  | .call c => match c.callee with
    | .value x => ev st x False fun vx => fnK vx (stp st fun st => OpAt G o st K) fun f caps => match canEnter G.P f with
      | true => evs st False c.args.toList fun vs => expA G False (appV vs caps) [] st fun rs st => stp st fun st => CallAt G f rs st fun r st => putK G st o.dst r none K
      | false => stp st fun st => OpAt G o st K
    | _ => q1 G.P G.tr st o (stp st fun st => OpAt G o st K) fun r q => putK G st o.dst r q K
  | .makeFunc fn first captured => match first.toList with
    | [] => evs st False captured.toList fun vs => expA G False vs [] st fun rs st => putK G st o.dst (.v (.func fn #[] rs.toArray)) none K
    | _ => stp st fun st => OpAt G o st K
  | .slice t x lo hi mx => ev st x False fun vx => match vx with
    | .p n off => match hi, mx, G.P.underlying t with
      | none, none, some (.array len e) => match G.P.info? e with
        | some inf => evI st lo 0 False fun l => expose G st n False fun b st => putK G st o.dst (.v (.slice (some ⟨b, off + l.toNat * inf.size, none⟩) (len - l.toNat) (len - l.toNat))) (some (0 ≤ l ∧ l < (len : Int))) K
        | none => False
      | _, _, _ => stp st fun st => OpAt G o st K
    | _ => q1 G.P G.tr st o (stp st fun st => OpAt G o st K) fun r q => putK G st o.dst r q K
  | _ => q1 G.P G.tr st o (stp st fun st => OpAt G o st K) fun r q => putK G st o.dst r q K

theorem opAt_sound {G : Gl} {o : Oper} {st : St} {K : St → Prop} (h : stp st fun st => OpAt G o st K) :
    st.c ∧ ∀ ρ a w Q, (∀ e a w, PXE G e a w → Q e a w) → Tm G st ρ a → Mem G st ρ w → o.wp G.P a w (fun a' w' => ∃ st' ρ', K st' ∧ Tm G st' ρ' a' ∧ Mem G st' ρ' w' ∧ Ext ρ ρ') Q :=
  ⟨(stp_iff.1 h).1, fun ρ a w Q hx m mm => by
    obtain ⟨_, k | k⟩ := stp_iff.1 h
    · exact Oper.wp_anyQ (k ρ a w (m.same rfl) (mm.same rfl rfl rfl))
    · exact Oper.wp_px (k ρ a w (m.same rfl) (mm.same rfl rfl rfl)) hx PXE.no⟩
theorem qOp_sound {G : Gl} {o : Oper} {st : St} {K : St → Prop} (hK : Good K) (h : q1 G.P G.tr st o (stp st fun st => OpAt G o st K) fun r q => putK G st o.dst r q K) :
    st.c ∧ ∀ ρ a w Q, (∀ e a w, PXE G e a w → Q e a w) → Tm G st ρ a → Mem G st ρ w → o.wp G.P a w (fun a' w' => ∃ st' ρ', K st' ∧ Tm G st' ρ' a' ∧ Mem G st' ρ' w' ∧ Ext ρ ρ') Q := by
  rcases q1_sound h with h | ⟨x, q, h, hy⟩
  · exact opAt_sound h
  · obtain ⟨⟨hc, hq⟩, hp⟩ := putK_sound h hK
    refine ⟨hc, fun ρ a w Q hx m mm => ?_⟩
    obtain ⟨v, e1, e2⟩ := hy hq G ρ a w m mm.ob
    obtain ⟨st', k, m', mm'⟩ := hp ρ a w v e1 m mm
    unfold Oper.wp
    rw [e2]
    exact ⟨st', ρ, k, m', mm', Ext.refl _⟩

theorem op1_soundX {G : Gl} {o : Oper} {st : St} {K : St → Prop} (h : op1 G o st K) (hK : Good K) :
    st.c ∧ ∀ ρ a w Q, (∀ e a w, PXE G e a w → Q e a w) → Tm G st ρ a → Mem G st ρ w → o.wp G.P a w (fun a' w' => ∃ st' ρ', K st' ∧ Tm G st' ρ' a' ∧ Mem G st' ρ' w' ∧ Ext ρ ρ') Q := by
  unfold op1 at h
  split at h
  case h_1 t ho =>
    split at h
    · rename_i i hi
      split at h
      · rename_i z hz
        obtain ⟨cs, h, hd⟩ := cellsK_sound h
        obtain ⟨hc, hn⟩ := newO_sound h hK
        refine ⟨hc, fun ρ a w Q hx m mm => ?_⟩
        obtain ⟨st', ρ', k, m', mm', ex'⟩ := hn ρ a w z.cells.toList (hd ρ z rfl) m mm
        unfold Oper.wp
        have : (execOp a.eval o).run G.P w = .ok (.value (.pointer (some ⟨w.heap.size, 0, none⟩))) (w.alloc (.cells z.cells t)) := by
          simp [execOp, ho, Instr.alloc, zeroValue, typeInfo, hi, hz, newVar, newRow, newObj]
          rfl
        rw [this]
        exact ⟨st', ρ', k, m', by simpa using mm', ex'⟩
      · exact h.elim
    · exact h.elim
  case h_2 t x ho =>
    rcases ev_sound h with h | ⟨s, h, e⟩
    · exact h.elim
    obtain ⟨cs, h, hd⟩ := cellsK_sound h
    obtain ⟨hc, hn⟩ := newO_sound h hK
    refine ⟨hc, fun ρ a w Q hx m mm => ?_⟩
    obtain ⟨st', ρ', k, m', mm', ex'⟩ := hn ρ a w (a.eval x).cells.toList (hd ρ _ (e G ρ a m)) m mm
    unfold Oper.wp
    have : (execOp a.eval o).run G.P w = .ok (.value (.pointer (some ⟨w.heap.size, 0, none⟩))) (w.alloc (.cells (a.eval x).cells t)) := by
      simp [execOp, ho, Instr.box, newVar, newRow, newObj]
      rfl
    rw [this]
    exact ⟨st', ρ', k, m', by simpa using mm', ex'⟩
  case h_3 t x y ho =>
    rcases ev_sound h with h | ⟨sx, h, ex⟩
    · exact h.elim
    rcases ev_sound h with h | ⟨sy, h, ey⟩
    · exact h.elim
    split at h
    · rename_i n off
      obtain ⟨cs, h, hd⟩ := cellsK_sound h
      rcases stO_sound h (fun st k => (putK_sound k hK).1.1) with h | ⟨hc, hs⟩
      · exact h.elim
      refine ⟨hc, fun ρ a w Q hx m mm => ?_⟩
      have h1 := ex G ρ a m
      simp only [SV.den, Option.map_eq_some_iff] at h1
      obtain ⟨b, hb, hx⟩ := h1
      obtain ⟨st', w', k, hr, m', mm'⟩ := hs G ρ a w (a.eval y) b (hd ρ _ (ey G ρ a m)) hb m mm
      obtain ⟨_, hp⟩ := putK_sound k hK
      obtain ⟨st'', k', m'', mm''⟩ := hp ρ a w' undef rfl m' mm'
      unfold Oper.wp
      have : (execOp a.eval o).run G.P w = .ok .skip w' := by
        simp [execOp, ho, ← hx, hr]
      rw [this]
      exact ⟨st'', ρ, k', m'', mm'', Ext.refl _⟩
    · exact opAt_sound h
  case h_4 t x ho =>
    rcases ev_sound h with h | ⟨sx, h, ex⟩
    · exact h.elim
    split at h
    · rename_i ad
      obtain ⟨hc, ⟨r, hr, h⟩⟩ := stp_iff.1 h
      refine ⟨hc, fun ρ a w Q hx m mm => ?_⟩
      obtain ⟨_, hp⟩ := putK_sound h hK
      obtain ⟨st'', k', m'', mm''⟩ := hp ρ a w r rfl (m.same rfl) (mm.same rfl rfl rfl)
      have h1 := ex G ρ a m
      simp only [SV.den, Option.some.injEq] at h1
      unfold Oper.wp
      have : (execOp a.eval o).run G.P w = .ok (.value r) w := by
        simp [execOp, ho, ← h1, hr ρ w (mm.same rfl rfl rfl)]
      rw [this]
      exact ⟨st'', ρ, k', m'', mm'', Ext.refl _⟩
    · exact qOp_sound hK h
  case h_5 c ho =>
    split at h
    · rename_i x hc
      rcases ev_sound h with h | ⟨sx, h, ex⟩
      · exact h.elim
      rcases fnK_sound h with h | ⟨f, caps, h, efn⟩
      · exact opAt_sound h
      split at h
      · rename_i hen
        rcases evs_sound h with h | ⟨vs, h, e⟩
        · exact h.elim
        obtain ⟨h1, h2⟩ := expA_sound h
        refine ⟨?_, fun ρ a w Q hx m mm => ?_⟩
        · rcases h1 with h1 | ⟨_, st', e', h1⟩
          · exact h1.elim
          · rw [← e']; exact (stp_iff.1 h1).1
        · rcases h2 ρ a w (by simp) m mm with h2 | ⟨rs, st', h2, e2, m', mm'⟩
          · exact h2.elim
          have h2 := (stp_iff.1 h2).2
          have hfx : a.eval x = .func (.func f) #[] caps.toArray := by
            have := ex G ρ a m
            rw [efn ρ] at this
            injection this with this
            exact this.symm
          unfold Oper.wp
          rw [canEnter_sound hen ho hc a hfx w]
          have ha : c.args.map a.eval ++ caps.toArray = rs.toArray := by
            have h3 := appV_den (caps := caps) (e G ρ a m)
            rw [e2] at h3
            injection h3 with h3
            apply Array.ext'
            simpa using h3.symm
          rw [ha]
          rcases h2 with k | ⟨ha, k⟩
          · refine (k ρ w (mm'.same rfl rfl rfl)).mono ?_
            rintro e w' ⟨v, hs, rfl, mm2, k'⟩
            obtain ⟨_, hp⟩ := putK_sound k' hK
            obtain ⟨st'', k'', m'', mm''⟩ := hp ρ a w' v rfl (m'.same rfl) mm2
            exact ⟨st'', ρ, k'', m'', mm'', Ext.refl _⟩
          · refine (k ρ w (mm'.same rfl rfl rfl)).mono ?_
            rintro e w' ⟨ch, rfl, hp⟩
            exact hx _ _ _ ⟨ch, rfl, m.defs, axAt_sound (m'.same (st' := { st' with c := True }) rfl) ha, hp⟩
      · exact opAt_sound h
    · exact qOp_sound hK h
  case h_6 fn first captured ho =>
    split at h
    · rename_i hf
      rcases evs_sound h with h | ⟨vs, h, e⟩
      · exact h.elim
      obtain ⟨h1, h2⟩ := expA_sound h
      refine ⟨?_, fun ρ a w Q hx m mm => ?_⟩
      · rcases h1 with h1 | ⟨_, st', e', h1⟩
        · exact h1.elim
        · rw [← e']; exact (putK_sound h1 hK).1.1
      · rcases h2 ρ a w (by simp) m mm with h2 | ⟨rs, st', h2, e2, m', mm'⟩
        · exact h2.elim
        obtain ⟨_, hp⟩ := putK_sound h2 hK
        obtain ⟨st'', k'', m'', mm''⟩ := hp ρ a w _ rfl m' mm'
        have ha : captured.map a.eval = rs.toArray := by
          have h3 := e G ρ a m
          rw [e2] at h3
          injection h3 with h3
          apply Array.ext'
          simpa using h3.symm
        have hf' : first = #[] := by apply Array.ext'; simpa using hf
        have : (execOp a.eval o).run G.P w = .ok (.value (.func fn #[] rs.toArray)) w := by
          simp [execOp, ho, hf', Instr.makeFunc, ha]
        unfold Oper.wp
        rw [this]
        exact ⟨st'', ρ, k'', m'', mm'', Ext.refl _⟩
    · exact opAt_sound h
  case h_7 t x lo hi mx ho =>
    rcases ev_sound h with h | ⟨sx, h, ex⟩
    · exact h.elim
    split at h
    · rename_i n off
      split at h
      · rename_i len e hu _
        split at h
        · rename_i inf hinf
          rcases evI_sound h with h | ⟨l, h, el⟩
          · exact h.elim
          rcases expose_sound h with h | ⟨t', vs, h, he⟩
          · exact h.elim
          have hq0 := putK_sound (h ((G.B[n]?).getD 0) fun b' hb' => by rw [hb']; rfl) hK
          obtain ⟨⟨hc, hq⟩, -⟩ := hq0
          have hq : 0 ≤ l ∧ l < (len : Int) := hq
          refine ⟨hc, fun ρ a w Q hx m mm => ?_⟩
          obtain ⟨b, e1, eb, m', mm'⟩ := he ρ a w m mm
          obtain ⟨-, hp⟩ := putK_sound (h b eb) hK
          obtain ⟨st'', k'', m'', mm''⟩ := hp ρ a w _ rfl m' mm'
          have h1 := ex G ρ a m
          simp only [SV.den, e1, Option.map_some, Option.some.injEq] at h1
          have hs : (sizeOf e).run G.P w = .ok inf.size w := by simp [sizeOf, typeInfo, hinf]
          have bl : ∀ (y : Nat) (code : BoundsCode) (k : IntKind) (i : Int), 0 ≤ i → i ≤ y → (Instr.sliceBound (.int k i) y code).run G.P w = .ok i.toNat w := fun y code k i c1 c2 => by
            simp [Instr.sliceBound, asIntOf, c1, c2]
          have : (execOp a.eval o).run G.P w = .ok (.value (.slice (some ⟨b, off + l.toNat * inf.size, none⟩) (len - l.toNat) (len - l.toNat))) w := by
            have hb0 := bl len .sliceB
            rcases el with ⟨rfl, rfl⟩ | ⟨y, k, rfl, ey⟩
            · simp [execOp, ho, ← h1, Instr.sliceAt, run_underlying hu, Instr.sliceBounds, Instr.sureAddr, hs, Addr.add_mid]
            · have h2 := ey G ρ a m
              have hne : len ≠ l.toNat := by omega
              simp [execOp, ho, ← h1, h2, Instr.sliceAt, run_underlying hu, Instr.sliceBounds, Instr.sureAddr, hs, Addr.add_mid, hb0 k l hq.1 (by omega), hne]
          unfold Oper.wp
          rw [this]
          exact ⟨st'', ρ, k'', m'', mm'', Ext.refl _⟩
        · exact h.elim
      · exact opAt_sound h
    · exact qOp_sound hK h
  case h_8 => exact qOp_sound hK h
theorem op1_sound {G : Gl} {o : Oper} {st : St} {K : St → Prop} (h : op1 G o st K) (hK : Good K) :
    st.c ∧ ∀ ρ a w Q, (∀ e a w, PXE G e a w → Q e a w) → Tm G st ρ a → Mem G st ρ w → o.wp G.P a w (fun a' w' => ∃ st' ρ', K st' ∧ Tm G st' ρ' a' ∧ Mem G st' ρ' w') Q :=
  ⟨(op1_soundX h hK).1, fun ρ a w Q hx m mm => Oper.wp_mono (fun a' w' ⟨st', ρ', k, m', mm', _⟩ => ⟨st', ρ', k, m', mm'⟩) ((op1_soundX h hK).2 ρ a w Q hx m mm)⟩
end Sy
end Go.Proofs.YteplckkoiffnnaaGreatDoor
