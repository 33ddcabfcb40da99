/-
  Symbolic runs: operations that make or write memory of the call's own, calls; lists of operations.
-/
import Derived.Test.YteplckkoiffnnaaGreatDoorSyQ
namespace Go.Proofs.YteplckkoiffnnaaGreatDoor
open Go.RowKit
namespace Sy
set_option linter.unusedVariables false
set_option linter.unusedSimpArgs false

def Good (K : St → Prop) : Prop := ∀ st, K st → st.c

def putK (G : Gl) (st : St) (d : Option Nat) (x : SV) (q : Option Prop) (K : St → Prop) : Prop :=
  match st with
  | ⟨t, o, n, h, c⟩ => match d with
    | some i => match Nat.blt i G.N with
      | true => match q with
        | none => K ⟨(i, x) :: t, o, n, h, c⟩
        | some p => K ⟨(i, x) :: t, o, n, h, c ∧ p⟩
      | false => False
    | none => match q with
      | none => K ⟨t, o, n, h, c⟩
      | some p => K ⟨t, o, n, h, c ∧ p⟩

theorem Tm.put_ {G : Gl} {st : St} {ρ : List Nat} {a : Act} (m : Tm G st ρ a) {i : Nat} {x : SV} {v : Value} (hi : i < G.N) (hx : x.den ρ = some v) (o : List (Nat × TypeId × List SV)) (n : Nat) (h : List HP) (c : Prop) : Tm G ⟨(i, x) :: st.t, o, n, h, c⟩ ρ (a.put (some i) v) := by
  refine ⟨by simp [Act.put, m.size], m.defs, fun t y e => ?_⟩
  simp only [getT] at e
  split at e
  · rename_i hb
    have hb' := beq_of hb
    subst hb'
    injection e with e
    subst e
    refine ⟨hi, ?_⟩
    rw [hx]
    simp [Act.put, m.size, hi]
  · rename_i hb
    have hne : i ≠ t := fun c => by subst c; rw [Nat.beq_refl] at hb; cases hb
    obtain ⟨h1, h2⟩ := m.get t y e
    refine ⟨h1, ?_⟩
    rw [h2]
    simp [Act.put, Array.getElem?_setIfInBounds_ne hne]
theorem Tm.same {G : Gl} {st : St} {ρ : List Nat} {a : Act} (m : Tm G st ρ a) {st' : St} (h : st'.t = st.t) : Tm G st' ρ a := ⟨m.size, m.defs, by rw [h]; exact m.get⟩

theorem putK_sound {G : Gl} {st : St} {d : Option Nat} {x : SV} {q : Option Prop} {K : St → Prop} (h : putK G st d x q K) (hK : Good K) :
    (st.c ∧ holds q) ∧ ∀ ρ a w v, x.den ρ = some v → Tm G st ρ a → Mem G st ρ w → ∃ st', K st' ∧ Tm G st' ρ (a.put d v) ∧ Mem G st' ρ w := by
  obtain ⟨t, o, n, hh, c⟩ := st
  unfold putK at h
  cases d with
  | some i =>
    simp only at h
    split at h
    · rename_i hi
      have hi' : i < G.N := Nat.le_of_ble_eq_true hi
      cases q with
      | none =>
        simp only at h
        have hc := hK _ h
        exact ⟨⟨hc, trivial⟩, fun ρ a w v hx m mm => ⟨_, h, m.put_ hi' hx _ _ _ _, mm.same rfl rfl rfl⟩⟩
      | some p =>
        simp only at h
        have hc := hK _ h
        exact ⟨hc, fun ρ a w v hx m mm => ⟨_, h, m.put_ hi' hx _ _ _ _, mm.same rfl rfl rfl⟩⟩
    · exact h.elim
  | none =>
    cases q with
    | none =>
      simp only at h
      have hc := hK _ h
      exact ⟨⟨hc, trivial⟩, fun ρ a w v hx m mm => ⟨_, h, m, mm⟩⟩
    | some p =>
      simp only at h
      have hc := hK _ h
      exact ⟨hc, fun ρ a w v hx m mm => ⟨_, h, m.same rfl, mm.same rfl rfl rfl⟩⟩

/-- what has been asked for till here; then the stop -/
def stp (st : St) (K : St → Prop) : Prop := match st with
  | ⟨t, o, n, h, c⟩ => c ∧ K ⟨t, o, n, h, True⟩
theorem stp_iff {st : St} {K : St → Prop} : stp st K ↔ st.c ∧ K { st with c := True } := by cases st; exact .rfl

/-! where the run stops and asks -/
inductive LoadAt (G : Gl) (t : TypeId) (ad : Addr) (st : St) (K : SV → Prop) : Prop
  | mk (x : Value) (h : ∀ ρ w, Mem G st ρ w → (Instr.loadAt t (.pointer (some ad))).run G.P w = .ok x w) (k : K (.v x))
inductive RunQ (G : Gl) (o : Oper) (st : St) (K : SV → Prop) : Prop
  | mk (x : Value) (h : ∀ ρ a w, Tm G st ρ a → Mem G st ρ w → (execOp a.eval o).run G.P w = .ok (.value x) w) (k : K (.v x))
inductive CallQ (G : Gl) (f : FuncId) (args : List Value) (st : St) (K : SV → Prop) : Prop
  | mk (x : Value) (h : ∀ ρ w, Mem G st ρ w → Calls G.P f args.toArray w fun e w' => e = .returned x ∧ Mem G st ρ w') (k : K (.v x))
/-- a panic that may leave the call -/
def PX (G : Gl) (ch : List PanicEntry) (w : World) : Prop := G.X ch ∧ Sat G.RX w ∧ Wd G.w0 w
/-- slots that are known where a panic leaves -/
def axA (l : List (Nat × Value)) (a : Act) : Prop := ∀ p ∈ l, a.tmps.getD p.1 undef = p.2
def axAt : List (Nat × Value) → St → Prop
  | [], _ => True
  | p :: l, st => getT st.t p.1 = some (.v p.2) ∧ axAt l st
theorem axAt_sound {G : Gl} {st : St} {ρ : List Nat} {a : Act} (m : Tm G st ρ a) : ∀ {l : List (Nat × Value)}, axAt l st → axA l a
  | [], _ => fun p hp => by cases hp
  | q :: l, h => fun p hp => by
    rcases List.mem_cons.1 hp with rfl | hp
    · have := (m.get _ _ h.1).2
      simp only [SV.den, Option.some.injEq] at this
      exact this.symm
    · exact axAt_sound m h.2 p hp
def PXE (G : Gl) (e : Exit) (a : Act) (w : World) : Prop := ∃ ch, e = .panic ch ∧ a.defers = G.D ∧ axA G.AX a ∧ PX G ch w
theorem PXE.put {G : Gl} {d : Option Nat} {v : Value} {c : List PanicEntry} {a : Act} {w : World} (hax : ∀ p ∈ G.AX, d ≠ some p.1) (h : PXE G (.panic c) (Act.put a d v) w) : PXE G (.panic c) a w := by
  obtain ⟨ch, e, hd, ha, h⟩ := h
  refine ⟨ch, e, ?_, fun p hp => ?_, h⟩
  · cases d <;> exact hd
  · rw [← ha p hp]
    have hne := hax p hp
    cases d with
    | none => rfl
    | some i =>
      have hi : i ≠ p.1 := fun c => hne (by rw [c])
      simp [Act.put, Array.getD_eq_getD_getElem?, Array.getElem?_setIfInBounds, hi]
def axFree (l : List (Nat × Value)) (all : List Oper) : Bool := match l with
  | [] => true
  | l => all.all fun o => match o.dst with
    | none => true
    | some d => l.all fun p => !(Nat.beq p.1 d)
theorem axFree_spec {l : List (Nat × Value)} {all : List Oper} (h : axFree l all = true) : ∀ o ∈ all, ∀ p ∈ l, o.dst ≠ some p.1 := by
  intro o ho p hp e
  cases l with
  | nil => cases hp
  | cons q l =>
    have h1 := List.all_eq_true.1 (show all.all _ = true from h) o ho
    rw [e] at h1
    have h2 := List.all_eq_true.1 h1 p hp
    rw [Nat.beq_refl] at h2
    cases h2
inductive CallAt (G : Gl) (f : FuncId) (args : List Value) (st : St) (K : SV → St → Prop) : Prop
  | mk (h : ∀ ρ w, Mem G st ρ w → Calls G.P f args.toArray w fun e w' => ∃ v hs, e = .returned v ∧ Mem G { st with h := hs } ρ w' ∧ K (.v v) { st with h := hs })
  | px (ha : axAt G.AX st) (h : ∀ ρ w, Mem G st ρ w → Calls G.P f args.toArray w fun e w' => ∃ ch, e = .panicked ch ∧ PX G ch w')
/-- the named blocks, and maybe more -/
def Ext (ρ ρ' : List Nat) : Prop := ∃ m, ρ' = ρ ++ m
theorem Ext.refl (ρ : List Nat) : Ext ρ ρ := ⟨[], by simp⟩
inductive OpAt (G : Gl) (o : Oper) (st : St) (K : St → Prop) : Prop
  | mk (h : ∀ ρ a w, Tm G st ρ a → Mem G st ρ w → o.wp G.P a w (fun a' w' => ∃ st' ρ', K st' ∧ Tm G st' ρ' a' ∧ Mem G st' ρ' w' ∧ Ext ρ ρ') fun _ _ _ => False)
  | px (h : ∀ ρ a w, Tm G st ρ a → Mem G st ρ w → o.wp G.P a w (fun _ _ => False) fun e a' w' => PXE G e a' w')

theorem Oper.wp_anyQ {P : Program} {o : Oper} {a : Act} {w : World} {K : Act → World → Prop} {Q : Exit → Act → World → Prop} (h : o.wp P a w K fun _ _ _ => False) : o.wp P a w K Q := by
  unfold Oper.wp at *
  generalize (execOp a.eval o).run P w = r at *
  cases r with
  | ok n w' =>
    cases n <;> simp only [Oper.upon] at h ⊢ <;> first
      | exact h
      | exact Calls.mono h fun e w'' he => by
          cases e with
          | returned v => exact he
          | panicked c => exact he.elim
          | outgrown => obtain ⟨_, _, x⟩ := he; exact x.elim
  | halt x w' => cases x <;> simp only [Oper.upon] at h ⊢

theorem Oper.wp_px {P : Program} {o : Oper} {a : Act} {w : World} {K : Act → World → Prop} {Q Q' : Exit → Act → World → Prop} (h : o.wp P a w (fun _ _ => False) Q) (hq : ∀ e a w, Q e a w → Q' e a w) (hn : ∀ a w, ¬ Q .outgrown a w) : o.wp P a w K Q' := by
  unfold Oper.wp at *
  generalize (execOp a.eval o).run P w = r at *
  cases r with
  | ok n w' =>
    cases n <;> simp only [Oper.upon] at h ⊢ <;> first
      | exact h.elim
      | exact Calls.mono h fun e w'' he => by
          cases e with
          | returned v => exact he.elim
          | panicked c => exact hq _ _ _ he
          | outgrown => obtain ⟨x, y, z⟩ := he; exact absurd z (hn x y)
      | exact Rows.mono h fun v w'' he => he.elim
  | halt x w' =>
    cases x <;> simp only [Oper.upon] at h ⊢
    exact hq _ _ _ h
theorem PXE.no {G : Gl} (a : Act) (w : World) : ¬ PXE G .outgrown a w := by rintro ⟨ch, e, _⟩; cases e

def toSVs : List Value → List SV
  | [] => []
  | x :: l => .v x :: toSVs l
theorem toSVs_den (ρ : List Nat) : ∀ l : List Value, denL ρ (toSVs l) = some l
  | [] => rfl
  | x :: l => denL_cons.2 ⟨_, _, rfl, toSVs_den ρ l, rfl⟩
def cellsK (x : SV) (K : List SV → Prop) : Prop := match x with
  | .v (.agg cs) => forceL (toSVs cs.toList) K
  | x => K [x]
theorem cellsK_sound {x : SV} {K : List SV → Prop} (h : cellsK x K) : ∃ l, K l ∧ ∀ ρ v, x.den ρ = some v → denL ρ l = some v.cells.toList := by
  unfold cellsK at h
  split at h
  · refine ⟨_, forceL_eq h, fun ρ v e => ?_⟩
    simp only [SV.den, Option.some.injEq] at e
    subst e
    exact toSVs_den ρ _
  · rename_i hne
    refine ⟨_, h, fun ρ v e => ?_⟩
    have : v.cells = #[v] := by
      cases x with
      | v y =>
        simp only [SV.den, Option.some.injEq] at e
        subst e
        cases y <;> first | rfl | exact absurd rfl (hne _)
      | k b => simp only [SV.den, Option.some.injEq] at e; subst e; rfl
      | p n o =>
        simp only [SV.den, Option.map_eq_some_iff] at e
        obtain ⟨b, _, rfl⟩ := e
        rfl
    rw [this]
    exact denL_cons.2 ⟨_, _, e, rfl, rfl⟩

def newO (G : Gl) (d : Option Nat) (ty : TypeId) (cs : List SV) (st : St) (K : St → Prop) : Prop :=
  match st with
  | ⟨t, o, n, h, c⟩ => match d with
    | some i => match Nat.blt i G.N with
      | true => K ⟨(i, .p n 0) :: t, (n, ty, cs) :: o, n + 1, h, c⟩
      | false => False
    | none => False
theorem newO_sound {G : Gl} {d : Option Nat} {ty : TypeId} {cs : List SV} {st : St} {K : St → Prop} (h : newO G d ty cs st K) (hK : Good K) :
    st.c ∧ ∀ ρ a w vs, denL ρ cs = some vs → Tm G st ρ a → Mem G st ρ w → ∃ st' ρ', K st' ∧ Tm G st' ρ' (a.put d (.pointer (some ⟨w.heap.size, 0, none⟩))) ∧ Mem G st' ρ' (w.alloc (.cells vs.toArray ty)) ∧ Ext ρ ρ' := by
  obtain ⟨t, o, n, hh, c⟩ := st
  unfold newO at h
  cases d with
  | none => exact h.elim
  | some i =>
    simp only at h
    split at h
    · rename_i hi
      have hi' : i < G.N := Nat.le_of_ble_eq_true hi
      have hc := hK _ h
      refine ⟨hc, fun ρ a w vs hv m mm => ⟨_, ρ ++ [w.heap.size], h, ?_, (mm.new ty cs vs hv).same rfl rfl rfl, ⟨_, rfl⟩⟩⟩
      have m' : Tm G ⟨t, o, n, hh, c⟩ (ρ ++ [w.heap.size]) a := ⟨m.size, m.defs, fun t x e => ⟨(m.get t x e).1, den_ext (m.get t x e).2 _⟩⟩
      refine m'.put_ hi' ?_ _ _ _ _
      have : ρ.length = n := mm.len
      simp [SV.den, ← this]
    · exact h.elim

def oneL : List SV → Bool
  | [] => true
  | .v (.agg _) :: _ => false
  | .v (.tuple _) :: _ => false
  | _ :: l => oneL l
theorem oneL_sound {ρ : List Nat} : ∀ {l : List SV} {vs : List Value}, oneL l = true → denL ρ l = some vs → ∀ v ∈ vs, v.oneCell' = true
  | [], vs, _, h, v, hv => by cases h; cases hv
  | x :: l, vs, ho, h, v, hv => by
    obtain ⟨u, us, h1, h2, rfl⟩ := denL_cons.1 h
    unfold oneL at ho
    split at ho
    · rename_i e; cases e
    · cases ho
    · cases ho
    · rename_i e1 e2 e
      injection e with e3 e4
      subst e4
      rcases List.mem_cons.1 hv with rfl | hv
      · cases x with
        | v y =>
          simp only [SV.den, Option.some.injEq] at h1
          subst h1
          cases y <;> first | rfl | exact absurd e3.symm (e1 _) | exact absurd e3.symm (e2 _)
        | k b => simp only [SV.den, Option.some.injEq] at h1; subst h1; rfl
        | p n o =>
          simp only [SV.den, Option.map_eq_some_iff] at h1
          obtain ⟨b, _, rfl⟩ := h1
          rfl
      · exact oneL_sound ho h2 v hv
def spl (cs : List SV) (off : Nat) (ys : List SV) : List SV := cs.take off ++ (ys ++ cs.drop (off + ys.length))
theorem denL_append {ρ : List Nat} : ∀ {l m : List SV} {vs us : List Value}, denL ρ l = some vs → denL ρ m = some us → denL ρ (l ++ m) = some (vs ++ us)
  | [], m, vs, us, h, h' => by cases h; simpa using h'
  | x :: l, m, vs, us, h, h' => by
    obtain ⟨v, ws, h1, h2, rfl⟩ := denL_cons.1 h
    exact denL_cons.2 ⟨v, _, h1, denL_append h2 h', rfl⟩

def stO (P : Program) (t : TypeId) (n off : Nat) (ys : List SV) (st : St) (F : Prop) (K : St → Prop) : Prop :=
  match getO st.o n with
  | some (ty, cs) => match P.info? t with
    | some i => match Nat.beq ys.length i.size with
      | true => match oneL ys with
        | true => match Nat.ble (off + ys.length) cs.length with
          | true => forceL (spl cs off ys) fun l => forceL (setO st.o n l) fun os => match st with
            | ⟨t, _, m, h, c⟩ => K ⟨t, os, m, h, c⟩
          | false => F
        | false => F
      | false => F
    | none => F
  | none => F
theorem stO_sound {P : Program} {t : TypeId} {n off : Nat} {ys : List SV} {st : St} {F : Prop} {K : St → Prop} (h : stO P t n off ys st F K) (hK : Good K) :
    F ∨ (st.c ∧ ∀ G ρ a w v b, denL ρ ys = some v.cells.toList → ρ[n]? = some b → Tm G st ρ a → Mem G st ρ w → ∃ st' w', K st' ∧ (Instr.storeAt t (.pointer (some ⟨b, off, none⟩)) v).run P w = .ok () w' ∧ Tm G st' ρ a ∧ Mem G st' ρ w') := by
  unfold stO at h
  split at h
  · rename_i ty cs hg
    split at h
    · rename_i i hi
      split at h
      · rename_i h1
        split at h
        · rename_i h2
          split at h
          · rename_i h3
            have h := forceL_eq (forceL_eq h)
            obtain ⟨t', o', m', hh, c⟩ := st
            simp only at h hg
            have hc := hK _ h
            refine .inr ⟨hc, fun G ρ a w v b hv hb m mm => ?_⟩
            obtain ⟨b', us, e1, e2, e3⟩ := mm.ob _ (getO_mem hg)
            simp only at e1 e2 e3
            rw [hb] at e1
            injection e1 with e1
            subst e1
            have l1 := beq_of h1
            have l2 := Nat.le_of_ble_eq_true h3
            have lu := denL_length e2
            have lv := denL_length hv
            have hden : denL ρ (spl cs off ys) = some (us.take off ++ (v.cells.toList ++ us.drop (off + v.cells.toList.length))) := by
              unfold spl
              rw [lv]
              exact denL_append (denL_take _ e2) (denL_append hv (denL_drop _ e2))
            refine ⟨_, _, h, ?_, m.same rfl, (mm.set_ (cs := cs) (t := ty) hg hb hden e3).same rfl rfl rfl⟩
            have hrun := run_storeCells_at (P := P) b off ty v.cells.toList 0 us.toArray w e3 (by simp only [List.size_toArray]; omega) (oneL_sound h2 hv)
            have hsz : v.cells.size = i.size := by rw [← l1, ← lv]; simp
            simp only [Instr.storeAt, Instr.sureAddr, Sem.run_bind, Sem.run_pure, Result.andThen_ok, storeVar, sizeOf, typeInfo]
            simp only [Nat.add_zero] at hrun
            simp [hi, hsz, program, Sem.run, hrun]
          · exact .inl h
        · exact .inl h
      · exact .inl h
    · exact .inl h
  · exact .inl h
end Sy
end Go.Proofs.YteplckkoiffnnaaGreatDoor
