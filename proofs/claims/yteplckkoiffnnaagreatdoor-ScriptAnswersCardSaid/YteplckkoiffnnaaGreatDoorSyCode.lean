/-
  Symbolic runs: regions, code, loops; a function.
-/
import Derived.Test.YteplckkoiffnnaaGreatDoorSyStep
import Derived.Tactics
namespace Go.Proofs.YteplckkoiffnnaaGreatDoor
open Go.RowKit
namespace Sy
set_option linter.unusedVariables false
set_option linter.unusedSimpArgs false

theorem wanted_eq {G : Gl} {all : List Oper} {o oj : Oper} {j t : Nat} {want b : Bool} {x : SV} {st : St} {ρ : List Nat} {a : Act} (hg : o.guard = some (j, want)) (hj : all[j]? = some oj) (ht : oj.dst = some t) (hx : getT st.t t = some x) (hb : x.den ρ = some (.bool b)) (m : Tm G st ρ a) :
    Region.wanted o (yielded all.toArray a.tmps) = (b == want) := by
  obtain ⟨h1, h2⟩ := m.get t x hx
  rw [hb] at h2
  injection h2 with h2
  have hs : t < a.tmps.size := by rw [m.size]; exact h1
  have h3 : a.tmps[t]? = some (.bool b) := by
    rw [h2]
    simp [hs]
  have h4 : yielded all.toArray a.tmps j = some b := by
    unfold yielded
    simp [hj, ht, h3]
  unfold Region.wanted
  simp only [hg, h4]
  cases b <;> cases want <;> rfl
theorem wanted_undef {G : Gl} {all : List Oper} {o oj : Oper} {j t : Nat} {want : Bool} {xs : Array Value} {st : St} {ρ : List Nat} {a : Act} (hg : o.guard = some (j, want)) (hj : all[j]? = some oj) (ht : oj.dst = some t) (hx : getT st.t t = some (.v (.tuple xs))) (m : Tm G st ρ a) :
    Region.wanted o (yielded all.toArray a.tmps) = false := by
  obtain ⟨h1, h2⟩ := m.get t _ hx
  simp only [SV.den, Option.some.injEq] at h2
  have hs : t < a.tmps.size := by rw [m.size]; exact h1
  have h3 : a.tmps[t]? = some (.tuple xs) := by
    rw [h2]
    simp [hs]
  have h4 : yielded all.toArray a.tmps j = none := by
    unfold yielded
    simp [hj, ht, h3]
  unfold Region.wanted
  simp only [hg, h4]
  rfl
theorem wanted_none {o : Oper} (hg : o.guard = none) (y : Nat → Option Bool) : Region.wanted o y = true := by unfold Region.wanted; rw [hg]

def seen (st : St) (t : Nat) (b : Bool) : St := match st with
  | ⟨tm, o, n, h, c⟩ => ⟨(t, .k b) :: tm, o, n, h, c⟩
theorem seen_tm {G : Gl} {st : St} {t : Nat} {b : Bool} {ρ : List Nat} {a : Act} (m : Tm G st ρ a) (hx : getT st.t t = some (.v (.bool b))) : Tm G (seen st t b) ρ a := by
  refine ⟨m.size, m.defs, fun s y e => ?_⟩
  simp only [seen, getT] at e
  split at e
  · rename_i hb
    have hb' := beq_of hb
    subst hb'
    injection e with e
    subst e
    exact ⟨(m.get _ _ hx).1, (m.get _ _ hx).2⟩
  · exact m.get s y e

/-- operations one by one, guarded ones too -/
def opsG (step : Oper → St → (St → Prop) → Prop) (G : Gl) (all : List Oper) : List Oper → St → (St → Prop) → Prop
  | [], st, K => K st
  | o :: rest, st, K => match o.guard with
    | none => step o st fun st => opsG step G all rest st K
    | some (j, want) => match all[j]? with
      | some oj => match oj.dst with
        | some t => match getT st.t t with
          | some (.k b) => match (b == want) with
            | true => step o st fun st => opsG step G all rest st K
            | false => putK G st o.dst (.v undef) none fun st => opsG step G all rest st K
          | some (.v (.bool b)) => (b = want → step o (seen st t want) fun st => opsG step G all rest st K) ∧ (b = !want → putK G (seen st t (!want)) o.dst (.v undef) none fun st => opsG step G all rest st K)
          | some (.v (.tuple _)) => putK G st o.dst (.v undef) none fun st => opsG step G all rest st K
          | _ => False
        | none => False
      | none => False

/-- what a step must be -/
def Step1 (G : Gl) (step : Oper → St → (St → Prop) → Prop) : Prop := ∀ {o st K}, step o st K → Good K →
  st.c ∧ ∀ ρ a w Q, (∀ e a w, PXE G e a w → Q e a w) → Tm G st ρ a → Mem G st ρ w → o.wp G.P a w (fun a' w' => ∃ st' ρ', K st' ∧ Tm G st' ρ' a' ∧ Mem G st' ρ' w') Q

theorem ops_sound {G : Gl} {step : Oper → St → (St → Prop) → Prop} (hs : Step1 G step) {all : List Oper} : ∀ {l : List Oper} {st : St} {K : St → Prop}, opsG step G all l st K → Good K →
    st.c ∧ ∀ ρ a w Q, (∀ e a w, PXE G e a w → Q e a w) → Tm G st ρ a → Mem G st ρ w → (∀ st ρ a w, K st → Tm G st ρ a → Mem G st ρ w → Q .normal a w) → wpList G.P all.toArray Q l a w
  | [], st, K, h, hK => ⟨hK _ h, fun ρ a w Q hx m mm hq => hq st ρ a w h m mm⟩
  | o :: rest, st, K, h, hK => by
    have good : Good (fun st => opsG step G all rest st K) := fun st h => (ops_sound hs h hK).1
    have yes : ∀ {st0 : St}, (step o st0 fun st => opsG step G all rest st K) → st0.c ∧ ∀ ρ a w Q, (∀ e a w, PXE G e a w → Q e a w) → Tm G st0 ρ a → Mem G st0 ρ w → Region.wanted o (yielded all.toArray a.tmps) = true →
        (∀ st ρ a w, K st → Tm G st ρ a → Mem G st ρ w → Q .normal a w) → wpList G.P all.toArray Q (o :: rest) a w := by
      intro st0 h
      obtain ⟨hc, hw⟩ := hs h good
      refine ⟨hc, fun ρ a w Q hx m mm hwt hq => ?_⟩
      unfold wpList
      rw [if_pos hwt]
      refine .inl (Oper.wp_mono (fun a' w' ⟨st', ρ', k, m', mm'⟩ => ?_) (hw ρ a w Q hx m mm))
      exact (ops_sound hs k hK).2 ρ' a' w' Q hx m' mm' hq
    have no : ∀ {st0 : St}, (putK G st0 o.dst (.v undef) none fun st => opsG step G all rest st K) → st0.c ∧ ∀ ρ a w Q, (∀ e a w, PXE G e a w → Q e a w) → Tm G st0 ρ a → Mem G st0 ρ w → Region.wanted o (yielded all.toArray a.tmps) = false →
        (∀ st ρ a w, K st → Tm G st ρ a → Mem G st ρ w → Q .normal a w) → wpList G.P all.toArray Q (o :: rest) a w := by
      intro st0 h
      obtain ⟨⟨hc, _⟩, hp⟩ := putK_sound h good
      refine ⟨hc, fun ρ a w Q hx m mm hwt hq => ?_⟩
      unfold wpList
      rw [if_neg (by rw [hwt]; simp)]
      obtain ⟨st', k, m', mm'⟩ := hp ρ a w undef rfl m mm
      exact (ops_sound hs k hK).2 ρ _ w Q hx m' mm' hq
    unfold opsG at h
    split at h
    · rename_i hg
      obtain ⟨hc, hw⟩ := yes h
      exact ⟨hc, fun ρ a w Q hX m mm hq => hw ρ a w Q hX m mm (wanted_none hg _) hq⟩
    · rename_i j want hg
      split at h
      · rename_i oj hj
        split at h
        · rename_i t ht
          split at h
          · rename_i b hx
            split at h
            · rename_i hb
              obtain ⟨hc, hw⟩ := yes h
              exact ⟨hc, fun ρ a w Q hX m mm hq => hw ρ a w Q hX m mm (by rw [wanted_eq hg hj ht hx rfl m, hb]) hq⟩
            · rename_i hb
              obtain ⟨hc, hw⟩ := no h
              exact ⟨hc, fun ρ a w Q hX m mm hq => hw ρ a w Q hX m mm (by rw [wanted_eq hg hj ht hx rfl m, hb]) hq⟩
          · rename_i b hx
            by_cases hb : b = want
            · subst hb
              obtain ⟨hc, hw⟩ := yes (h.1 rfl)
              exact ⟨hc, fun ρ a w Q hX m mm hq => hw ρ a w Q hX (seen_tm m hx) (mm.same rfl rfl rfl) (by rw [wanted_eq hg hj ht hx rfl m]; simp) hq⟩
            · have hb' : b = !want := by cases b <;> cases want <;> simp_all
              subst hb'
              obtain ⟨hc, hw⟩ := no (h.2 rfl)
              exact ⟨hc, fun ρ a w Q hX m mm hq => hw ρ a w Q hX (seen_tm m hx) (mm.same rfl rfl rfl) (by rw [wanted_eq hg hj ht hx rfl m]; simp) hq⟩
          · rename_i hx
            obtain ⟨hc, hw⟩ := no h
            exact ⟨hc, fun ρ a w Q hX m mm hq => hw ρ a w Q hX m mm (wanted_undef hg hj ht hx m) hq⟩
          · exact h.elim
        · exact h.elim
      · exact h.elim

/-- an operation of a region that draws its order -/
def opQ (G : Gl) (o : Oper) (st : St) (K : St → Prop) : Prop :=
  match o.op with
  | .load t x => ev st x False fun vx => match vx with
    | .v (.pointer (some ad)) => stp st fun st => LoadAt G t ad st fun r => putK G st o.dst r none K
    | _ => q1 G.P G.tr st o (stp st fun st => RunQ G o st fun r => putK G st o.dst r none K) fun r q => putK G st o.dst r q K
  | .call c => match c.callee with
    | .value x => ev st x False fun vx => fnK vx False fun f caps => match canEnter G.P f with
      | true => evs st False c.args.toList fun vs => reals False (appV vs caps) fun rs => stp st fun st => CallQ G f rs st fun r => putK G st o.dst r none K
      | false => False
    | _ => q1 G.P G.tr st o (stp st fun st => RunQ G o st fun r => putK G st o.dst r none K) fun r q => putK G st o.dst r q K
  | _ => q1 G.P G.tr st o (stp st fun st => RunQ G o st fun r => putK G st o.dst r none K) fun r q => putK G st o.dst r q K

/-- the same memory -/
def SameM (st st' : St) : Prop := st'.o = st.o ∧ st'.n = st.n ∧ st'.h = st.h
theorem SameM.mem {G : Gl} {st st' : St} (h : SameM st st') {ρ : List Nat} {w : World} : Mem G st' ρ w ↔ Mem G st ρ w :=
  ⟨fun m => m.same h.1.symm h.2.1.symm h.2.2.symm, fun m => m.same h.1 h.2.1 h.2.2⟩
theorem putK_same {G : Gl} {st : St} {d : Option Nat} {x : SV} {q : Option Prop} {K : St → Prop} (h : putK G st d x q K) (hK : Good K) :
    (st.c ∧ holds q) ∧ ∀ ρ a v, x.den ρ = some v → Tm G st ρ a → ∃ st', K st' ∧ SameM st st' ∧ Tm G st' ρ (a.put d v) := by
  obtain ⟨t, o, n, hh, c⟩ := st
  unfold putK at h
  cases d with
  | some i =>
    simp only at h
    split at h
    · rename_i hi
      have hi' : i < G.N := Nat.le_of_ble_eq_true hi
      cases q with
      | none =>
        simp only at h
        have hc := hK _ h
        exact ⟨⟨hc, trivial⟩, fun ρ a v hx m => ⟨_, h, ⟨rfl, rfl, rfl⟩, m.put_ hi' hx _ _ _ _⟩⟩
      | some p =>
        simp only at h
        have hc := hK _ h
        exact ⟨hc, fun ρ a v hx m => ⟨_, h, ⟨rfl, rfl, rfl⟩, m.put_ hi' hx _ _ _ _⟩⟩
    · exact h.elim
  | none =>
    cases q with
    | none =>
      simp only at h
      have hc := hK _ h
      exact ⟨⟨hc, trivial⟩, fun ρ a v hx m => ⟨_, h, ⟨rfl, rfl, rfl⟩, m⟩⟩
    | some p =>
      simp only at h
      have hc := hK _ h
      exact ⟨hc, fun ρ a v hx m => ⟨_, h, ⟨rfl, rfl, rfl⟩, m.same rfl⟩⟩

theorem seen_mem {G : Gl} {st : St} (t : Nat) (b : Bool) (ρ : List Nat) : Mem G (seen st t b) ρ = Mem G st ρ := funext fun w => propext ⟨fun m => m.same rfl rfl rfl, fun m => m.same rfl rfl rfl⟩

def Quiet1 (G : Gl) (o : Oper) (st : St) (K : St → Prop) : Prop :=
  st.c ∧ ∀ ρ a w0, Tm G st ρ a → Mem G st ρ w0 → ∃ v st', K st' ∧ SameM st st' ∧ (∀ w, Mem G st ρ w → o.quietAt G.P a (Mem G st ρ) w v) ∧ Tm G st' ρ (a.put o.dst v)

theorem quiet_q1 {G : Gl} {o : Oper} {st : St} {K : St → Prop} (hK : Good K) (h : q1 G.P G.tr st o (stp st fun st => RunQ G o st fun r => putK G st o.dst r none K) fun r q => putK G st o.dst r q K) : Quiet1 G o st K := by
  rcases q1_sound h with h | ⟨x, q, h, hy⟩
  · obtain ⟨hc, ⟨r, hr, h⟩⟩ := stp_iff.1 h
    obtain ⟨_, hp⟩ := putK_same h hK
    refine ⟨hc, fun ρ a w0 m mm0 => ?_⟩
    obtain ⟨st', k, hs, m'⟩ := hp ρ a r rfl (m.same rfl)
    refine ⟨r, st', k, hs, fun w mm => ?_, m'⟩
    unfold Oper.quietAt
    rw [hr ρ a w (m.same rfl) (mm.same rfl rfl rfl)]
    exact ⟨rfl, rfl⟩
  · obtain ⟨⟨hc, hq⟩, hp⟩ := putK_same h hK
    refine ⟨hc, fun ρ a w0 m mm0 => ?_⟩
    have hy := hy hq
    obtain ⟨v, e1, e2⟩ := hy G ρ a w0 m mm0.ob
    obtain ⟨st', k, hs, m'⟩ := hp ρ a v e1 m
    refine ⟨v, st', k, hs, fun w' mm' => ?_, m'⟩
    obtain ⟨v', e3, e4⟩ := hy G ρ a w' m mm'.ob
    rw [e1] at e3
    injection e3 with e3
    subst e3
    unfold Oper.quietAt
    rw [e4]
    exact ⟨rfl, rfl⟩

theorem opQ_sound {G : Gl} {o : Oper} {st : St} {K : St → Prop} (h : opQ G o st K) (hK : Good K) : Quiet1 G o st K := by
  unfold opQ at h
  split at h
  case h_1 t x ho =>
    rcases ev_sound h with h | ⟨sx, h, ex⟩
    · exact h.elim
    split at h
    · rename_i ad
      obtain ⟨hc, ⟨r, hr, h⟩⟩ := stp_iff.1 h
      refine ⟨hc, fun ρ a w0 m mm0 => ?_⟩
      obtain ⟨_, hp⟩ := putK_same h hK
      obtain ⟨st', k, hs, m'⟩ := hp ρ a r rfl (m.same rfl)
      refine ⟨r, st', k, hs, fun w mm => ?_, m'⟩
      have h1 := ex G ρ a m
      simp only [SV.den, Option.some.injEq] at h1
      unfold Oper.quietAt
      have : (execOp a.eval o).run G.P w = .ok (.value r) w := by
        simp [execOp, ho, ← h1, hr ρ w (mm.same rfl rfl rfl)]
      rw [this]
      exact ⟨rfl, rfl⟩
    · exact quiet_q1 hK h
  case h_2 c ho =>
    split at h
    · rename_i x hc
      rcases ev_sound h with h | ⟨sx, h, ex⟩
      · exact h.elim
      rcases fnK_sound h with h | ⟨f, caps, h, efn⟩
      · exact h.elim
      split at h
      · rename_i hen
        rcases evs_sound h with h | ⟨vs, h, e⟩
        · exact h.elim
        rcases reals_sound h with h | ⟨rs, h, er⟩
        · exact h.elim
        obtain ⟨hcc, ⟨r, hr, h⟩⟩ := stp_iff.1 h
        refine ⟨hcc, fun ρ a w0 m mm0 => ?_⟩
        obtain ⟨_, hp⟩ := putK_same h hK
        obtain ⟨st', k, hs, m'⟩ := hp ρ a r rfl (m.same rfl)
        refine ⟨r, st', k, hs, fun w mm => ?_, m'⟩
        have hfx : a.eval x = .func (.func f) #[] caps.toArray := by
          have := ex G ρ a m
          rw [efn ρ] at this
          injection this with this
          exact this.symm
        unfold Oper.quietAt
        rw [canEnter_sound hen ho hc a hfx w]
        have ha : c.args.map a.eval ++ caps.toArray = rs.toArray := by
          have h3 := appV_den (caps := caps) (e G ρ a m)
          rw [er ρ] at h3
          injection h3 with h3
          apply Array.ext'
          simpa using h3.symm
        rw [ha]
        refine ⟨rfl, (hr ρ w (mm.same rfl rfl rfl)).mono ?_⟩
        rintro e w' ⟨rfl, mm'⟩
        exact ⟨rfl, mm'.same rfl rfl rfl⟩
      · exact h.elim
    · exact quiet_q1 hK h
  case h_3 => exact quiet_q1 hK h

theorem opsQ_sound {G : Gl} {all : List Oper} : ∀ {l : List Oper} {st : St} {K : St → Prop}, opsG (opQ G) G all l st K → Good K →
    st.c ∧ ∀ ρ a w0, Tm G st ρ a → Mem G st ρ w0 → wpQuiet G.P all.toArray (Mem G st ρ) (fun a' => ∃ st', K st' ∧ SameM st st' ∧ Tm G st' ρ a') l a
  | [], st, K, h, hK => ⟨hK _ h, fun ρ a w0 m mm => ⟨st, h, ⟨rfl, rfl, rfl⟩, m⟩⟩
  | o :: rest, st, K, h, hK => by
    have good : Good (fun st => opsG (opQ G) G all rest st K) := fun st h => (opsQ_sound h hK).1
    have step : ∀ {st0 st' : St} {ρ : List Nat} {a' : Act} {w0 : World}, SameM st0 st' → opsG (opQ G) G all rest st' K → Tm G st' ρ a' → Mem G st0 ρ w0 →
        wpQuiet G.P all.toArray (Mem G st0 ρ) (fun a' => ∃ st', K st' ∧ SameM st0 st' ∧ Tm G st' ρ a') rest a' := by
      intro st0 st' ρ a' w0 hs k m' mm
      have h1 := (opsQ_sound k hK).2 ρ a' w0 m' (hs.mem.2 mm)
      have e : (Mem G st' ρ) = (Mem G st0 ρ) := funext fun w => propext hs.mem
      rw [e] at h1
      have e2 : (fun a' => ∃ st'', K st'' ∧ SameM st' st'' ∧ Tm G st'' ρ a') = (fun a' => ∃ st'', K st'' ∧ SameM st0 st'' ∧ Tm G st'' ρ a') := by
        funext a''
        apply propext
        constructor <;> rintro ⟨x, k, s, m⟩ <;> refine ⟨x, k, ?_, m⟩
        · exact ⟨s.1.trans hs.1, s.2.1.trans hs.2.1, s.2.2.trans hs.2.2⟩
        · exact ⟨s.1.trans hs.1.symm, s.2.1.trans hs.2.1.symm, s.2.2.trans hs.2.2.symm⟩
      rw [e2] at h1
      exact h1
    have yes : ∀ {st0 : St}, (opQ G o st0 fun st => opsG (opQ G) G all rest st K) → st0.c ∧ ∀ ρ a w0, Tm G st0 ρ a → Mem G st0 ρ w0 → Region.wanted o (yielded all.toArray a.tmps) = true →
        wpQuiet G.P all.toArray (Mem G st0 ρ) (fun a' => ∃ st', K st' ∧ SameM st0 st' ∧ Tm G st' ρ a') (o :: rest) a := by
      intro st0 h
      obtain ⟨hc, hw⟩ := opQ_sound h good
      refine ⟨hc, fun ρ a w0 m mm hwt => ?_⟩
      unfold wpQuiet
      rw [if_pos hwt]
      obtain ⟨v, st', k, hs, hq, m'⟩ := hw ρ a w0 m mm
      exact ⟨v, hq, step hs k m' mm⟩
    have no : ∀ {st0 : St}, (putK G st0 o.dst (.v undef) none fun st => opsG (opQ G) G all rest st K) → st0.c ∧ ∀ ρ a w0, Tm G st0 ρ a → Mem G st0 ρ w0 → Region.wanted o (yielded all.toArray a.tmps) = false →
        wpQuiet G.P all.toArray (Mem G st0 ρ) (fun a' => ∃ st', K st' ∧ SameM st0 st' ∧ Tm G st' ρ a') (o :: rest) a := by
      intro st0 h
      obtain ⟨⟨hc, _⟩, hp⟩ := putK_same h good
      refine ⟨hc, fun ρ a w0 m mm hwt => ?_⟩
      unfold wpQuiet
      rw [if_neg (by rw [hwt]; simp)]
      obtain ⟨st', k, hs, m'⟩ := hp ρ a undef rfl m
      exact step hs k m' mm
    unfold opsG at h
    split at h
    · rename_i hg
      obtain ⟨hc, hw⟩ := yes h
      exact ⟨hc, fun ρ a w0 m mm => hw ρ a w0 m mm (wanted_none hg _)⟩
    · rename_i j want hg
      split at h
      · rename_i oj hj
        split at h
        · rename_i t ht
          split at h
          · rename_i b hx
            split at h
            · rename_i hb
              obtain ⟨hc, hw⟩ := yes h
              exact ⟨hc, fun ρ a w0 m mm => hw ρ a w0 m mm (by rw [wanted_eq hg hj ht hx rfl m, hb])⟩
            · rename_i hb
              obtain ⟨hc, hw⟩ := no h
              exact ⟨hc, fun ρ a w0 m mm => hw ρ a w0 m mm (by rw [wanted_eq hg hj ht hx rfl m, hb])⟩
          · rename_i b hx
            by_cases hb : b = want
            · subst hb
              obtain ⟨hc, hw⟩ := yes (h.1 rfl)
              exact ⟨hc, fun ρ a w0 m mm => (seen_mem (G := G) (st := st) t _ ρ) ▸ hw ρ a w0 (seen_tm m hx) (mm.same rfl rfl rfl) (by rw [wanted_eq hg hj ht hx rfl m]; simp)⟩
            · have hb' : b = !want := by cases b <;> cases want <;> simp_all
              subst hb'
              obtain ⟨hc, hw⟩ := no (h.2 rfl)
              exact ⟨hc, fun ρ a w0 m mm => (seen_mem (G := G) (st := st) t _ ρ) ▸ hw ρ a w0 (seen_tm m hx) (mm.same rfl rfl rfl) (by rw [wanted_eq hg hj ht hx rfl m]; simp)⟩
          · rename_i hx
            obtain ⟨hc, hw⟩ := no h
            exact ⟨hc, fun ρ a w0 m mm => hw ρ a w0 m mm (wanted_undef hg hj ht hx m)⟩
          · exact h.elim
        · exact h.elim
      · exact h.elim

/-! code -/
def Le (G : Gl) (st st' : St) : Prop := ∀ ρ a w, Tm G st ρ a → Mem G st ρ w → ∃ ρ', Tm G st' ρ' a ∧ Mem G st' ρ' w
inductive LoopAt (G : Gl) (body : St → (St → Prop) → Prop) (st : St) : Prop
  | mk (I : Nat → St → Prop) (Kc : Nat → St → Prop) (hk : ∀ m s, Kc m s → s.c ∧ ∃ m' s', m' < m ∧ Le G s s' ∧ I m' s') (h0 : ∀ ρ a w, Tm G st ρ a → Mem G st ρ w → ∃ m st' ρ', I m st' ∧ Tm G st' ρ' a ∧ Mem G st' ρ' w) (round : ∀ m st, I m st → body st (Kc m))
inductive RegAt (G : Gl) (id : Nat) (os : Array Oper) (st : St) (K : St → Prop) : Prop
  | mk (h : ∀ ρ a w, Tm G st ρ a → Mem G st ρ w → (Code.region id os true).wp G.P (fun e a' w' => (e = .normal ∧ ∃ st' ρ', K st' ∧ Tm G st' ρ' a' ∧ Mem G st' ρ' w') ∨ PXE G e a' w') a w)
def iff (b : Bool) (A B : Prop) : Prop := (b = true → A) ∧ (b = false → B)

def run (G : Gl) : Code → St → (St → Prop) → (Nat → St → Prop) → (St → Prop) → Prop
  | .skip, st, K, _, _ => K st
  | .region id os draw, st, K, _, _ => match draw with
    | false => opsG (op1 G) G os.toList os.toList st K
    | true => stp st fun st => RegAt G id os st K
  | .seq a b, st, K, E, R => run G a st (fun st => run G b st K E R) E R
  | .cond c a b, st, K, E, R => ev st c False fun v => match v with
    | .k x => match x with
      | true => run G a st K E R
      | false => run G b st K E R
    | .v (.bool x) => iff x (run G a st K E R) (run G b st K E R)
    | _ => False
  | .block id c, st, K, E, R => run G c st K (fun j st => match Nat.beq j id with | true => K st | false => E j st) R
  | .loop c, st, K, E, R => stp st fun st => LoopAt G (fun st K' => run G c st K' E R) st
  | .exit id, st, _, E, _ => E id st
  | .ret, st, _, _, R => R st
  | _, _, _, _, _ => False

theorem least (p : Nat → Prop) (h : ∃ n, p n) : ∃ n, p n ∧ ∀ m, p m → n ≤ m := by
  obtain ⟨n, hn⟩ := h
  induction n using Nat.strongRecOn with
  | _ n ih =>
    by_cases c : ∃ m, m < n ∧ p m
    · obtain ⟨m, hm, hp⟩ := c
      exact ih m hm hp
    · exact ⟨n, hn, fun m hp => Nat.le_of_not_lt fun hlt => c ⟨m, hlt, hp⟩⟩
theorem wp_loop_rel {P : Program} {c : Code} {Q : Exit → Act → World → Prop} {a : Act} {w : World} (I : Nat → Act → World → Prop) {m : Nat} (h0 : I m a w)
    (round : ∀ m a w, I m a w → c.wp P (Exit.then (fun a' w' => ∃ m', m' < m ∧ I m' a' w') Q) a w) : (Code.loop c).wp P Q a w := by
  classical
  let μ : Act → World → Nat := fun a w => if h : ∃ n, I n a w then Classical.choose (least _ h) else 0
  have hμ : ∀ a w n, I n a w → I (μ a w) a w ∧ μ a w ≤ n := fun a w n h => by
    have he : ∃ n, I n a w := ⟨n, h⟩
    have hs := Classical.choose_spec (least _ he)
    have e : μ a w = Classical.choose (least _ he) := dif_pos he
    rw [e]
    exact ⟨hs.1, hs.2 n h⟩
  refine wp_loop (fun a w => ∃ n, I n a w) μ ⟨m, h0⟩ fun a w ⟨n, h⟩ => ?_
  refine wp_mono (round (μ a w) a w (hμ a w n h).1) ?_
  intro e a' w' hq
  cases e with
  | normal =>
    obtain ⟨m', hlt, hI⟩ := hq
    exact ⟨⟨m', hI⟩, Nat.lt_of_le_of_lt (hμ a' w' m' hI).2 hlt⟩
  | exit _ => exact hq
  | goto _ => exact hq
  | ret => exact hq
  | panic _ => exact hq
  | outgrown => exact hq

theorem run_sound {G : Gl} (hm : G.P.follows .mixedOrders = true) : ∀ (c : Code) {st : St} {K : St → Prop} {E : Nat → St → Prop} {R : St → Prop}, run G c st K E R → Good K → (∀ j, Good (E j)) → Good R →
    st.c ∧ ∀ ρ a w Q, (∀ e a w, PXE G e a w → Q e a w) → Tm G st ρ a → Mem G st ρ w → (∀ st ρ a w, K st → Tm G st ρ a → Mem G st ρ w → Q .normal a w) → (∀ j st ρ a w, E j st → Tm G st ρ a → Mem G st ρ w → Q (.exit j) a w) →
      (∀ st ρ a w, R st → Tm G st ρ a → Mem G st ρ w → Q .ret a w) → c.wp G.P Q a w
  | .skip, st, K, E, R, h, hK, hE, hR => by
    unfold run at h
    exact ⟨hK _ h, fun ρ a w Q hx m mm q1 q2 q3 => wp_skip (q1 _ _ _ _ h m mm)⟩
  | .region id os draw, st, K, E, R, h, hK, hE, hR => by
    unfold run at h
    cases draw with
    | false =>
      simp only at h
      obtain ⟨hc, hw⟩ := ops_sound (G := G) (step := op1 G) (fun h hK => op1_sound h hK) h hK
      refine ⟨hc, fun ρ a w Q hx m mm q1 q2 q3 => wp_region_list ?_⟩
      simpa using hw ρ a w Q hx m mm q1
    | true =>
      simp only at h
      obtain ⟨hc, ⟨h⟩⟩ := stp_iff.1 h
      refine ⟨hc, fun ρ a w Q hx m mm q1 q2 q3 => ?_⟩
      refine wp_mono (h ρ a w (m.same rfl) (mm.same rfl rfl rfl)) ?_
      rintro e a' w' (⟨rfl, st', ρ', k, m', mm'⟩ | hp)
      · exact q1 st' ρ' a' w' k m' mm'
      · exact hx _ _ _ hp
  | .seq x y, st, K, E, R, h, hK, hE, hR => by
    unfold run at h
    obtain ⟨hc, hw⟩ := run_sound hm x h (fun st h => (run_sound hm y h hK hE hR).1) hE hR
    refine ⟨hc, fun ρ a w Q hx m mm q1 q2 q3 => wp_seq ?_⟩
    refine hw ρ a w _ (fun e a w hp => by obtain ⟨ch, e', h'⟩ := hp; subst e'; exact hx _ _ _ ⟨ch, rfl, h'⟩) m mm (fun st ρ a w k m mm => ?_) q2 q3
    exact (run_sound hm y k hK hE hR).2 ρ a w Q hx m mm q1 q2 q3
  | .cond c x y, st, K, E, R, h, hK, hE, hR => by
    unfold run at h
    rcases ev_sound h with h | ⟨s, h, e⟩
    · exact h.elim
    have fin : ∀ b : Bool, (∀ ρ, s.den ρ = some (.bool b)) → run G (if b then x else y) st K E R → st.c ∧ ∀ ρ a w Q, (∀ e a w, PXE G e a w → Q e a w) → Tm G st ρ a → Mem G st ρ w → (∀ st ρ a w, K st → Tm G st ρ a → Mem G st ρ w → Q .normal a w) → (∀ j st ρ a w, E j st → Tm G st ρ a → Mem G st ρ w → Q (.exit j) a w) →
      (∀ st ρ a w, R st → Tm G st ρ a → Mem G st ρ w → Q .ret a w) → (Code.cond c x y).wp G.P Q a w := by
      intro b hb h
      have hev : ∀ ρ a, Tm G st ρ a → a.eval c = .bool b := fun ρ a m => by
        have := e G ρ a m
        rw [hb ρ] at this
        injection this with this
        exact this.symm
      cases b with
      | true =>
        obtain ⟨hc, hw⟩ := run_sound hm x h hK hE hR
        exact ⟨hc, fun ρ a w Q hx m mm q1 q2 q3 => wp_cond (hev ρ a m) (hw ρ a w Q hx m mm q1 q2 q3)⟩
      | false =>
        obtain ⟨hc, hw⟩ := run_sound hm y h hK hE hR
        exact ⟨hc, fun ρ a w Q hx m mm q1 q2 q3 => wp_cond (hev ρ a m) (hw ρ a w Q hx m mm q1 q2 q3)⟩
    split at h
    · split at h
      · exact fin true (fun _ => rfl) h
      · exact fin false (fun _ => rfl) h
    · rename_i b
      cases b with
      | true => exact fin true (fun _ => rfl) (h.1 rfl)
      | false => exact fin false (fun _ => rfl) (h.2 rfl)
    · exact h.elim
  | .block id x, st, K, E, R, h, hK, hE, hR => by
    unfold run at h
    obtain ⟨hc, hw⟩ := run_sound hm x h hK (fun j st h => by
      split at h
      · exact hK _ h
      · exact hE _ _ h) hR
    refine ⟨hc, fun ρ a w Q hx m mm q1 q2 q3 => wp_block ?_⟩
    refine hw ρ a w _ (fun e a w hp => by obtain ⟨ch, e', h'⟩ := hp; subst e'; exact hx _ _ _ ⟨ch, rfl, h'⟩) m mm q1 (fun j st ρ a w k m mm => ?_) q3
    simp only [Exit.inBlock]
    split at k
    · rename_i hb
      rw [if_pos (beq_of hb)]
      exact q1 st ρ a w k m mm
    · rename_i hb
      rw [if_neg (fun c => by subst c; rw [Nat.beq_refl] at hb; cases hb)]
      exact q2 j st ρ a w k m mm
  | .loop x, st, K, E, R, h, hK, hE, hR => by
    unfold run at h
    obtain ⟨hc, ⟨I, Kc, hk, h0, round⟩⟩ := stp_iff.1 h
    refine ⟨hc, fun ρ a w Q hx m mm q1 q2 q3 => ?_⟩
    obtain ⟨m0, st0, ρ0, hI, t0, mm0⟩ := h0 ρ a w (m.same rfl) (mm.same rfl rfl rfl)
    refine wp_loop_rel (fun n a w => ∃ st ρ, I n st ∧ Tm G st ρ a ∧ Mem G st ρ w) (m := m0) ⟨st0, ρ0, hI, t0, mm0⟩ ?_
    rintro n a w ⟨st1, ρ1, hI1, t1, mm1⟩
    have h1 := run_sound hm x (round n st1 hI1) (fun st h => (hk _ _ h).1) hE hR
    refine h1.2 ρ1 a w _ (fun e a w hp => by obtain ⟨ch, e', h'⟩ := hp; subst e'; exact hx _ _ _ ⟨ch, rfl, h'⟩) t1 mm1 (fun st ρ a w k m mm => ?_) q2 q3
    obtain ⟨_, m', st2, hlt, hle2, hI2⟩ := hk _ _ k
    obtain ⟨ρ2, t2, mm2⟩ := hle2 ρ a w m mm
    exact ⟨m', hlt, st2, ρ2, hI2, t2, mm2⟩
  | .exit j, st, K, E, R, h, hK, hE, hR => by
    unfold run at h
    exact ⟨hE _ _ h, fun ρ a w Q hx m mm q1 q2 q3 => wp_exit (q2 _ _ _ _ _ h m mm)⟩
  | .ret, st, K, E, R, h, hK, hE, hR => by
    unfold run at h
    exact ⟨hR _ h, fun ρ a w Q hx m mm q1 q2 q3 => wp_ret (q3 _ _ _ _ h m mm)⟩
  | .rangeFunc .., st, K, E, R, h, hK, hE, hR => by unfold run at h; exact h.elim
  | .scope _, st, K, E, R, h, hK, hE, hR => by unfold run at h; exact h.elim
  | .label _, st, K, E, R, h, hK, hE, hR => by unfold run at h; exact h.elim
  | .goto _, st, K, E, R, h, hK, hE, hR => by unfold run at h; exact h.elim
  | .refuse _, st, K, E, R, h, hK, hE, hR => by unfold run at h; exact h.elim
end Sy
end Go.Proofs.YteplckkoiffnnaaGreatDoor
