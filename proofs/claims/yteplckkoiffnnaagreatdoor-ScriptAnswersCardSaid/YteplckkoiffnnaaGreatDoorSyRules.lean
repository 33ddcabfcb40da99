/-
  Symbolic runs: the rules at the places where a run stops.
-/
import Derived.Test.YteplckkoiffnnaaGreatDoorSyFn
namespace Go.Proofs.YteplckkoiffnnaaGreatDoor
open Go.RowKit
namespace Sy
set_option linter.unusedVariables false
set_option linter.unusedSimpArgs false

/-- with a fixed part beside it -/
def plus (g0 : Hl) (A : HP) : HP := fun g => ∃ g1, Dj g0 g1 ∧ g = un g0 g1 ∧ A g1
theorem plus_in {g0 : Hl} {A : HP} : ∀ {l : List HP} {h : Hl}, Dj g0 h → sepL l A h → sepL l (plus g0 A) (un g0 h)
  | [], h, d, s => ⟨h, d, rfl, s⟩
  | B :: l, h, d, s => by
    obtain ⟨h1, h2, d', rfl, b, s⟩ := s
    obtain ⟨d1, d2⟩ := d.symm.un_left
    have := plus_in (g0 := g0) d2.symm s
    refine ⟨h1, un g0 h2, (Dj.un_of d1.symm d'.symm).symm, ?_, b, this⟩
    rw [← un_assoc, ← un_assoc, un_comm d1]
theorem plus_out {g0 : Hl} {A : HP} : ∀ {l : List HP} {g : Hl}, sepL l (plus g0 A) g → plus g0 (sepL l A) g
  | [], g, s => s
  | B :: l, g, s => by
    obtain ⟨h1, h2, d', rfl, b, s⟩ := s
    obtain ⟨g1, d, rfl, s2⟩ := plus_out (l := l) s
    obtain ⟨d1, d2⟩ := d'.symm.un_left
    refine ⟨un h1 g1, (Dj.un_of d1.symm d.symm).symm, ?_, h1, g1, d2.symm, rfl, b, s2⟩
    rw [← un_assoc, ← un_assoc, un_comm d1.symm]

/-- the part of the heap in which the objects are -/
noncomputable def obj (st : St) (ρ : List Nat) (w : World) : Hl := by
  classical
  exact fun i => if ∃ x ∈ st.o, ρ[x.1]? = some i then w.heap[i]? else none

theorem mem_split {G : Gl} {st : St} {ρ : List Nat} {w : World} (m : Mem G st ρ w) : ∃ h, Sub h w ∧ sepL st.h G.R h ∧ Dj (obj st ρ w) h ∧ Sub (obj st ρ w) w := by
  obtain ⟨h, h1, h2, h3⟩ := m.hp
  refine ⟨h, h1, h2, fun i => ?_, fun i o e => ?_⟩
  · by_cases c : ∃ x ∈ st.o, ρ[x.1]? = some i
    · obtain ⟨x, hx, e⟩ := c
      exact .inr (h3 x hx i e)
    · exact .inl (by simp only [obj]; rw [if_neg c])
  · simp only [obj] at e
    split at e
    · exact e
    · cases e
theorem mem_join {G : Gl} {st : St} {ρ : List Nat} {w w' : World} (m : Mem G st ρ w) (hw : Wd w w') {hs : List HP} {g : Hl} (hg : Sub g w') (s : plus (obj st ρ w) (sepL hs G.R) g) : Mem G { st with h := hs } ρ w' := by
  obtain ⟨g1, d, rfl, s⟩ := s
  have hO : ∀ x ∈ st.o, ∀ b, ρ[x.1]? = some b → obj st ρ w b = w.heap[b]? := fun x hx b e => by
    simp only [obj]
    rw [if_pos ⟨x, hx, e⟩]
  refine ⟨m.wd.trans hw, m.len, m.nd, fun b hb => Nat.lt_of_lt_of_le (m.lt b hb) hw.size, m.no, fun x hx => ?_, m.kn, g1, hg.right d, s, fun x hx b e => ?_⟩
  · obtain ⟨b, cs, e1, e2, e3⟩ := m.ob x hx
    exact ⟨b, cs, e1, e2, hg.left b _ ((hO x hx b e1).trans e3)⟩
  · obtain ⟨b', cs, e1, e2, e3⟩ := m.ob x hx
    rw [e] at e1
    injection e1 with e1
    subst e1
    rcases d b with c | c
    · rw [hO x hx b e] at c
      have e3' : w.heap[b]? = _ := e3
      rw [c] at e3'
      cases e3'
    · exact c

section
variable {G : Gl} {f : FuncId} {args : List Value} {st : St}
theorem CallAt.fn {K : SV → St → Prop} {pre : List HP} {post : Value → List HP → Prop} (rest : List HP) (hp : ∀ h, sepL st.h G.R h → sepL (pre ++ rest) G.R h)
    (hf : ∀ R', (∀ w, Sat R' w → Sat (sepL rest G.R) w) → FnR G.P R' f args pre post) (k : ∀ v hs, post v hs → K (.v v) { st with h := hs ++ rest }) : CallAt G f args st K := by
  refine .mk fun ρ w m => ?_
  obtain ⟨h, h1, h2, h3, h4⟩ := mem_split m
  have h2 := hp h h2
  rw [sepL_append] at h2
  refine (hf (plus (obj st ρ w) (sepL rest G.R)) ?_ w ⟨_, h4.un h1, plus_in h3 h2⟩).mono ?_
  · rintro w' ⟨g, g1, ⟨g2, d, rfl, s⟩⟩
    exact ⟨g2, g1.right d, s⟩
  · rintro e w' ⟨v, hs, rfl, hv, ⟨g, g1, s⟩, hw⟩
    refine ⟨v, hs ++ rest, rfl, mem_join m hw g1 ?_, k v hs hv⟩
    have := plus_out s
    rwa [sepL_append]
/-- a function that hands back v, and leaves all as it was -/
def PureR (P : Program) (R : HP) (f : FuncId) (args : List Value) (v : Value) : Prop := FnR P R f args [] fun r hs => r = v ∧ hs = []
theorem PureR.of_below {P : Program} {R : HP} {v : Value} (h : ∀ w, Sat R w → Calls P f args.toArray w fun e w' => e = .returned v ∧ Below w.heap.size w w') : PureR P R f args v := by
  rintro w ⟨g, g1, g2⟩
  refine (h w ⟨g, g1, g2⟩).mono ?_
  rintro e w' ⟨rfl, hb⟩
  exact ⟨v, [], rfl, ⟨rfl, rfl⟩, ⟨g, g1.below hb, g2⟩, .of_below hb⟩
theorem PureR.below {P : Program} {v : Value} {w : World} (h : PureR P (fun g => g = fun i => w.heap[i]?) f args v) : Calls P f args.toArray w fun e w' => e = .returned v ∧ Below w.heap.size w w' := by
  refine (h w ⟨_, fun i o e => e, rfl⟩).mono ?_
  rintro e w' ⟨r, hs, rfl, ⟨rfl, rfl⟩, ⟨g, g1, g2⟩, hw⟩
  have g2 : g = fun i => w.heap[i]? := g2
  subst g2
  refine ⟨rfl, hw.os, hw.tape, hw.output, hw.size, fun i hi => ?_⟩
  have : w.heap[i]? = some w.heap[i] := Array.getElem?_eq_getElem hi
  rw [this]
  exact g1 i _ this
theorem CallAt.pure {K : SV → St → Prop} {v : Value} (hf : ∀ R', (∀ w, Sat R' w → Sat (sepL st.h G.R) w) → PureR G.P R' f args v) (k : K (.v v) st) : CallAt G f args st K := by
  refine CallAt.fn (pre := []) st.h (fun h s => s) hf ?_
  rintro r hs ⟨rfl, rfl⟩
  exact k
theorem CallQ.pure {K : SV → Prop} {v : Value} (hf : ∀ R', (∀ w, Sat R' w → Sat (sepL st.h G.R) w) → PureR G.P R' f args v) (k : K (.v v)) : CallQ G f args st K := by
  refine .mk v (fun ρ w m => ?_) k
  obtain ⟨h, h1, h2, h3, h4⟩ := mem_split m
  refine (hf (plus (obj st ρ w) (sepL st.h G.R)) ?_ w ⟨_, h4.un h1, ⟨h, h3, rfl, h2⟩⟩).mono ?_
  · rintro w' ⟨g, g1, ⟨g2, d, rfl, s⟩⟩
    exact ⟨g2, g1.right d, s⟩
  · rintro e w' ⟨r, hs, rfl, ⟨rfl, rfl⟩, ⟨g, g1, s⟩, hw⟩
    exact ⟨rfl, mem_join m hw g1 s⟩
theorem Mem.sat {ρ : List Nat} {w : World} (m : Mem G st ρ w) : Sat (sepL st.h G.R) w := by
  obtain ⟨h, h1, h2, _⟩ := m.hp
  exact ⟨h, h1, h2⟩
theorem LoadAt.cell {K : SV → Prop} {t : TypeId} {ad : Addr} {d : TypeDesc} (x : Value) (hu : G.P.underlying t = some d) (hd : d.isRow = false) (h : ∀ w, Sat (sepL st.h G.R) w → w.cell? ad = some x) (k : K (.v x)) : LoadAt G t ad st K := by
  refine .mk x (fun ρ w m => ?_) k
  have hc := h w m.sat
  have hagg : (isAgg t).run G.P w = .ok false w := by
    unfold isAgg
    rw [Sem.run_bind, run_underlying hu w]
    cases d <;> simp_all
  simp [Instr.loadAt, Instr.sureAddr, loadVar, hagg, load, Sem.run, hc]
theorem fin_pure {v r : Value} (hh : st.h = []) (e : r = v) : Fin G r st fun r hs => r = v ∧ hs = [] := ⟨st.h, fun w h => h, e, hh⟩
theorem iff_t {b : Bool} {A B : Prop} (h : b = true) (a : A) : iff b A B := ⟨fun _ => a, fun h' => by rw [h] at h'; cases h'⟩
theorem iff_f {b : Bool} {A B : Prop} (h : b = false) (a : B) : iff b A B := ⟨(fun h' => by rw [h] at h'; cases h'), fun _ => a⟩
end

/-! loops -/
def keepT (src : List (Nat × SV)) : List Nat → List (Nat × SV)
  | [] => []
  | t :: r => match getT src t with
    | some x => (t, x) :: keepT src r
    | none => keepT src r
def nmOk (n : Nat) (x : SV) : Bool := match x with
  | .p m _ => Nat.blt m n
  | _ => true
def allNm (n : Nat) : List SV → Bool
  | [] => true
  | x :: l => match nmOk n x with
    | true => allNm n l
    | false => false
def leT (n : Nat) (src : List (Nat × SV)) : List (Nat × SV) → Prop
  | [] => True
  | (t, x) :: r => (getT src t = some x ∧ nmOk n x = true) ∧ leT n src r
def notIn (n : Nat) : List (Nat × TypeId × List SV) → Bool
  | [] => true
  | (k, _) :: l => match Nat.beq k n with
    | true => false
    | false => notIn n l
def leO (n : Nat) (src : List (Nat × TypeId × List SV)) : List (Nat × TypeId × List SV) → Prop
  | [] => True
  | (k, x) :: r => (getO src k = some x ∧ Nat.blt k n = true ∧ allNm n x.2 = true ∧ notIn k r = true) ∧ leO n src r
theorem leT_get {n : Nat} {src : List (Nat × SV)} : ∀ {l : List (Nat × SV)} {t : Nat} {x : SV}, leT n src l → getT l t = some x → getT src t = some x ∧ nmOk n x = true
  | [], t, x, _, h => by cases h
  | (k, y) :: l, t, x, hl, h => by
    simp only [getT] at h
    split at h
    · rename_i e
      have := beq_of e
      subst this
      injection h with h
      subst h
      exact hl.1
    · exact leT_get hl.2 h
theorem leT_append {n : Nat} {src : List (Nat × SV)} : ∀ {l m : List (Nat × SV)}, leT n src l → leT n src m → leT n src (l ++ m)
  | [], m, _, h => h
  | (k, y) :: l, m, hl, h => ⟨hl.1, leT_append hl.2 h⟩
theorem leO_mem {n : Nat} {src : List (Nat × TypeId × List SV)} : ∀ {l : List (Nat × TypeId × List SV)} {x : Nat × TypeId × List SV}, leO n src l → x ∈ l → x ∈ src ∧ x.1 < n ∧ allNm n x.2.2 = true
  | [], x, _, h => by cases h
  | (k, y) :: l, x, hl, h => by
    rcases List.mem_cons.1 h with rfl | h
    · exact ⟨getO_mem hl.1.1, Nat.le_of_ble_eq_true hl.1.2.1, hl.1.2.2.1⟩
    · exact leO_mem hl.2 h
theorem notIn_spec {k : Nat} : ∀ {l : List (Nat × TypeId × List SV)}, notIn k l = true → k ∉ l.map (·.1)
  | [], _ => by simp
  | (j, y) :: l, h => by
    unfold notIn at h
    split at h
    · cases h
    · rename_i e
      simp only [List.map_cons, List.mem_cons, not_or]
      exact ⟨(fun c => by subst c; rw [Nat.beq_refl] at e; cases e), notIn_spec h⟩
theorem leO_nodup {n : Nat} {src : List (Nat × TypeId × List SV)} : ∀ {l : List (Nat × TypeId × List SV)}, leO n src l → (l.map (·.1)).Nodup
  | [], _ => by simp
  | (j, y) :: l, h => by
    simp only [List.map_cons, List.nodup_cons]
    exact ⟨notIn_spec h.1.2.2.2, leO_nodup h.2⟩
theorem den_cut {ρ : List Nat} {n : Nat} {x : SV} {v : Value} (h : x.den ρ = some v) (hn : nmOk n x = true) : x.den (ρ.take n) = some v := by
  cases x with
  | v y => exact h
  | k b => exact h
  | p m o =>
    have hm : m < n := Nat.le_of_ble_eq_true hn
    simp only [SV.den] at h ⊢
    rw [List.getElem?_take_of_lt hm]
    exact h
theorem denL_cut {ρ : List Nat} {n : Nat} : ∀ {l : List SV} {vs : List Value}, denL ρ l = some vs → allNm n l = true → denL (ρ.take n) l = some vs
  | [], vs, h, _ => h
  | x :: l, vs, h, hn => by
    obtain ⟨v, us, h1, h2, rfl⟩ := denL_cons.1 h
    unfold allNm at hn
    split at hn
    · rename_i e
      exact denL_cons.2 ⟨v, us, den_cut h1 e, denL_cut h2 hn, rfl⟩
    · cases hn
theorem Le.of {G : Gl} {st st' : St} (hn : st'.n ≤ st.n) (hB : G.B.length ≤ st'.n) (ht : leT st'.n st.t st'.t) (ho : leO st'.n st.o st'.o) (hh : ∀ h, sepL st.h G.R h → ∃ h', (∀ i o, h' i = some o → h i = some o) ∧ sepL st'.h G.R h') : Le G st st' := by
  intro ρ a w m mm
  obtain ⟨m1, m2, m3, m4, m5, m6, mk, h, m7, m8, m9⟩ := mm
  obtain ⟨h', hs, hp⟩ := hh h m8
  have at_ : ∀ k b, (ρ.take st'.n)[k]? = some b → ρ[k]? = some b := fun k b e => by
    rw [List.getElem?_take] at e
    split at e
    · exact e
    · cases e
  refine ⟨ρ.take st'.n, ⟨m.size, m.defs, fun t x e => ?_⟩, ⟨m1, by simp; omega, ?_, fun b hb => m4 b (List.mem_of_mem_take hb), leO_nodup ho, fun x hx => ?_, ?_, h', m7.mono hs, hp, fun x hx b e => ?_⟩⟩
  · obtain ⟨e1, e2⟩ := leT_get ht e
    exact ⟨(m.get _ _ e1).1, den_cut (m.get _ _ e1).2 e2⟩
  · exact (List.take_sublist _ _).nodup m3
  · obtain ⟨x1, x2, x3⟩ := leO_mem ho hx
    obtain ⟨b, cs, e1, e2, e3⟩ := m6 x x1
    exact ⟨b, cs, by rw [List.getElem?_take_of_lt x2]; exact e1, denL_cut e2 x3, e3⟩
  · obtain ⟨q, rfl⟩ := mk
    exact ⟨q.take (st'.n - G.B.length), by rw [List.take_append, List.take_of_length_le hB]⟩
  · obtain ⟨x1, x2, x3⟩ := leO_mem ho hx
    have := m9 x x1 b (at_ _ _ e)
    cases e' : h' b with
    | none => rfl
    | some o => rw [hs b o e'] at this; cases this

/-- the state at the head of a round -/
def hd (S : List (Nat × SV)) (Kp : List Nat) (O : List (Nat × TypeId × List SV)) (H : List HP) (st : St) : St := ⟨S ++ keepT st.t Kp, O, st.n, H, True⟩
/-- a round has ended well -/
inductive Next (G : Gl) {α : Type} (pre : α → Prop) (μ : α → Nat) (hdr : α → St) (m : Nat) (st' : St) : Prop
  | mk (a : α) (h : pre a) (hlt : μ a < m) (hle : Le G st' (hdr a))
theorem LoopAt.of {G : Gl} {body : St → (St → Prop) → Prop} {st : St} {α : Type} (Kp : List Nat) (S : α → List (Nat × SV)) (O : α → List (Nat × TypeId × List SV)) (H : α → List HP) (pre : α → Prop) (μ : α → Nat) (a0 : α) (h0 : pre a0)
    (hle : Le G st (hd (S a0) Kp (O a0) (H a0) st))
    (round : ∀ a, pre a → forceL (S a ++ keepT st.t Kp) fun t => body ⟨t, O a, st.n, H a, True⟩ fun st' => stp st' fun st' => Next G pre μ (fun a => hd (S a) Kp (O a) (H a) st) (μ a) st') : LoopAt G body st := by
  refine .mk (fun m s => ∃ a, pre a ∧ μ a = m ∧ s = hd (S a) Kp (O a) (H a) st) (fun m st' => stp st' fun st' => Next G pre μ (fun a => hd (S a) Kp (O a) (H a) st) m st') ?_ (fun ρ a w m mm => by obtain ⟨ρ', m', mm'⟩ := hle ρ a w m mm; exact ⟨_, _, ρ', ⟨a0, h0, rfl, rfl⟩, m', mm'⟩) ?_
  · intro m s hs
    obtain ⟨hc, ⟨a', h1, h2, h3⟩⟩ := stp_iff.1 hs
    exact ⟨hc, _, _, h2, fun ρ a w m mm => h3 ρ a w (m.same rfl) (mm.same rfl rfl rfl), a', h1, rfl, rfl⟩
  · rintro m s ⟨a, ha, rfl, rfl⟩
    exact forceL_eq (round a ha)

/-- what a loop begins with, where objects of the call's own come to be plain blocks first -/
def Begin (G : Gl) (st : St) (Q : St → Prop) : Prop := ∀ ρ a w, Tm G st ρ a → Mem G st ρ w → ∃ st' ρ', Q st' ∧ Tm G st' ρ' a ∧ Mem G st' ρ' w
theorem Begin.le {G : Gl} {st st' : St} {Q : St → Prop} (h : Le G st st') (q : Q st') : Begin G st Q := fun ρ a w m mm => by
  obtain ⟨ρ', m', mm'⟩ := h ρ a w m mm
  exact ⟨st', ρ', q, m', mm'⟩
theorem Begin.expose {G : Gl} {st : St} {Q : St → Prop} (n : Nat) (h : Sy.expose G st n False fun _ st' => Begin G st' Q) : Begin G st Q := fun ρ a w m mm => by
  rcases expose_sound h with h | ⟨t, vs, h, he⟩
  · exact h.elim
  · obtain ⟨b, e1, eb, m', mm'⟩ := he ρ a w m mm
    exact h b eb ρ a w m' mm'
theorem LoopAt.begins {G : Gl} {body : St → (St → Prop) → Prop} {st : St} {α : Type} (Kp : List Nat) (S : α → List (Nat × SV)) (O : α → List (Nat × TypeId × List SV)) (H : α → List HP) (pre : α → Prop) (μ : α → Nat)
    (h0 : Begin G st fun st' => ∃ a, pre a ∧ st' = hd (S a) Kp (O a) (H a) st)
    (round : ∀ a, pre a → forceL (S a ++ keepT st.t Kp) fun t => body ⟨t, O a, st.n, H a, True⟩ fun st' => stp st' fun st' => Next G pre μ (fun a => hd (S a) Kp (O a) (H a) st) (μ a) st') : LoopAt G body st := by
  refine .mk (fun m s => ∃ a, pre a ∧ μ a = m ∧ s = hd (S a) Kp (O a) (H a) st) (fun m st' => stp st' fun st' => Next G pre μ (fun a => hd (S a) Kp (O a) (H a) st) m st') ?_ (fun ρ a w m mm => by
    obtain ⟨st', ρ', ⟨a0, h1, rfl⟩, m', mm'⟩ := h0 ρ a w m mm
    exact ⟨_, _, ρ', ⟨a0, h1, rfl, rfl⟩, m', mm'⟩) ?_
  · intro m s hs
    obtain ⟨hc, ⟨a', h1, h2, h3⟩⟩ := stp_iff.1 hs
    exact ⟨hc, _, _, h2, fun ρ a w m mm => h3 ρ a w (m.same rfl) (mm.same rfl rfl rfl), a', h1, rfl, rfl⟩
  · rintro m s ⟨a, ha, rfl, rfl⟩
    exact forceL_eq (round a ha)

/-- a loop that leaves objects and parts of the heap as they are -/
theorem LoopAt.keep {G : Gl} {body : St → (St → Prop) → Prop} {st : St} {α : Type} (Kp : List Nat) (S : α → List (Nat × SV)) (pre : α → Prop) (μ : α → Nat) (a0 : α) (h0 : pre a0)
    (hB : Nat.ble G.B.length st.n = true) (s0 : leT st.n st.t (S a0)) (kk : leT st.n st.t (keepT st.t Kp)) (ho : leO st.n st.o st.o)
    (round : ∀ a, pre a → forceL (S a ++ keepT st.t Kp) fun t => body ⟨t, st.o, st.n, st.h, True⟩ fun st' => stp st' fun st' => Next G pre μ (fun a => hd (S a) Kp st.o st.h st) (μ a) st') : LoopAt G body st :=
  LoopAt.of Kp S (fun _ => st.o) (fun _ => st.h) pre μ a0 h0 (Le.of (Nat.le_refl _) (Nat.le_of_ble_eq_true hB) (leT_append s0 kk) ho fun h s => ⟨h, fun _ _ e => e, s⟩) round
theorem Next.keep {G : Gl} {st st' : St} {α : Type} {Kp : List Nat} {S : α → List (Nat × SV)} {pre : α → Prop} {μ : α → Nat} {m : Nat} (a : α) (h : pre a) (hlt : μ a < m)
    (s0 : leT st.n st'.t (S a)) (kk : leT st.n st'.t (keepT st.t Kp)) (ho : leO st.n st'.o st.o) (hn : Nat.ble st.n st'.n = true) (hB : Nat.ble G.B.length st.n = true) (hh : st'.h = st.h) :
    Next G pre μ (fun a => hd (S a) Kp st.o st.h st) m st' :=
  ⟨a, h, hlt, Le.of (Nat.le_of_ble_eq_true hn) (Nat.le_of_ble_eq_true hB) (leT_append s0 kk) ho fun h s => ⟨h, fun _ _ e => e, by rw [hh] at s; exact s⟩⟩
end Sy
end Go.Proofs.YteplckkoiffnnaaGreatDoor
