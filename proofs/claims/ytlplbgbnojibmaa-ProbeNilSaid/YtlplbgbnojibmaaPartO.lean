/-
  Texts of the proofs, one behind the other: SyTree, SyPick, ProbeA, ProbeB, ProbeC, ProbeD, ProbeE, ProbeF, ProbeG, ProbeH, ProbeL, ProbeI, ProbeJ, ProbeK.
-/
import Derived.Test.YtlplbgbnojibmaaPartS
import Derived.Test.YtlplbgbnojibmaaPartM
import Derived.Test.YtlplbgbnojibmaaPartI
import Derived.Test.YtlplbgbnojibmaaPartK
import Derived.Test.YtlplbgbnojibmaaPartL
/-
  Symbolic runs: regions that draw their order, by groups in which two operations may come up at once.
-/
namespace Go.Proofs.Ytlplbgbnojibmaa
open Go.RowKit
namespace Sy
set_option linter.unusedVariables false
set_option linter.unusedSimpArgs false

inductive Tr | E | T (k : Nat) (r : Tr) | H (k : Nat) (r : Tr) | C (k : Nat) (r : Tr) (j : Nat) (s : Tr)
def Tr.len : Tr → Nat
  | .E => 0
  | .T _ r => r.len + 1
  | .H _ r => r.len + 1
  | .C _ r _ _ => r.len + 1
def treeB (ops : Array Oper) (n : Nat) (F : Array Bool → Bool) : Tr → Array Bool → Bool
  | .E, ls => F ls && (Region.ready .any ops ls).all fun j => decide (n ≤ j)
  | .T k r, ls => decide (k < n) && ((Region.ready .any ops ls).contains k && (Region.free .any ops ls k && treeB ops n F r (ls.setIfInBounds k true)))
  | .H k r, ls => decide (k < n) && (decide (Region.ready .any ops ls = [k]) && treeB ops n F r (ls.setIfInBounds k true))
  | .C k r j s, ls => decide (k < n) && (decide (j < n) && (decide (Region.ready .any ops ls = [k, j]) && (decide (r.len = s.len) && (treeB ops n F r (ls.setIfInBounds k true) && treeB ops n F s (ls.setIfInBounds j true)))))
def treesB (ops : Array Oper) : List (Tr × Nat) → Array Bool → Bool
  | [], ls => decide (Region.ready .any ops ls = [])
  | (g, n) :: r, ls => (decide (ops.size ≤ n) || (decide (n < ops.size) && (Region.sinkB .any ops n && chainW ops n))) && (headW ops n ls && treeB ops n (fun ls' => treesB ops r ls') g ls)
def treeLen : List (Tr × Nat) → Nat
  | [] => 0
  | (g, _) :: r => g.len + treeLen r
def treesOk (l : List Oper) (gs : List (Tr × Nat)) : Bool := Region.noSelect l.toArray && (decide (treeLen gs = l.length) && treesB l.toArray gs (Array.replicate l.toArray.size false))

/-- an operation that only computes or reads, at the memory of the group's start -/
def opT2 (G : Gl) (st0 : St) (o : Oper) (st : St) (K : St → Prop) : Prop :=
  match o.op with
  | .load t x => ev st x False fun vx => match vx with
    | .v (.pointer (some ad)) => stp st fun st => LoadAt G t ad st0 fun r => putK G st o.dst r none K
    | _ => q1 G.P G.tr st o False fun r q => putK G st o.dst r q K
  | _ => q1 G.P G.tr st o False fun r q => putK G st o.dst r q K
def TakeT2 (G : Gl) (st0 : St) (o : Oper) (st : St) (K : St → Prop) : Prop :=
  st.c ∧ ∀ ρ m a w0, Tm G st (ρ ++ m) a → Mem G st0 ρ w0 → ∃ v st', K st' ∧ SameM st st' ∧ (∀ w, Mem G st0 ρ w → (execOp a.eval o).run G.P w = .ok (.value v) w) ∧ Tm G st' (ρ ++ m) (a.put o.dst v)
theorem ob_ext {G : Gl} {st0 st : St} {ρ : List Nat} {w : World} (mm : Mem G st0 ρ w) (ho : st.o = st0.o) (m : List Nat) : Ob st (ρ ++ m) w := by
  intro x hx
  rw [ho] at hx
  obtain ⟨b, cs, e1, e2, e3⟩ := mm.ob x hx
  refine ⟨b, cs, ?_, denL_ext m e2, e3⟩
  rw [List.getElem?_append_left (List.getElem?_eq_some_iff.1 e1).1]
  exact e1
theorem take_q2 {G : Gl} {st0 : St} {o : Oper} {st : St} {K : St → Prop} (ho : st.o = st0.o) (hK : Good K) (h : q1 G.P G.tr st o False fun r q => putK G st o.dst r q K) : TakeT2 G st0 o st K := by
  rcases q1_sound h with h | ⟨x, q, h, hy⟩
  · exact h.elim
  · obtain ⟨⟨hc, hq⟩, hp⟩ := putK_same h hK
    refine ⟨hc, fun ρ m a w0 tm mm0 => ?_⟩
    have hy := hy hq
    obtain ⟨v, e1, e2⟩ := hy G (ρ ++ m) a w0 tm (ob_ext mm0 ho m)
    obtain ⟨st', k, hs, m'⟩ := hp (ρ ++ m) a v e1 tm
    refine ⟨v, st', k, hs, fun w' mm' => ?_, m'⟩
    obtain ⟨v', e3, e4⟩ := hy G (ρ ++ m) a w' tm (ob_ext mm' ho m)
    rw [e1] at e3
    injection e3 with e3
    subst e3
    exact e4
theorem opT2_sound {G : Gl} {st0 : St} {o : Oper} {st : St} {K : St → Prop} (ho : st.o = st0.o) (h : opT2 G st0 o st K) (hK : Good K) : TakeT2 G st0 o st K := by
  unfold opT2 at h
  split at h
  case h_1 t x hop =>
    rcases ev_sound h with h | ⟨sx, h, ex⟩
    · exact h.elim
    split at h
    · rename_i ad
      obtain ⟨hc, ⟨r, hr, h⟩⟩ := stp_iff.1 h
      refine ⟨hc, fun ρ m a w0 tm mm0 => ?_⟩
      obtain ⟨_, hp⟩ := putK_same h hK
      obtain ⟨st', k, hs, m'⟩ := hp (ρ ++ m) a r rfl (tm.same rfl)
      refine ⟨r, st', k, hs, fun w mm => ?_, m'⟩
      have h1 := ex G (ρ ++ m) a tm
      simp only [SV.den, Option.some.injEq] at h1
      simp [execOp, hop, ← h1, hr ρ w mm]
    · exact take_q2 ho hK h
  case h_2 => exact take_q2 ho hK h
theorem optT2_good {G : Gl} {st0 : St} {all : List Oper} {o : Oper} {F : St → Prop} (hF : Good F) : ∀ st, st.o = st0.o → opsG (opT2 G st0) G all [o] st F → st.c := by
  intro st hst h
  unfold opsG at h
  have e : ∀ st, opsG (opT2 G st0) G all [] st F = F st := fun st => rfl
  simp only [e] at h
  split at h
  · exact (opT2_sound hst h hF).1
  · rename_i j want hg
    split at h
    · split at h
      · split at h
        · split at h
          · exact (opT2_sound hst h hF).1
          · exact (putK_same h hF).1.1
        · rename_i b hx
          by_cases hb : b = want
          · exact (opT2_sound (st := Sy.seen st _ _) hst (h.1 hb) hF).1
          · exact (putK_same (h.2 (by cases b <;> cases want <;> simp_all)) hF).1.1
        · exact (putK_same h hF).1.1
        · exact h.elim
      · exact h.elim
    · exact h.elim
theorem takeG2 {G : Gl} {st0 : St} {all : List Oper} {o : Oper} {st : St} {F : St → Prop} (hst : st.o = st0.o) (h : opsG (opT2 G st0) G all [o] st F) (hF : Good F) {ρ m0 : List Nat} {a : Act} {w0 : World} (m : Tm G st (ρ ++ m0) a) (mm : Mem G st0 ρ w0) :
    ∃ v st', F st' ∧ SameM st st' ∧ Tm G st' (ρ ++ m0) (a.put o.dst v) ∧ YieldsIf G.P all.toArray (Mem G st0 ρ) o v a := by
  unfold opsG at h
  have e : ∀ st, opsG (opT2 G st0) G all [] st F = F st := fun st => rfl
  simp only [e] at h
  have yes : ∀ st1 : St, SameM st st1 → Tm G st1 (ρ ++ m0) a → opT2 G st0 o st1 F → Region.wanted o (yielded all.toArray a.tmps) = true → ∃ v st', F st' ∧ SameM st st' ∧ Tm G st' (ρ ++ m0) (a.put o.dst v) ∧ YieldsIf G.P all.toArray (Mem G st0 ρ) o v a := by
    intro st1 s1 m1 h hwt
    obtain ⟨_, hq⟩ := opT2_sound (s1.1.trans hst) h hF
    obtain ⟨v, st', k', s2, hr', m'⟩ := hq ρ m0 a w0 m1 mm
    exact ⟨v, st', k', ⟨s2.1.trans s1.1, s2.2.1.trans s1.2.1, s2.2.2.trans s1.2.2⟩, m', .inl ⟨hwt, fun w hw => hr' w hw⟩⟩
  have no : ∀ st1 : St, SameM st st1 → Tm G st1 (ρ ++ m0) a → putK G st1 o.dst (.v undef) none F → Region.wanted o (yielded all.toArray a.tmps) = false → ∃ v st', F st' ∧ SameM st st' ∧ Tm G st' (ρ ++ m0) (a.put o.dst v) ∧ YieldsIf G.P all.toArray (Mem G st0 ρ) o v a := by
    intro st1 s1 m1 h hwt
    obtain ⟨_, hp⟩ := putK_same h hF
    obtain ⟨st', k', s2, m'⟩ := hp (ρ ++ m0) a undef rfl m1
    exact ⟨undef, st', k', ⟨s2.1.trans s1.1, s2.2.1.trans s1.2.1, s2.2.2.trans s1.2.2⟩, m', .inr ⟨hwt, rfl⟩⟩
  split at h
  · rename_i hg
    exact yes st ⟨rfl, rfl, rfl⟩ m h (wanted_none hg _)
  · rename_i j want hg
    split at h
    · rename_i oj hj
      split at h
      · rename_i t ht
        split at h
        · rename_i b hx
          split at h
          · rename_i hb
            exact yes st ⟨rfl, rfl, rfl⟩ m h (by rw [wanted_eq hg hj ht hx rfl m, hb])
          · rename_i hb
            exact no st ⟨rfl, rfl, rfl⟩ m h (by rw [wanted_eq hg hj ht hx rfl m, hb])
        · rename_i b hx
          by_cases hb : b = want
          · subst hb
            exact yes (seen st t b) ⟨rfl, rfl, rfl⟩ (seen_tm m hx) (h.1 rfl) (by rw [wanted_eq hg hj ht hx rfl m]; simp)
          · have hb' : b = !want := by cases b <;> cases want <;> simp_all
            subst hb'
            exact no (seen st t (!want)) ⟨rfl, rfl, rfl⟩ (seen_tm m hx) (h.2 rfl) (by rw [wanted_eq hg hj ht hx rfl m]; simp)
        · rename_i hx
          exact no st ⟨rfl, rfl, rfl⟩ m h (wanted_undef hg hj ht hx m)
        · exact h.elim
      · exact h.elim
    · exact h.elim

/-- what a group leaves as it was: new objects may be there -/
def Kept2 (G : Gl) (st0 st : St) : Prop := (st.o.drop (st.o.length - st0.o.length) = st0.o ∧ Nat.ble st0.n st.n = true) ∧ ∀ h, sepL st.h G.R h → ∃ h', (∀ i o, h' i = some o → h i = some o) ∧ sepL st0.h G.R h'
def heavyG (G : Gl) (all : List Oper) (kp : Bool) (st0 : St) (k : Nat) (st : St) (K : St → Prop) : Prop := match all[k]? with
  | some o => match o.guard with
    | none => op1 G o st fun st => match kp with
      | true => stp st fun st => Kept2 G st0 st ∧ K st
      | false => stp st K
    | some _ => False
  | none => False
def Tr.hasT : Tr → Bool
  | .E => false
  | .T _ _ => true
  | .H _ r => r.hasT
  | .C _ r _ s => r.hasT || s.hasT
/-- with the objects of the group's start, and back -/
def atS (st0 st : St) : St := ⟨st.t, st0.o, st0.n, st.h, st.c⟩
def atK (st0 st : St) (K : St → Prop) : Prop := match st0, st with
  | ⟨_, o, n, _, _⟩, ⟨t, _, _, h, c⟩ => K ⟨t, o, n, h, c⟩
def reK (st st' : St) (K : St → Prop) : Prop := match st, st' with
  | ⟨_, o, n, h, _⟩, ⟨t, _, _, _, c⟩ => K ⟨t, o, n, h, c⟩
def asK (st : St) (K : St → Prop) : Prop := match st with
  | ⟨t, o, n, h, c⟩ => K ⟨t, o, n, h, c⟩
theorem atK_eq (st0 st : St) (K : St → Prop) : atK st0 st K = K (atS st0 st) := by cases st0; cases st; rfl
theorem reK_eq (st st' : St) (K : St → Prop) : reK st st' K = K ⟨st'.t, st.o, st.n, st.h, st'.c⟩ := by cases st; cases st'; rfl
theorem asK_eq (st : St) (K : St → Prop) : asK st K = K st := by cases st; rfl
def treeG (G : Gl) (all : List Oper) (kp : Bool) (st0 : St) : Tr → St → (St → Prop) → Prop
  | .E, st, K => K st
  | .T k r, st, K => match kp with
    | true => match all[k]? with
      | some o => atK st0 st fun s1 => opsG (opT2 G st0) G all [o] s1 fun st' => reK st st' fun st'' => treeG G all kp st0 r st'' K
      | none => False
    | false => False
  | .H k r, st, K => heavyG G all kp st0 k st fun st => treeG G all kp st0 r st K
  | .C k r j s, st, K => (heavyG G all kp st0 k st fun st => treeG G all kp st0 r st K) ∧ (heavyG G all kp st0 j st fun st => treeG G all kp st0 s st K)
def treesG (G : Gl) (all : List Oper) : List (Tr × Nat) → St → (St → Prop) → Prop
  | [], st, K => stp st K
  | (g, _) :: r, st, K => asK st fun st => treeG G all g.hasT st g st fun st => treesG G all r st K
theorem heavy_op {G : Gl} {kp : Bool} {st0 : St} {o : Oper} {st : St} {K : St → Prop} (h : op1 G o st fun st => match kp with | true => stp st fun st => Kept2 G st0 st ∧ K st | false => stp st K) : op1 G o st fun st => stp st fun st => (kp = true → Kept2 G st0 st) ∧ K st := by
  cases kp with
  | true =>
    have e : (fun st => stp st fun st => Kept2 G st0 st ∧ K st) = fun st => stp st fun st => (true = true → Kept2 G st0 st) ∧ K st := by simp
    rw [← e]
    exact h
  | false =>
    have e : (fun st => stp st K) = fun st => stp st fun st => (false = true → Kept2 G st0 st) ∧ K st := by simp
    rw [← e]
    exact h
theorem heavy_good {G : Gl} {all : List Oper} {kp : Bool} {st0 : St} {k : Nat} {K : St → Prop} : Good fun st => heavyG G all kp st0 k st K := fun st h => by
  unfold heavyG at h
  split at h
  · split at h
    · exact (op1_sound (heavy_op h) good_stp).1
    · exact h.elim
  · exact h.elim
theorem treeG_good {G : Gl} {all : List Oper} {kp : Bool} {st0 : St} {K : St → Prop} (hK : Good K) : ∀ g : Tr, Good fun st => treeG G all kp st0 g st K
  | .E => hK
  | .T k r => fun st h => by
    unfold treeG at h
    split at h
    · split at h
      · rw [atK_eq] at h
        simp only [reK_eq] at h
        have := optT2_good (st0 := st0) (F := fun st' => treeG G all true st0 r ⟨st'.t, st.o, st.n, st.h, st'.c⟩ K) (fun st' h' => treeG_good hK r ⟨st'.t, st.o, st.n, st.h, st'.c⟩ h') (atS st0 st) rfl h
        exact this
      · exact h.elim
    · exact h.elim
  | .H k r => fun st h => heavy_good _ h
  | .C k r j s => fun st h => heavy_good _ h.1
theorem treesG_good {G : Gl} {all : List Oper} {K : St → Prop} : ∀ gs : List (Tr × Nat), Good fun st => treesG G all gs st K
  | [] => good_stp
  | (g, n) :: r => fun st h => by
    have h : asK st fun st => treeG G all g.hasT st g st fun st => treesG G all r st K := h
    rw [asK_eq] at h
    exact treeG_good (treesG_good r) g _ h

/-- the memory at the group's start still stands -/
structure Since (G : Gl) (st0 st : St) (ρ0 ρ : List Nat) (w : World) : Prop where
  ext : ∃ m, ρ = ρ0 ++ m
  mem : Mem G st0 ρ0 w
theorem kept_since {G : Gl} {st0 st : St} {ρ0 ρ : List Nat} {w0 w : World} (mm0 : Mem G st0 ρ0 w0) (hx : ∃ m, ρ = ρ0 ++ m) (mm : Mem G st ρ w) (hk : Kept2 G st0 st) : Mem G st0 ρ0 w := by
  obtain ⟨m1, m2, m3, m4, m5, m6, mk, hh, m7, m8, m9⟩ := mm
  obtain ⟨⟨e1, e2⟩, e3⟩ := hk
  obtain ⟨q, rfl⟩ := hx
  have hsub : ∀ x ∈ st0.o, x ∈ st.o := fun x hx => by rw [← e1] at hx; exact List.mem_of_mem_drop hx
  have at_ : ∀ x ∈ st0.o, (ρ0 ++ q)[x.1]? = ρ0[x.1]? := fun x hx => by
    obtain ⟨b, cs, g1, _⟩ := mm0.ob x hx
    rw [List.getElem?_append_left (List.getElem?_eq_some_iff.1 g1).1]
  obtain ⟨h', s1, s2⟩ := e3 hh m8
  refine ⟨m1, mm0.len, (List.nodup_append.1 m3).1, fun b hb => m4 b (List.mem_append_left _ hb), mm0.no, fun x hx => ?_, mm0.kn, h', m7.mono s1, s2, fun x hx b hb => ?_⟩
  · obtain ⟨b, cs, g1, g2, g3⟩ := m6 x (hsub x hx)
    obtain ⟨b', cs', f1, f2, _⟩ := mm0.ob x hx
    rw [at_ x hx] at g1
    have := denL_ext q f2
    rw [g2] at this
    injection this with this
    subst this
    exact ⟨b, cs, g1, f2, g3⟩
  · have := m9 x (hsub x hx) b (by rw [at_ x hx]; exact hb)
    cases e' : h' b with
    | none => rfl
    | some ob => rw [s1 b ob e'] at this; cases this
theorem tree_sound {G : Gl} {all : List Oper} {Q : Exit → Act → World → Prop} {F : Array Bool → Bool} {K : St → Prop} {n : Nat} {kp : Bool} {st0 : St} {ρ0 : List Nat} (hsel : Region.noSelect all.toArray = true) (hQ : ∀ d v c a w, Q (.panic c) (Act.put a d v) w → Q (.panic c) a w) (hn : wallB all.toArray n) (hK : Good K) :
    ∀ (g : Tr) (ls : Array Bool) (st : St) (ρ : List Nat) (a : Act) (w : World), HeadInv .any all.toArray n ls → treeB all.toArray n F g ls = true → treeG G all kp st0 g st K → Tm G st ρ a → Mem G st ρ w → (kp = true → Since G st0 st ρ0 ρ w) →
      HdG G.P all.toArray Q (fun w => kp = true → Mem G st0 ρ0 w) n (fun ls a w => (F ls = true ∧ (Region.ready .any all.toArray ls).all (fun j => decide (n ≤ j)) = true) ∧ ∃ st ρ, K st ∧ Tm G st ρ a ∧ Mem G st ρ w) g.len ls a w
  | .E, ls, st, ρ, a, w, inv, hB, h, m, mm, hk => by
    simp only [treeB, Bool.and_eq_true] at hB
    exact ⟨hB, st, ρ, h, m, mm⟩
  | .T k r, ls, st, ρ, a, w, inv, hB, h, m, mm, hk => by
    simp only [treeB, Bool.and_eq_true, decide_eq_true_eq] at hB
    obtain ⟨hkn, hr, hf, hB⟩ := hB
    unfold treeG at h
    split at h
    rotate_left
    · exact h.elim
    have hk := hk rfl
    split at h
    · rename_i o ho'
      have ho2 : all.toArray[k]? = some o := by simpa using ho'
      have hr' : k ∈ Region.ready .any all.toArray ls := by simpa using hr
      rw [atK_eq] at h
      simp only [reK_eq] at h
      obtain ⟨q, rfl⟩ := hk.ext
      have m1 : Tm G (atS st0 st) (ρ0 ++ q) a := m.same rfl
      obtain ⟨v, st', k', s', m', hy⟩ := takeG2 (st0 := st0) (st := atS st0 st) (F := fun st' => treeG G all true st0 r ⟨st'.t, st.o, st.n, st.h, st'.c⟩ K) rfl h (fun st' h' => treeG_good hK r ⟨st'.t, st.o, st.n, st.h, st'.c⟩ h') m1 hk.mem
      refine HdG.take ho2 hsel hn hkn (fun c a w => hQ _ _ c a w) (fun ls a w hL j hj => ?_) r.len ls a w inv (Region.free_spec ho2 hf) hr' (hy.imp_left fun ⟨h1, h2⟩ => ⟨h1, fun w hw => h2 w (hw rfl)⟩) (fun _ => hk.mem) ?_
      · have := List.all_eq_true.1 hL.1.2 j hj
        simpa using this
      · exact tree_sound hsel hQ hn hK r _ _ (ρ0 ++ q) _ w (inv.set hr' hkn) hB k' (m'.same rfl) (mm.same rfl rfl rfl) fun _ => ⟨⟨q, rfl⟩, hk.mem⟩
    · exact h.elim
  | .H k r, ls, st, ρ, a, w, inv, hB, h, m, mm, hk => by
    simp only [treeB, Bool.and_eq_true, decide_eq_true_eq] at hB
    obtain ⟨hkn, hr, hB⟩ := hB
    have hr' : k ∈ Region.ready .any all.toArray ls := by rw [hr]; simp
    refine ⟨List.ne_nil_of_mem hr', fun i hi => ?_⟩
    rw [hr] at hi
    have hik : i = k := by simpa using hi
    subst hik
    refine ⟨hkn, ?_⟩
    have h : heavyG G all kp st0 i st fun st => treeG G all kp st0 r st K := h
    unfold heavyG at h
    split at h
    · rename_i o ho'
      have ho2 : all.toArray[i]? = some o := by simpa using ho'
      split at h
      · rename_i hg
        unfold wpOp
        simp only [ho2]
        rw [if_pos (wanted_none hg _)]
        left
        refine Oper.wp_mono (fun a' w' ⟨st', ρ', k', m', mm', ex'⟩ => ?_) ((op1_soundX (heavy_op h) good_stp).2 ρ a w Q m mm)
        obtain ⟨_, hkeep, k'⟩ := stp_iff.1 k'
        have mm2 : kp = true → Since G st0 { st' with c := True } ρ0 ρ' w' := fun hkp => by
          have hk := hk hkp
          obtain ⟨q, rfl⟩ := hk.ext
          obtain ⟨q', rfl⟩ := ex'
          have hx : ∃ m, ρ0 ++ q ++ q' = ρ0 ++ m := ⟨q ++ q', by rw [List.append_assoc]⟩
          exact ⟨hx, kept_since hk.mem hx (mm'.same (st' := { st' with c := True }) rfl rfl rfl) (hkeep hkp)⟩
        exact ⟨fun e => (mm2 e).mem, tree_sound hsel hQ hn hK r _ _ _ a' w' (inv.set hr' hkn) hB k' (m'.same rfl) (mm'.same rfl rfl rfl) mm2⟩
      · exact h.elim
    · exact h.elim
  | .C k r j s, ls, st, ρ, a, w, inv, hB, h, m, mm, hk => by
    simp only [treeB, Bool.and_eq_true, decide_eq_true_eq] at hB
    obtain ⟨hkn, hjn, hr, hlen, hB1, hB2⟩ := hB
    have hk' : k ∈ Region.ready .any all.toArray ls := by rw [hr]; simp
    have hj' : j ∈ Region.ready .any all.toArray ls := by rw [hr]; simp
    have h : (heavyG G all kp st0 k st fun st => treeG G all kp st0 r st K) ∧ (heavyG G all kp st0 j st fun st => treeG G all kp st0 s st K) := h
    have step : ∀ (i : Nat) (t : Tr), i ∈ Region.ready .any all.toArray ls → i < n → treeB all.toArray n F t (ls.setIfInBounds i true) = true → (heavyG G all kp st0 i st fun st => treeG G all kp st0 t st K) →
        (∀ ls st ρ a w, HeadInv .any all.toArray n ls → treeB all.toArray n F t ls = true → treeG G all kp st0 t st K → Tm G st ρ a → Mem G st ρ w → (kp = true → Since G st0 st ρ0 ρ w) → HdG G.P all.toArray Q (fun w => kp = true → Mem G st0 ρ0 w) n (fun ls a w => (F ls = true ∧ (Region.ready .any all.toArray ls).all (fun j => decide (n ≤ j)) = true) ∧ ∃ st ρ, K st ∧ Tm G st ρ a ∧ Mem G st ρ w) t.len ls a w) →
        wpOp G.P all.toArray Q i (fun a' w' => (kp = true → Mem G st0 ρ0 w') ∧ HdG G.P all.toArray Q (fun w => kp = true → Mem G st0 ρ0 w) n (fun ls a w => (F ls = true ∧ (Region.ready .any all.toArray ls).all (fun j => decide (n ≤ j)) = true) ∧ ∃ st ρ, K st ∧ Tm G st ρ a ∧ Mem G st ρ w) t.len (ls.setIfInBounds i true) a' w') a w := by
      intro i t hi hin hB h ih
      unfold heavyG at h
      split at h
      · rename_i o ho'
        have ho2 : all.toArray[i]? = some o := by simpa using ho'
        split at h
        · rename_i hg
          unfold wpOp
          simp only [ho2]
          rw [if_pos (wanted_none hg _)]
          left
          refine Oper.wp_mono (fun a' w' ⟨st', ρ', k', m', mm', ex'⟩ => ?_) ((op1_soundX (heavy_op h) good_stp).2 ρ a w Q m mm)
          obtain ⟨_, hkeep, k'⟩ := stp_iff.1 k'
          have mm2 : kp = true → Since G st0 { st' with c := True } ρ0 ρ' w' := fun hkp => by
            have hk := hk hkp
            obtain ⟨q, rfl⟩ := hk.ext
            obtain ⟨q', rfl⟩ := ex'
            have hx : ∃ m, ρ0 ++ q ++ q' = ρ0 ++ m := ⟨q ++ q', by rw [List.append_assoc]⟩
            exact ⟨hx, kept_since hk.mem hx (mm'.same (st' := { st' with c := True }) rfl rfl rfl) (hkeep hkp)⟩
          exact ⟨fun e => (mm2 e).mem, ih _ _ _ a' w' (inv.set hi hin) hB k' (m'.same rfl) (mm'.same rfl rfl rfl) mm2⟩
        · exact h.elim
      · exact h.elim
    refine ⟨List.ne_nil_of_mem hk', fun i hi => ?_⟩
    rw [hr] at hi
    have hik : i = k ∨ i = j := by simpa using hi
    rcases hik with rfl | rfl
    · exact ⟨hkn, step i r hk' hkn hB1 h.1 (tree_sound hsel hQ hn hK r)⟩
    · refine ⟨hjn, ?_⟩
      have := step i s hj' hjn hB2 h.2 (tree_sound hsel hQ hn hK s)
      rw [← hlen] at this
      exact this
theorem trees_sound {G : Gl} {all : List Oper} {Q : Exit → Act → World → Prop} {K : St → Prop} (hsel : Region.noSelect all.toArray = true) (hQ : ∀ d v c a w, Q (.panic c) (Act.put a d v) w → Q (.panic c) a w) (hend : ∀ st ρ a w, K st → Tm G st ρ a → Mem G st ρ w → Q .normal a w) :
    ∀ (gs : List (Tr × Nat)) (ls : Array Bool) (st : St) (ρ : List Nat) (a : Act) (w : World), treesB all.toArray gs ls = true → treesG G all gs st K → Tm G st ρ a → Mem G st ρ w → wpAny G.P .any all.toArray Q (treeLen gs) ls a w
  | [], ls, st, ρ, a, w, hB, h, m, mm => by
    simp only [treesB, decide_eq_true_eq] at hB
    exact ⟨hB, hend { st with c := True } ρ a w (stp_iff.1 h).2 (m.same rfl) (mm.same rfl rfl rfl)⟩
  | (g, n) :: r, ls, st, ρ, a, w, hB, h, m, mm => by
    simp only [treesB, Bool.and_eq_true, Bool.or_eq_true, decide_eq_true_eq] at hB
    obtain ⟨hw, hh, hs⟩ := hB
    have h : asK st fun st => treeG G all g.hasT st g st fun st => treesG G all r st K := h
    rw [asK_eq] at h
    have key := tree_sound (F := fun ls' => treesB all.toArray r ls') (kp := g.hasT) (st0 := st) (ρ0 := ρ) hsel hQ hw (treesG_good r) g ls st ρ a w (headW_spec hh) hs h m mm fun _ => ⟨⟨[], by simp⟩, mm⟩
    exact HdG.any (g := treeLen r) (fun ls' a' w' ⟨⟨hF, _⟩, st', ρ', k, m', mm'⟩ => trees_sound hsel hQ hend r ls' st' ρ' a' w' hF k m' mm') _ _ _ _ key
/-- a region that draws its order, by groups in which two operations may come up at once -/
theorem RegAt.trees {G : Gl} {id : Nat} {l : List Oper} {st : St} {K : St → Prop} (gs : List (Tr × Nat)) (hm : G.P.follows .mixedOrders = true) (hB : treesOk l gs = true) (h : treesG G l gs st K) : RegAt G id l.toArray st K := by
  simp only [treesOk, Bool.and_eq_true, decide_eq_true_eq] at hB
  obtain ⟨h1, h2, h3⟩ := hB
  refine .mk fun ρ a w m mm => ?_
  refine wp_region_any hm ?_
  have key := trees_sound (Q := fun e a' w' => e = .normal ∧ ∃ st' ρ', K st' ∧ Tm G st' ρ' a' ∧ Mem G st' ρ' w') h1 (fun d v c a w hq => by obtain ⟨hq, _⟩ := hq; cases hq) (fun st ρ a w k m mm => ⟨rfl, st, ρ, k, m, mm⟩) gs _ st ρ a _ h3 h m mm.drew
  rw [h2] at key
  simpa using key
end Sy
end Go.Proofs.Ytlplbgbnojibmaa

/-
  Symbolic runs: a round's end where other objects bear the names of the round's start.
-/
namespace Go.Proofs.Ytlplbgbnojibmaa
open Go.RowKit
namespace Sy
set_option linter.unusedVariables false
set_option linter.unusedSimpArgs false

def renV (is : List Nat) : SV → Option SV
  | .p m off => match is[m]? with
    | some j => some (.p j off)
    | none => none
  | x => some x
def renL (is : List Nat) : List SV → Option (List SV)
  | [] => some []
  | x :: l => match renV is x with
    | some y => match renL is l with
      | some r => some (y :: r)
      | none => none
    | none => none
def pickT (is : List Nat) (src : List (Nat × SV)) : List (Nat × SV) → Prop
  | [] => True
  | (t, x) :: r => (∃ y, renV is x = some y ∧ getT src t = some y) ∧ pickT is src r
def pickO (is : List Nat) (src : List (Nat × TypeId × List SV)) : List (Nat × TypeId × List SV) → Prop
  | [] => True
  | (k, x) :: r => (∃ j l, is[k]? = some j ∧ renL is x.2 = some l ∧ getO src j = some (x.1, l)) ∧ pickO is src r
def nodupB : List Nat → Bool
  | [] => true
  | x :: l => !l.contains x && nodupB l
theorem nodupB_spec : ∀ {l : List Nat}, nodupB l = true → l.Nodup
  | [], _ => by simp
  | x :: l, h => by
    simp only [nodupB, Bool.and_eq_true, Bool.not_eq_true'] at h
    rw [List.nodup_cons]
    refine ⟨fun c => ?_, nodupB_spec h.2⟩
    have : l.contains x = true := by simpa using c
    rw [this] at h
    cases h.1
theorem pickT_get {is : List Nat} {src : List (Nat × SV)} : ∀ {l : List (Nat × SV)} {t : Nat} {x : SV}, pickT is src l → getT l t = some x → ∃ y, renV is x = some y ∧ getT src t = some y
  | [], t, x, _, h => by cases h
  | (k, y) :: l, t, x, hl, h => by
    simp only [getT] at h
    split at h
    · rename_i e
      have := beq_of e
      subst this
      injection h with h
      subst h
      exact hl.1
    · exact pickT_get hl.2 h
theorem pickO_mem {is : List Nat} {src : List (Nat × TypeId × List SV)} : ∀ {l : List (Nat × TypeId × List SV)} {x : Nat × TypeId × List SV}, pickO is src l → x ∈ l → ∃ j r, is[x.1]? = some j ∧ renL is x.2.2 = some r ∧ getO src j = some (x.2.1, r)
  | [], x, _, h => by cases h
  | (k, y) :: l, x, hl, h => by
    rcases List.mem_cons.1 h with rfl | h
    · exact hl.1
    · exact pickO_mem hl.2 h
/-- the named blocks anew -/
def pickR (is ρ : List Nat) : List Nat := is.map fun j => ρ.getD j 0
theorem pickR_at {is ρ : List Nat} {k j : Nat} (h : is[k]? = some j) (hj : j < ρ.length) : (pickR is ρ)[k]? = ρ[j]? := by
  unfold pickR
  rw [List.getElem?_map, h, List.getElem?_eq_getElem hj]
  simp [List.getD_eq_getElem?_getD, List.getElem?_eq_getElem hj]
theorem den_pick {is ρ : List Nat} (hlt : ∀ j ∈ is, j < ρ.length) {x y : SV} (h : renV is x = some y) : x.den (pickR is ρ) = y.den ρ := by
  cases x with
  | v x => simp only [renV, Option.some.injEq] at h; subst h; rfl
  | k b => simp only [renV, Option.some.injEq] at h; subst h; rfl
  | p m off =>
    simp only [renV] at h
    cases hj : is[m]? with
    | none => rw [hj] at h; cases h
    | some j =>
      rw [hj] at h
      simp only [Option.some.injEq] at h
      subst h
      simp only [SV.den]
      rw [pickR_at hj (hlt j (List.mem_of_getElem? hj))]
theorem denL_pick {is ρ : List Nat} (hlt : ∀ j ∈ is, j < ρ.length) : ∀ {l r : List SV}, renL is l = some r → denL (pickR is ρ) l = denL ρ r
  | [], r, h => by simp only [renL, Option.some.injEq] at h; subst h; rfl
  | x :: l, r, h => by
    unfold renL at h
    split at h
    · rename_i y hy
      split at h
      · rename_i r' hr
        injection h with h
        subst h
        have h1 := den_pick hlt hy
        have h2 := denL_pick hlt hr
        unfold denL at *
        rw [List.mapM_cons, List.mapM_cons, h1, h2]
      · cases h
    · cases h
theorem Le.pick {G : Gl} {st st' : St} (is : List Nat) (hn : is.length = st'.n) (hlt : is.all (fun j => Nat.blt j st.n) = true) (hnd : nodupB is = true) (hB : is.take G.B.length = List.range G.B.length) (ht : pickT is st.t st'.t) (ho : pickO is st.o st'.o) (hno : nodupB (st'.o.map (·.1)) = true)
    (hh : ∀ h, sepL st.h G.R h → ∃ h', (∀ i o, h' i = some o → h i = some o) ∧ sepL st'.h G.R h') : Le G st st' := by
  intro ρ a w m mm
  obtain ⟨m1, m2, m3, m4, m5, m6, mk, h, m7, m8, m9⟩ := mm
  obtain ⟨h', hs, hp⟩ := hh h m8
  have hl : ∀ j ∈ is, j < ρ.length := fun j hj => by
    have := List.all_eq_true.1 hlt j hj
    rw [m2]
    exact Nat.le_of_ble_eq_true this
  have hnd' := nodupB_spec hnd
  refine ⟨pickR is ρ, ⟨m.size, m.defs, fun t x e => ?_⟩, ⟨m1, ?_, ?_, fun b hb => ?_, nodupB_spec hno, fun x hx => ?_, ?_, h', m7.mono hs, hp, fun x hx b e => ?_⟩⟩
  · obtain ⟨y, e1, e2⟩ := pickT_get ht e
    rw [den_pick hl e1]
    exact m.get t y e2
  · rw [← hn]; simp [pickR]
  · refine List.pairwise_iff_getElem.2 fun i j hil hjl hij e => ?_
    have hjl' : j < is.length := by simpa [pickR] using hjl
    have hi : i < is.length := by omega
    have e : (pickR is ρ)[i]? = (pickR is ρ)[j]? := by rw [List.getElem?_eq_getElem hil, List.getElem?_eq_getElem hjl, e]
    have a1 := pickR_at (ρ := ρ) (List.getElem?_eq_getElem hi) (hl _ (List.getElem_mem hi))
    have a2 := pickR_at (ρ := ρ) (List.getElem?_eq_getElem hjl') (hl _ (List.getElem_mem hjl'))
    rw [a1, a2] at e
    have b1 := hl _ (List.getElem_mem hi)
    have b2 := hl _ (List.getElem_mem hjl')
    rw [List.getElem?_eq_getElem b1, List.getElem?_eq_getElem b2] at e
    injection e with e
    have := (List.getElem_inj m3).1 e
    have := (List.getElem_inj hnd').1 this
    omega
  · obtain ⟨k, hk, e⟩ := List.mem_iff_getElem.1 hb
    have hk' : k < is.length := by simpa [pickR] using hk
    have a1 := pickR_at (ρ := ρ) (List.getElem?_eq_getElem hk') (hl _ (List.getElem_mem hk'))
    rw [List.getElem?_eq_getElem hk, List.getElem?_eq_getElem (hl _ (List.getElem_mem hk'))] at a1
    injection a1 with a1
    rw [← e, a1]
    exact m4 _ (List.getElem_mem _)
  · obtain ⟨j, r, e1, e2, e3⟩ := pickO_mem ho hx
    obtain ⟨b, cs, f1, f2, f3⟩ := m6 _ (getO_mem e3)
    exact ⟨b, cs, by rw [pickR_at e1 (hl j (List.mem_of_getElem? e1))]; exact f1, by rw [denL_pick hl e2]; exact f2, f3⟩
  · obtain ⟨q, rfl⟩ := mk
    refine ⟨pickR (is.drop G.B.length) (G.B ++ q), ?_⟩
    have : pickR is (G.B ++ q) = pickR (is.take G.B.length) (G.B ++ q) ++ pickR (is.drop G.B.length) (G.B ++ q) := by unfold pickR; rw [← List.map_append, List.take_append_drop]
    rw [this, hB]
    congr 1
    apply List.ext_getElem?
    intro i
    by_cases c : i < G.B.length
    · rw [pickR_at (by rw [List.getElem?_range c]) (by simp; omega), List.getElem?_append_left c]
    · rw [List.getElem?_eq_none (by simp [pickR]; omega), List.getElem?_eq_none (by omega)]
  · obtain ⟨j, r, e1, e2, e3⟩ := pickO_mem ho hx
    rw [pickR_at e1 (hl j (List.mem_of_getElem? e1))] at e
    have := m9 _ (getO_mem e3) b e
    cases e' : h' b with
    | none => rfl
    | some o => rw [hs b o e'] at this; cases this
/-- .. and all orders come to one state -/
theorem RegAt.joins {G : Gl} {id : Nat} {l : List Oper} {st : St} {K : St → Prop} (gs : List (Tr × Nat)) (Kp : List Nat) (S : List (Nat × SV)) (O : List (Nat × TypeId × List SV)) (nn : Nat) (H : List HP) (hm : G.P.follows .mixedOrders = true) (hB : treesOk l gs = true)
    (h : treesG G l gs st fun st' => Le G st' ⟨S ++ keepT st.t Kp, O, nn, H, True⟩) (k : forceL (S ++ keepT st.t Kp) fun t => K ⟨t, O, nn, H, True⟩) : RegAt G id l.toArray st K := by
  obtain ⟨h⟩ := RegAt.trees (id := id) gs hm hB h
  refine .mk fun ρ a w m mm => ?_
  refine wp_mono (h ρ a w m mm) ?_
  rintro e a' w' ⟨rfl, st', ρ', hle, m', mm'⟩
  obtain ⟨ρ2, m2, mm2⟩ := hle ρ' a' w' m' mm'
  exact ⟨rfl, _, ρ2, forceL_eq k, m2, mm2⟩
def asK0 (st : St) (K : St → St → Prop) : Prop := match st with
  | ⟨t, o, n, h, c⟩ => K ⟨t, o, n, [], c⟩ ⟨t, o, n, h, c⟩
theorem asK0_eq (st : St) (K : St → St → Prop) : asK0 st K = K { st with h := [] } st := by cases st; rfl
/-- groups that keep the objects, and what is only read -/
def treesG0 (G : Gl) (all : List Oper) : List (Tr × Nat) → St → (St → Prop) → Prop
  | [], st, K => stp st K
  | (g, _) :: r, st, K => asK0 st fun st0 st => treeG G all g.hasT st0 g st fun st => treesG0 G all r st K
theorem treesG0_good {G : Gl} {all : List Oper} {K : St → Prop} : ∀ gs : List (Tr × Nat), Good fun st => treesG0 G all gs st K
  | [] => good_stp
  | (g, n) :: r => fun st h => by
    have h : asK0 st fun st0 st => treeG G all g.hasT st0 g st fun st => treesG0 G all r st K := h
    rw [asK0_eq] at h
    exact treeG_good (treesG0_good r) g _ h
theorem trees0_sound {G : Gl} {all : List Oper} {Q : Exit → Act → World → Prop} {K : St → Prop} (hsel : Region.noSelect all.toArray = true) (hQ : ∀ d v c a w, Q (.panic c) (Act.put a d v) w → Q (.panic c) a w) (hend : ∀ st ρ a w, K st → Tm G st ρ a → Mem G st ρ w → Q .normal a w) :
    ∀ (gs : List (Tr × Nat)) (ls : Array Bool) (st : St) (ρ : List Nat) (a : Act) (w : World), treesB all.toArray gs ls = true → treesG0 G all gs st K → Tm G st ρ a → Mem G st ρ w → wpAny G.P .any all.toArray Q (treeLen gs) ls a w
  | [], ls, st, ρ, a, w, hB, h, m, mm => by
    simp only [treesB, decide_eq_true_eq] at hB
    exact ⟨hB, hend { st with c := True } ρ a w (stp_iff.1 h).2 (m.same rfl) (mm.same rfl rfl rfl)⟩
  | (g, n) :: r, ls, st, ρ, a, w, hB, h, m, mm => by
    simp only [treesB, Bool.and_eq_true, Bool.or_eq_true, decide_eq_true_eq] at hB
    obtain ⟨hw, hh, hs⟩ := hB
    have h : asK0 st fun st0 st => treeG G all g.hasT st0 g st fun st => treesG0 G all r st K := h
    rw [asK0_eq] at h
    have key := tree_sound (F := fun ls' => treesB all.toArray r ls') (kp := g.hasT) (st0 := { st with h := [] }) (ρ0 := ρ) hsel hQ hw (treesG0_good r) g ls st ρ a w (headW_spec hh) hs h m mm fun _ => ⟨⟨[], by simp⟩, mem_nil mm⟩
    exact HdG.any (g := treeLen r) (fun ls' a' w' ⟨⟨hF, _⟩, st', ρ', k, m', mm'⟩ => trees0_sound hsel hQ hend r ls' st' ρ' a' w' hF k m' mm') _ _ _ _ key
theorem RegAt.trees0 {G : Gl} {id : Nat} {l : List Oper} {st : St} {K : St → Prop} (gs : List (Tr × Nat)) (hm : G.P.follows .mixedOrders = true) (hB : treesOk l gs = true) (h : treesG0 G l gs st K) : RegAt G id l.toArray st K := by
  simp only [treesOk, Bool.and_eq_true, decide_eq_true_eq] at hB
  obtain ⟨h1, h2, h3⟩ := hB
  refine .mk fun ρ a w m mm => ?_
  refine wp_region_any hm ?_
  have key := trees0_sound (Q := fun e a' w' => e = .normal ∧ ∃ st' ρ', K st' ∧ Tm G st' ρ' a' ∧ Mem G st' ρ' w') h1 (fun d v c a w hq => by obtain ⟨hq, _⟩ := hq; cases hq) (fun st ρ a w k m mm => ⟨rfl, st, ρ, k, m, mm⟩) gs _ st ρ a _ h3 h m mm.drew
  rw [h2] at key
  simpa using key
theorem RegAt.joins0 {G : Gl} {id : Nat} {l : List Oper} {st : St} {K : St → Prop} (gs : List (Tr × Nat)) (Kp : List Nat) (S : List (Nat × SV)) (O : List (Nat × TypeId × List SV)) (nn : Nat) (H : List HP) (hm : G.P.follows .mixedOrders = true) (hB : treesOk l gs = true)
    (h : treesG0 G l gs st fun st' => Le G st' ⟨S ++ keepT st.t Kp, O, nn, H, True⟩) (k : forceL (S ++ keepT st.t Kp) fun t => K ⟨t, O, nn, H, True⟩) : RegAt G id l.toArray st K := by
  obtain ⟨h⟩ := RegAt.trees0 (id := id) gs hm hB h
  refine .mk fun ρ a w m mm => ?_
  refine wp_mono (h ρ a w m mm) ?_
  rintro e a' w' ⟨rfl, st', ρ', hle, m', mm'⟩
  obtain ⟨ρ2, m2, mm2⟩ := hle ρ' a' w' m' mm'
  exact ⟨rfl, _, ρ2, forceL_eq k, m2, mm2⟩
end Sy
end Go.Proofs.Ytlplbgbnojibmaa

/-
  rect.Meet; probe's search: what it holds; whole.
-/
namespace Go.Proofs.Ytlplbgbnojibmaa
open Go.RowKit
open Sy
set_option linter.unusedVariables false
set_option linter.unusedSimpArgs false
set_option maxRecDepth 100000
set_option maxHeartbeats 4000000

def meetR (a b : Q4) : Q4 := ⟨max a.x0 b.x0, max a.y0 b.y0, min a.x1 b.x1, min a.y1 b.y1⟩
def meetsB (a b : Q4) : Prop := a.ok ∧ b.ok ∧ (meetR a b).ok
instance (a b : Q4) : Decidable (meetsB a b) := by unfold meetsB; infer_instance
def meet (a b : Q4) : Q4 := if meetsB a b then meetR a b else ⟨0, 0, 0, 0⟩
theorem pMeet (a b : Q4) (R : HP) : PureR Try.prog R 107 [a.v, b.v] (.tuple #[(meet a b).v, .bool (decide (meetsB a b))]) := by
  refine fn_of_run0 false Try.func107 rfl hmix rfl fun w0 => ?_
  conv => whnf
  refine ⟨trivial, CallAt.pure (fun R' hR' => pRight a R') ?_⟩
  conv => whnf
  unfold meet
  refine ⟨fun h => ?_, fun h => ?_⟩
  · have h1 : a.ok := by simpa using h
    conv => whnf
    refine ⟨trivial, CallAt.pure (fun R' hR' => pRight b R') ?_⟩
    conv => whnf
    refine ⟨fun h => ?_, fun h => ?_⟩
    · have h2 : ¬ b.ok := by simpa using h
      have e : ¬ meetsB a b := fun c => h2 c.2.1
      rw [if_neg e, decide_eq_false e]
      conv => whnf
      exact ⟨trivial, fin_drop rfl⟩
    · have h2 : b.ok := by simpa using h
      conv => whnf
      refine ⟨trivial, CallAt.pure (fun R' hR' => pRight (meetR a b) R') ?_⟩
      conv => whnf
      refine ⟨fun h => ?_, fun h => ?_⟩
      · have h3 : ¬ (meetR a b).ok := by simpa using h
        have e : ¬ meetsB a b := fun c => h3 c.2.2
        rw [if_neg e, decide_eq_false e]
        conv => whnf
        exact ⟨trivial, fin_drop rfl⟩
      · have h3 : (meetR a b).ok := by simpa using h
        have e : meetsB a b := ⟨h1, h2, h3⟩
        rw [if_pos e, decide_eq_true e]
        conv => whnf
        exact ⟨trivial, fin_drop rfl⟩
  · have h1 : ¬ a.ok := by simpa using h
    have e : ¬ meetsB a b := fun c => h1 c.1
    rw [if_neg e, decide_eq_false e]
    conv => whnf
    exact ⟨trivial, fin_drop rfl⟩
structure Nd where
  k : Nat
  x : Nat
  y : Nat
/-- the cells of a level that are there -/
def Nd.ok (W H : Nat) (g : Nd) : Prop := g.k < levN W H ∧ g.x < halfN W g.k ∧ g.y < halfN H g.k
def spanQ (W H : Nat) (g : Nd) : Q4 := ⟨((g.x * 2 ^ g.k : Nat) : Int), ((g.y * 2 ^ g.k : Nat) : Int), ((spX1 W g.k g.x : Nat) : Int), ((spX1 H g.k g.y : Nat) : Int)⟩
def ndL (W H : Nat) (g : Nd) : List Value := [.int .i64 (g.k : Int), .int .i64 (g.x : Int), .int .i64 (g.y : Int), .int .i64 (spanQ W H g).x0, .int .i64 (spanQ W H g).y0, .int .i64 (spanQ W H g).x1, .int .i64 (spanQ W H g).y1]
abbrev ndV (W H : Nat) (g : Nd) : Value := .agg #[.int .i64 (g.k : Int), .int .i64 (g.x : Int), .int .i64 (g.y : Int), .int .i64 (spanQ W H g).x0, .int .i64 (spanQ W H g).y0, .int .i64 (spanQ W H g).x1, .int .i64 (spanQ W H g).y1]
def ncel (W H : Nat) (L : List Nd) : List Value := L.flatMap (ndL W H)
theorem ncel_len (W H : Nat) (L : List Nd) : (ncel W H L).length = L.length * 7 := by
  induction L with
  | nil => rfl
  | cons g L ih =>
    have e : ncel W H (g :: L) = ndL W H g ++ ncel W H L := rfl
    rw [e, List.length_append, ih]
    simp [ndL]; omega
theorem ncel_append (W H : Nat) (a b : List Nd) : ncel W H (a ++ b) = ncel W H a ++ ncel W H b := by simp [ncel]
theorem ncel_one (W H : Nat) (L : List Nd) : ∀ u ∈ ncel W H L, u.oneCell' = true := by
  intro u hu
  unfold ncel at hu
  obtain ⟨f, _, hf⟩ := List.mem_flatMap.1 hu
  simp [ndL] at hf
  rcases hf with e | e | e | e | e | e | e <;> subst e <;> rfl
/-- the last one's cells -/
theorem ncel_last (W H : Nat) (L : List Nd) (g : Nd) {j : Nat} {u : Value} (h : (ndL W H g)[j]? = some u) : (ncel W H (L ++ [g]))[L.length * 7 + j]? = some u := by
  rw [ncel_append, List.getElem?_append_right (by rw [ncel_len]; omega), ncel_len]
  have : L.length * 7 + j - L.length * 7 = j := by omega
  rw [this]
  simpa [ncel] using h
abbrev sHd (sb pb : Nat) (r : Q4) (A : Option Addr) (n c : Nat) : HP := blkH sb 175 #[.pointer (some ⟨pb, 0, none⟩), .int .i64 r.x0, .int .i64 r.y0, .int .i64 r.x1, .int .i64 r.y1, .slice A n c]
abbrev sRw (W H : Nat) (A : Option Addr) (n c : Nat) (L : List Nd) : HP := rowH (.slice A n c) n 114 7 (ncel W H L)
def sParts (sb pb W H : Nat) (r : Q4) (L : List Nd) (x : Option Addr × Nat) : List HP := [sHd sb pb r x.1 L.length x.2, sRw W H x.1 L.length x.2 L]
/-- a search: its pyramid, its rectangle, its stack -/
def srchH (sb pb W H : Nat) (r : Q4) (L : List Nd) : HP := boxH (sParts sb pb W H r L)
theorem row_shrink {A : Option Addr} {n m c size : Nat} {e : TypeId} {xs : List Value} {h : Hl} (hm : m ≤ n) (r : rowH (.slice A n c) n e size xs h) : rowH (.slice A m c) m e size (xs.take (m * size)) h := by
  obtain ⟨hl, r⟩ := r
  refine ⟨?_, ?_⟩
  · rw [List.length_take, hl]
    have := Nat.mul_le_mul_right size hm
    omega
  · rcases r with ⟨e1, e2, e3⟩ | ⟨g, cap, cur, e1, e2, e3, e4, e5, e6⟩
    · simp only [Value.slice.injEq] at e1
      obtain ⟨rfl, rfl, rfl⟩ := e1
      left
      have : m = 0 := by omega
      subst this
      exact ⟨rfl, by simp, e3⟩
    · simp only [Value.slice.injEq] at e1
      obtain ⟨rfl, _, rfl⟩ := e1
      right
      refine ⟨g, c, cur, rfl, e2, by omega, e4, e5, ?_⟩
      rw [← e6, List.take_take]
      have := Nat.mul_le_mul_right size hm
      rw [Nat.min_eq_left this]
theorem sWhole {R : HP} {sb W H : Nat} {r : Q4} {g : Nd} (hR : ∀ w, Sat R w → w.cell? ⟨sb, 1, none⟩ = some (.int .i64 r.x0) ∧ w.cell? ⟨sb, 2, none⟩ = some (.int .i64 r.y0) ∧ w.cell? ⟨sb, 3, none⟩ = some (.int .i64 r.x1) ∧ w.cell? ⟨sb, 4, none⟩ = some (.int .i64 r.y1)) :
    PureR Try.prog R 62 [.pointer (some ⟨sb, 0, none⟩), ndV W H g] (.bool (decide (meet (spanQ W H g) r = spanQ W H g))) := by
  refine fn_of_run0 false Try.func62 rfl hmix rfl fun w0 => ?_
  conv => whnf
  refine ⟨trivial, RegAt.joins [((Tr.T 0 (Tr.T 1 (Tr.T 2 (Tr.T 3 (Tr.T 4 (Tr.T 5 (Tr.C 6 (Tr.T 7 (Tr.T 8 (Tr.T 9 (Tr.H 10 (Tr.H 11 Tr.E))))) 10 (Tr.H 6 (Tr.T 7 (Tr.T 8 (Tr.T 9 (Tr.H 11 Tr.E)))))))))))), 12), ((Tr.T 12 Tr.E), 13)] [0, 3] [(5, .p 1 0)] [(1, 25, [.v (.int .i64 (meet (spanQ W H g) r).x0), .v (.int .i64 (meet (spanQ W H g) r).y0), .v (.int .i64 (meet (spanQ W H g) r).x1), .v (.int .i64 (meet (spanQ W H g) r).y1)]), (0, 114, [.v (.int .i64 (g.k : Int)), .v (.int .i64 (g.x : Int)), .v (.int .i64 (g.y : Int)), .v (.int .i64 (spanQ W H g).x0), .v (.int .i64 (spanQ W H g).y0), .v (.int .i64 (spanQ W H g).x1), .v (.int .i64 (spanQ W H g).y1)])] 2 [] hmix (by kernel_rfl) ?_ ?_⟩
  · conv => whnf
    refine ⟨trivial, LoadAt.agg [.int .i64 r.x0, .int .i64 r.y0, .int .i64 r.x1, .int .i64 r.y1] rfl rfl rfl (fun w hw j v hj => ?_) ?_⟩
    · obtain ⟨c0, c1, c2, c3⟩ := hR w hw
      rcases j with _ | _ | _ | _ | j
      · simp at hj; rw [← hj]; exact c0
      · simp at hj; rw [← hj]; exact c1
      · simp at hj; rw [← hj]; exact c2
      · simp at hj; rw [← hj]; exact c3
      · simp at hj
    conv => whnf
    refine ⟨?_, ?_⟩
    · refine ⟨trivial, CallAt.pure (fun R' hR' => pMeet (spanQ W H g) r R') ?_⟩
      conv => whnf
      refine ⟨trivial, ⟨⟨rfl, rfl⟩, fun h s => sub_same s⟩, ?_⟩
      conv => whnf
      refine ⟨trivial, ⟨⟨rfl, rfl⟩, fun h s => sub_same s⟩, ?_⟩
      conv => whnf
      refine ⟨trivial, ⟨⟨rfl, rfl⟩, fun h s => sub_same s⟩, ?_⟩
      conv => whnf
      refine ⟨trivial, Le.of (Nat.le_of_ble_eq_true rfl) (Nat.zero_le _) ⟨⟨rfl, rfl⟩, ⟨rfl, rfl⟩, ⟨rfl, rfl⟩, trivial⟩ ⟨⟨rfl, rfl, rfl, rfl⟩, ⟨rfl, rfl, rfl, rfl⟩, trivial⟩ fun h s => sub_same s⟩
    · refine ⟨trivial, ⟨⟨rfl, rfl⟩, fun h s => sub_same s⟩, ?_⟩
      conv => whnf
      refine ⟨trivial, CallAt.pure (fun R' hR' => pMeet (spanQ W H g) r R') ?_⟩
      conv => whnf
      refine ⟨trivial, ⟨⟨rfl, rfl⟩, fun h s => sub_same s⟩, ?_⟩
      conv => whnf
      refine ⟨trivial, ⟨⟨rfl, rfl⟩, fun h s => sub_same s⟩, ?_⟩
      conv => whnf
      refine ⟨trivial, Le.of (Nat.le_of_ble_eq_true rfl) (Nat.zero_le _) ⟨⟨rfl, rfl⟩, ⟨rfl, rfl⟩, ⟨rfl, rfl⟩, trivial⟩ ⟨⟨rfl, rfl, rfl, rfl⟩, ⟨rfl, rfl, rfl, rfl⟩, trivial⟩ fun h s => sub_same s⟩
  · conv => whnf
    refine ⟨trivial, OpAt.aggEq rfl rfl rfl rfl (by kernel_rfl) (q4_eq (meet (spanQ W H g) r) (spanQ W H g)) ?_⟩
    conv => whnf
    exact ⟨trivial, fin_drop rfl⟩

theorem blk_at {b : Nat} {t : TypeId} {cs : Array Value} {w : World} (s : Sat (blkH b t cs) w) {k : Nat} {v : Value} (h : cs[k]? = some v) : w.cell? ⟨b, k, none⟩ = some v := by
  rw [(blk_sat s).cell k]
  exact h
theorem blk_put {b : Nat} {t : TypeId} {cs : Array Value} {off : Nat} {ys : List Value} (h : off + ys.length ≤ cs.size) {hl : Hl} (r : blkH b t cs hl) : ∃ ty cs', hl b = some (.cells cs' ty (0, 0)) ∧ off + ys.length ≤ cs'.size ∧ blkH b t (putL cs.toList off ys).toArray fun j => if j = b then some (.cells (putL cs'.toList off ys).toArray ty (0, 0)) else hl j := by
  refine ⟨t, cs, by rw [r b, if_pos rfl], h, fun i => ?_⟩
  by_cases c : i = b
  · subst c; simp
  · have := r i
    rw [if_neg c] at this
    simp [c, this]
def trPush5 : List (Tr × Nat) := [((Tr.T 0 (Tr.T 1 (Tr.T 2 (Tr.T 3 (Tr.T 5 (Tr.T 6 (Tr.T 7 (Tr.T 8 (Tr.C 4 (Tr.H 9 (Tr.H 10 Tr.E)) 9 (Tr.H 4 (Tr.H 10 Tr.E))))))))))), 11), ((Tr.T 11 Tr.E), 12), ((Tr.T 12 Tr.E), 13), ((Tr.H 13 Tr.E), 14)]
theorem sPush {R : HP} {sb pb W H : Nat} {r : Q4} {L : List Nd} {g : Nd} {F : Nat → Nat → Int × Int} (hW : 1 ≤ W ∧ W ≤ 1024) (hH : 1 ≤ H ∧ H ≤ 1024) (hg : g.ok W H) (hL : L.length ≤ 100000000) (hp : ∀ w, Sat R w → Sat (pyrH pb W H F) w) :
    FnR Try.prog R 106 [.pointer (some ⟨sb, 0, none⟩), .int .i64 g.k, cellV g.x g.y] [srchH sb pb W H r L] fun v hs => v = .tuple #[] ∧ hs = [srchH sb pb W H r (if meetsB (spanQ W H g) r then L ++ [g] else L)] := by
  refine FnR.unbox fun ⟨A, c⟩ => ?_
  have hsz : SizeOk (W : Int) (H : Int) := ⟨by omega, by omega, by omega, by omega⟩
  have hspan : ∀ R', PureR Try.prog R' 145 [.int .i64 W, .int .i64 H, .int .i64 g.k, cellV g.x g.y] (.tuple #[(spanQ W H g).v, .int .i64 0]) := fun R' => sTSpan W H g.k g.x g.y hsz hg.1 hg.2.1 hg.2.2 R'
  have hnd : ndL W H g = [.int .i64 (g.k : Int), .int .i64 (g.x : Int), .int .i64 (g.y : Int), .int .i64 (spanQ W H g).x0, .int .i64 (spanQ W H g).y0, .int .i64 (spanQ W H g).x1, .int .i64 (spanQ W H g).y1] := rfl
  have happ := ncel_append W H L [g]
  have hone := ncel_one W H [g]
  have hsing : ncel W H [g] = ndL W H g := by simp [ncel]
  rw [hsing] at happ hone
  have hk1023 : (g.k : Int) ≤ 11 := by have := levN_le hsz; have := hg.1; omega
  have hshut : ∀ {R : HP} (L' : List Nd) A c h, sepL [sHd sb pb r A L'.length c, sRw W H A L'.length c L'] R h → sepL [srchH sb pb W H r L'] R h := fun L' A c h s => boxH_shut (A, c) s
  refine fn_of_run0 false Try.func106 rfl hmix rfl fun w0 => ?_
  conv => whnf
  refine ⟨trivial, LoadAt.cell (.pointer (some ⟨pb, 0, none⟩)) rfl rfl (fun w hw => blk_at (hw.in_ 0 rfl) rfl) ?_⟩
  conv => whnf
  refine ⟨trivial, CallAt.pure (fun R' hR' => sPSize hW.1 hH.1 (fun w s => hp w (hR' w s).rest)) ?_⟩
  conv => whnf
  refine ⟨trivial, CallAt.pure (fun R' hR' => hspan R') ?_⟩
  conv => whnf
  generalize hQ : spanQ W H g = q at *
  rw [hnd] at happ hone
  refine ⟨trivial, RegAt.joins [((Tr.T 0 (Tr.T 1 (Tr.T 2 (Tr.T 3 (Tr.T 4 (Tr.C 5 (Tr.T 6 (Tr.T 7 (Tr.T 8 (Tr.H 9 (Tr.H 10 Tr.E))))) 9 (Tr.H 5 (Tr.T 6 (Tr.T 7 (Tr.T 8 (Tr.H 10 Tr.E))))))))))), 11), ((Tr.T 11 Tr.E), 12)] [0, 1, 5, 8] [(11, .v (.bool (decide (meetsB q r))))] [(1, 25, [.v (.int .i64 q.x0), .v (.int .i64 q.y0), .v (.int .i64 q.x1), .v (.int .i64 q.y1)]), (0, 35, [.v (.int .i64 (g.x : Int)), .v (.int .i64 (g.y : Int))])] 2 [sHd sb pb r A L.length c, sRw W H A L.length c L] hmix (by kernel_rfl) ?_ ?_⟩
  · conv => whnf
    refine ⟨trivial, LoadAt.agg [.int .i64 r.x0, .int .i64 r.y0, .int .i64 r.x1, .int .i64 r.y1] rfl rfl rfl (fun w hw j v hj => ?_) ?_⟩
    · have s := hw.in_ 0 rfl
      rcases j with _ | _ | _ | _ | j
      · simp at hj; rw [← hj]; exact blk_at s rfl
      · simp at hj; rw [← hj]; exact blk_at s rfl
      · simp at hj; rw [← hj]; exact blk_at s rfl
      · simp at hj; rw [← hj]; exact blk_at s rfl
      · simp at hj
    conv => whnf
    refine ⟨?_, ?_⟩
    · refine ⟨trivial, CallAt.pure (fun R' hR' => pMeet q r R') ?_⟩
      conv => whnf
      refine ⟨trivial, ⟨⟨rfl, rfl⟩, fun h s => sub_same s⟩, ?_⟩
      conv => whnf
      refine ⟨trivial, ⟨⟨rfl, rfl⟩, fun h s => sub_same s⟩, ?_⟩
      conv => whnf
      refine ⟨trivial, ⟨⟨rfl, rfl⟩, fun h s => sub_same s⟩, ?_⟩
      conv => whnf
      refine ⟨trivial, Le.of (Nat.le_of_ble_eq_true rfl) (Nat.zero_le _) ⟨⟨rfl, rfl⟩, ⟨rfl, rfl⟩, ⟨rfl, rfl⟩, ⟨rfl, rfl⟩, ⟨rfl, rfl⟩, trivial⟩ ⟨⟨rfl, rfl, rfl, rfl⟩, ⟨rfl, rfl, rfl, rfl⟩, trivial⟩ fun h s => sub_same s⟩
    · refine ⟨trivial, ⟨⟨rfl, rfl⟩, fun h s => sub_same s⟩, ?_⟩
      conv => whnf
      refine ⟨trivial, CallAt.pure (fun R' hR' => pMeet q r R') ?_⟩
      conv => whnf
      refine ⟨trivial, ⟨⟨rfl, rfl⟩, fun h s => sub_same s⟩, ?_⟩
      conv => whnf
      refine ⟨trivial, ⟨⟨rfl, rfl⟩, fun h s => sub_same s⟩, ?_⟩
      conv => whnf
      refine ⟨trivial, Le.of (Nat.le_of_ble_eq_true rfl) (Nat.zero_le _) ⟨⟨rfl, rfl⟩, ⟨rfl, rfl⟩, ⟨rfl, rfl⟩, ⟨rfl, rfl⟩, ⟨rfl, rfl⟩, trivial⟩ ⟨⟨rfl, rfl, rfl, rfl⟩, ⟨rfl, rfl, rfl, rfl⟩, trivial⟩ fun h s => sub_same s⟩
  · by_cases hm : meetsB q r
    · rw [decide_eq_true hm, if_pos hm]
      conv => whnf
      refine iff_t rfl ?_
      conv => whnf
      refine ⟨trivial, RegAt.joins0 trPush5 [] [] [] 0 [srchH sb pb W H r (L ++ [g])] hmix (by kernel_rfl) ?_ ?_⟩
      · conv => whnf
        refine ⟨?_, ?_⟩
        · refine ⟨trivial, LoadAt.cell (.slice A L.length c) rfl rfl (fun w hw => blk_at (hw.in_ 0 rfl) rfl) ?_⟩
          conv => whnf
          refine ⟨trivial, ⟨⟨rfl, rfl⟩, fun h s => sub_nil s⟩, ?_⟩
          conv => whnf
          refine ⟨trivial, OpAt.lit [.agg #[.int .i64 (g.k : Int), .int .i64 (g.x : Int), .int .i64 (g.y : Int), .int .i64 q.x0, .int .i64 q.y0, .int .i64 q.x1, .int .i64 q.y1]] 7 rfl rfl rfl rfl rfl (by decide) rfl rfl rfl (by simp [Value.cells]) rfl (by decide) fun g3 => ?_⟩
          conv => whnf
          refine ⟨trivial, ⟨⟨rfl, rfl⟩, fun h s => sub_nil s⟩, ?_⟩
          conv => whnf
          refine ⟨trivial, OpAt.append (.slice A L.length c) L.length 7 56 (ncel W H L) [.int .i64 (g.k : Int), .int .i64 (g.x : Int), .int .i64 (g.y : Int), .int .i64 q.x0, .int .i64 q.y0, .int .i64 q.x1, .int .i64 q.y1] (some ⟨g3, 0, none⟩) 1 1 _ rfl (fun h s => sepL_pull 2 s) rfl rfl rfl rfl rfl rfl rfl rfl rfl (by decide) (fun w hw => rowH_reads rfl (Sat.left hw)) hone (by simp only [maxLen]; omega) (by omega) fun A' c' => ?_⟩
          conv => whnf
          refine ⟨trivial, ⟨⟨rfl, rfl⟩, fun h s => sub_nil s⟩, ?_⟩
          conv => whnf
          refine ⟨trivial, OpAt.store sb 5 (.slice A' (L.length + 1) c') _ rfl (fun h s => sepL_pull 2 s) rfl rfl rfl rfl rfl (by simp [Value.cells, Value.oneCell']) (fun h r => blk_put (by show 5 + 1 ≤ 6; omega) r) ?_⟩
          conv => whnf
          refine ⟨trivial, trivial, Le.of (Nat.le_of_ble_eq_true rfl) (Nat.zero_le _) trivial trivial fun h s => ?_⟩
          have s2 : sepL [sHd sb pb r A' (L.length + 1) c', rowH (.slice A' (L.length + 1) c') (L.length + 1) 114 7 (ncel W H L ++ [.int .i64 (g.k : Int), .int .i64 (g.x : Int), .int .i64 (g.y : Int), .int .i64 q.x0, .int .i64 q.y0, .int .i64 q.x1, .int .i64 q.y1]), _] R h := s
          obtain ⟨h', e, s'⟩ := sub_tail (sepL_pull 2 s2)
          refine ⟨h', e, ?_⟩
          have hl : (L ++ [g]).length = L.length + 1 := by simp
          refine boxH_shut (A', c') ?_
          show sepL [sHd sb pb r A' (L ++ [g]).length c', rowH (.slice A' (L ++ [g]).length c') (L ++ [g]).length 114 7 (ncel W H (L ++ [g]))] R h'
          rw [hl, happ]
          exact s'
        · refine ⟨trivial, OpAt.lit [.agg #[.int .i64 (g.k : Int), .int .i64 (g.x : Int), .int .i64 (g.y : Int), .int .i64 q.x0, .int .i64 q.y0, .int .i64 q.x1, .int .i64 q.y1]] 7 rfl rfl rfl rfl rfl (by decide) rfl rfl rfl (by simp [Value.cells]) rfl (by decide) fun g3 => ?_⟩
          conv => whnf
          refine ⟨trivial, ⟨⟨rfl, rfl⟩, fun h s => sub_nil s⟩, ?_⟩
          conv => whnf
          refine ⟨trivial, LoadAt.cell (.slice A L.length c) rfl rfl (fun w hw => blk_at (hw.in_ 1 rfl) rfl) ?_⟩
          conv => whnf
          refine ⟨trivial, ⟨⟨rfl, rfl⟩, fun h s => sub_nil s⟩, ?_⟩
          conv => whnf
          refine ⟨trivial, OpAt.append (.slice A L.length c) L.length 7 56 (ncel W H L) [.int .i64 (g.k : Int), .int .i64 (g.x : Int), .int .i64 (g.y : Int), .int .i64 q.x0, .int .i64 q.y0, .int .i64 q.x1, .int .i64 q.y1] (some ⟨g3, 0, none⟩) 1 1 _ rfl (fun h s => sepL_pull 2 s) rfl rfl rfl rfl rfl rfl rfl rfl rfl (by decide) (fun w hw => rowH_reads rfl (Sat.left hw)) hone (by simp only [maxLen]; omega) (by omega) fun A' c' => ?_⟩
          conv => whnf
          refine ⟨trivial, ⟨⟨rfl, rfl⟩, fun h s => sub_nil s⟩, ?_⟩
          conv => whnf
          refine ⟨trivial, OpAt.store sb 5 (.slice A' (L.length + 1) c') _ rfl (fun h s => sepL_pull 2 s) rfl rfl rfl rfl rfl (by simp [Value.cells, Value.oneCell']) (fun h r => blk_put (by show 5 + 1 ≤ 6; omega) r) ?_⟩
          conv => whnf
          refine ⟨trivial, trivial, Le.of (Nat.le_of_ble_eq_true rfl) (Nat.zero_le _) trivial trivial fun h s => ?_⟩
          have s2 : sepL [sHd sb pb r A' (L.length + 1) c', rowH (.slice A' (L.length + 1) c') (L.length + 1) 114 7 (ncel W H L ++ [.int .i64 (g.k : Int), .int .i64 (g.x : Int), .int .i64 (g.y : Int), .int .i64 q.x0, .int .i64 q.y0, .int .i64 q.x1, .int .i64 q.y1]), _] R h := s
          obtain ⟨h', e, s'⟩ := sub_tail (sepL_pull 2 s2)
          refine ⟨h', e, ?_⟩
          have hl : (L ++ [g]).length = L.length + 1 := by simp
          refine boxH_shut (A', c') ?_
          show sepL [sHd sb pb r A' (L ++ [g]).length c', rowH (.slice A' (L ++ [g]).length c') (L ++ [g]).length 114 7 (ncel W H (L ++ [g]))] R h'
          rw [hl, happ]
          exact s'
      · conv => whnf
        exact ⟨trivial, .mk _ (fun w s => s) ⟨rfl, rfl⟩⟩
    · rw [decide_eq_false hm, if_neg hm]
      conv => whnf
      refine iff_f rfl ?_
      conv => whnf
      exact ⟨trivial, .mk [srchH sb pb W H r L] (fun w ⟨h, hs, s⟩ => ⟨h, hs, hshut L A c h s⟩) ⟨rfl, rfl⟩⟩
end Go.Proofs.Ytlplbgbnojibmaa

/-
  tier.Kids; probe's search: next, kids.
-/
namespace Go.Proofs.Ytlplbgbnojibmaa
open Go.RowKit
open Sy
set_option linter.unusedVariables false
set_option linter.unusedSimpArgs false
set_option maxRecDepth 100000
set_option maxHeartbeats 4000000

def ccel (l : List (Nat × Nat)) : List Value := l.flatMap fun p => [.int .i64 (p.1 : Int), .int .i64 (p.2 : Int)]
theorem ccel_len (l : List (Nat × Nat)) : (ccel l).length = l.length * 2 := by
  induction l with
  | nil => rfl
  | cons f l ih =>
    have e : ccel (f :: l) = .int .i64 (f.1 : Int) :: .int .i64 (f.2 : Int) :: ccel l := rfl
    rw [e]; simp [ih]; omega
theorem ccel_append (a b : List (Nat × Nat)) : ccel (a ++ b) = ccel a ++ ccel b := by simp [ccel]
theorem ccel_one (l : List (Nat × Nat)) : ∀ u ∈ ccel l, u.oneCell' = true := by
  intro u hu
  unfold ccel at hu
  obtain ⟨f, _, hf⟩ := List.mem_flatMap.1 hu
  simp at hf
  rcases hf with e | e <;> subst e <;> rfl
theorem ccel_at : ∀ {l : List (Nat × Nat)} {i : Nat} (h : i < l.length), (ccel l)[i * 2]? = some (.int .i64 (l[i].1 : Int)) ∧ (ccel l)[i * 2 + 1]? = some (.int .i64 (l[i].2 : Int))
  | f :: l, 0, _ => ⟨rfl, rfl⟩
  | f :: l, i + 1, h => by
    have := ccel_at (l := l) (i := i) (by simpa using h)
    have e : ccel (f :: l) = .int .i64 (f.1 : Int) :: .int .i64 (f.2 : Int) :: ccel l := rfl
    rw [e, show (i + 1) * 2 = i * 2 + 2 by omega]
    simpa using this
abbrev cRow (A : Option Addr) (n c : Nat) (l : List (Nat × Nat)) : HP := rowH (.slice A n c) n 35 2 (ccel l)
def kRow (x yy i : Nat) : List (Nat × Nat) := (List.range i).map fun a => (2 * x + a, yy)
def kRows (nx x y j : Nat) : List (Nat × Nat) := (List.range j).flatMap fun b => kRow x (2 * y + b) nx
theorem kRow_succ (x yy i : Nat) : kRow x yy (i + 1) = kRow x yy i ++ [(2 * x + i, yy)] := by simp [kRow, List.range_succ]
theorem kRows_succ (nx x y j : Nat) : kRows nx x y (j + 1) = kRows nx x y j ++ kRow x (2 * y + j) nx := by simp [kRows, List.range_succ]
theorem kRow_len (x yy i : Nat) : (kRow x yy i).length = i := by simp [kRow]
theorem kRows_len (nx x y j : Nat) : (kRows nx x y j).length = j * nx := by
  induction j with
  | zero => simp [kRows]
  | succ j ih => rw [kRows_succ, List.length_append, ih, kRow_len, Nat.add_mul, Nat.one_mul]
def kidW (lw x : Nat) : Nat := min (2 * x + 2) lw - 2 * x
def kidL (W H m x y : Nat) : List (Nat × Nat) := kRows (kidW (halfN W m) x) x y (kidW (halfN H m) y)
theorem sTKids {W H m x y : Nat} (hs : SizeOk (W : Int) (H : Int)) (hk : m + 1 < levN W H) (hx : x < halfN W (m + 1)) (hy : y < halfN H (m + 1)) (R : HP) :
    FnR Try.prog R 108 [.int .i64 W, .int .i64 H, .int .i64 ((m + 1 : Nat) : Int), cellV x y] [] fun r hs => ∃ A c, r = .tuple #[.slice A (kidL W H m x y).length c, .int .i64 0] ∧ hs = [cRow A (kidL W H m x y).length c (kidL W H m x y)] := by
  have hs2 := hs
  unfold SizeOk at hs2
  have h1 := half_le (W := W) (k := m + 1) (by omega)
  have h2 := half_le (W := H) (k := m + 1) (by omega)
  have h3 := half_le (W := W) (k := m) (by omega)
  have h4 := half_le (W := H) (k := m) (by omega)
  have hl := levN_le hs
  have hsz := fun R' => sTSize W H m hs (by omega) R'
  have hck := fun R' => sTCheck W H (m + 1) x y hs hk hx hy R'
  have hm1 : ((m + 1 : Nat) : Int) - 1 = (m : Int) := by omega
  have hnx : kidW (halfN W m) x ≤ 2 := by unfold kidW; omega
  have hny : kidW (halfN H m) y ≤ 2 := by unfold kidW; omega
  have ex : min (2 * (x : Int) + 2) ((halfN W m : Nat) : Int) = min ((2 * x + 2 : Nat) : Int) ((halfN W m : Nat) : Int) := by simp
  have dx : kidW (halfN W m) x = min (2 * x + 2) (halfN W m) - 2 * x := rfl
  have dy : kidW (halfN H m) y = min (2 * y + 2) (halfN H m) - 2 * y := rfl
  unfold kidL
  generalize kidW (halfN W m) x = nx at *
  generalize kidW (halfN H m) y = ny at *
  generalize halfN W m = lw at *
  generalize halfN H m = lh at *
  refine fn_of_run0 false Try.func108 rfl hmix rfl fun w0 => ?_
  conv => whnf
  rw [hm1]
  refine ⟨(by (repeat' apply And.intro) <;> first | exact True.intro | (unfold rng; omega) | omega), CallAt.pure (fun R' hR' => hsz R') ?_⟩
  conv => whnf
  refine ⟨fun h => absurd (of_decide_eq_true h) (by omega), fun _ => ?_⟩
  conv => whnf
  repeat (first | (refine ⟨fun _ => ?_, fun h => absurd h (by decide)⟩; conv => whnf) | (refine ⟨fun h => absurd h (by decide), fun _ => ?_⟩; conv => whnf))
  refine ⟨trivial, CallAt.pure (fun R' hR' => hck R') ?_⟩
  conv => whnf
  refine iff_f (by decide) ?_
  conv => whnf
  refine ⟨(by (repeat' apply And.intro) <;> first | exact True.intro | (unfold rng; omega) | omega), LoopAt.of (α := Nat × Option Addr × Nat) [7, 10, 11] (fun a => [(13, .v (.slice a.2.1 (kRows nx x y a.1).length a.2.2)), (14, .v (.int .i64 ((2 * y + a.1 : Nat) : Int)))]) (fun a => [(0, 35, [.v (.int .i64 (x : Int)), .v (.int .i64 (y : Int))])])
    (fun a => [cRow a.2.1 (kRows nx x y a.1).length a.2.2 (kRows nx x y a.1)]) (fun a => a.1 ≤ ny) (fun a => ny - a.1) (0, none, 0) (Nat.zero_le _)
    (Le.of (Nat.le_of_ble_eq_true rfl) (Nat.zero_le _) ⟨⟨rfl, rfl⟩, ⟨?_, rfl⟩, ⟨rfl, rfl⟩, ⟨rfl, rfl⟩, ⟨rfl, rfl⟩, trivial⟩ ⟨⟨rfl, rfl, rfl, rfl⟩, trivial⟩ fun h s => sub_same (row_nil _ _ s)) ?_⟩
  · show some _ = some _
    congr 3
  rintro ⟨j, A, c⟩ hj
  simp only at hj
  conv => whnf
  refine ⟨fun h => ?_, fun h => ?_⟩
  · have hj2 : j < ny := by simp at h; omega
    conv => whnf
    refine ⟨(by (repeat' apply And.intro) <;> first | exact True.intro | (unfold rng; omega) | omega), LoopAt.of (α := Nat × Option Addr × Nat) [7, 10, 11, 14] (fun a => [(13, .v (.slice a.2.1 (kRows nx x y j ++ kRow x (2 * y + j) a.1).length a.2.2)), (15, .v (.int .i64 ((2 * x + a.1 : Nat) : Int)))]) (fun a => [(0, 35, [.v (.int .i64 (x : Int)), .v (.int .i64 (y : Int))])])
      (fun a => [cRow a.2.1 (kRows nx x y j ++ kRow x (2 * y + j) a.1).length a.2.2 (kRows nx x y j ++ kRow x (2 * y + j) a.1)]) (fun a => a.1 ≤ nx) (fun a => nx - a.1) (0, A, c) (Nat.zero_le _)
      (Le.of (Nat.le_of_ble_eq_true rfl) (Nat.zero_le _) ⟨⟨?_, rfl⟩, ⟨?_, rfl⟩, ⟨rfl, rfl⟩, ⟨rfl, rfl⟩, ⟨rfl, rfl⟩, ⟨rfl, rfl⟩, trivial⟩ ⟨⟨rfl, rfl, rfl, rfl⟩, trivial⟩ fun h s => sub_same ?_) ?_⟩
    · show some _ = some _
      have : kRows nx x y j ++ kRow x (2 * y + j) 0 = kRows nx x y j := by simp [kRow]
      simp only [this]
    · show some _ = some _
      congr 3
    · have : kRows nx x y j ++ kRow x (2 * y + j) 0 = kRows nx x y j := by simp [kRow]
      simp only [this]
      exact s
    rintro ⟨i, A, c⟩ hi
    simp only at hi
    have hlen := kRows_len nx x y j
    have hle : j * nx ≤ 2 * 2 := Nat.mul_le_mul (by omega) hnx
    conv => whnf
    refine ⟨fun h => ?_, fun h => ?_⟩
    · have hi2 : i < nx := by simp at h; omega
      have hsucc : kRows nx x y j ++ kRow x (2 * y + j) (i + 1) = (kRows nx x y j ++ kRow x (2 * y + j) i) ++ [(2 * x + i, 2 * y + j)] := by rw [kRow_succ, List.append_assoc]
      have hln : (kRows nx x y j ++ kRow x (2 * y + j) i).length ≤ 6 := by rw [List.length_append, hlen, kRow_len]; omega
      generalize kRows nx x y j ++ kRow x (2 * y + j) i = P at *
      generalize hP' : kRows nx x y j ++ kRow x (2 * y + j) (i + 1) = P' at *
      conv => whnf
      refine ⟨(by (repeat' apply And.intro) <;> first | exact True.intro | (unfold rng; omega) | omega), OpAt.lit [cellV ((2 * x + i : Nat) : Int) ((2 * y + j : Nat) : Int)] 2 rfl rfl rfl rfl rfl (by decide) rfl rfl rfl (by simp [Value.cells]) rfl (by decide) fun g3 => ?_⟩
      conv => whnf
      refine ⟨trivial, OpAt.append (.slice A P.length c) P.length 2 16 (ccel P) (ccel [(2 * x + i, 2 * y + j)]) (some ⟨g3, 0, none⟩) 1 1 _ rfl (fun h s => sepL_pull 1 s) rfl rfl rfl rfl rfl rfl rfl rfl rfl (by decide) (fun w hw => rowH_reads rfl (Sat.left hw)) (ccel_one _) (by simp only [maxLen]; omega) (by omega) fun A' c' => ?_⟩
      conv => whnf
      refine ⟨⟨trivial, by unfold rng; omega⟩, .mk (i + 1, A', c') hi2 (by simp only; omega) (Le.of (Nat.le_of_ble_eq_true rfl) (Nat.zero_le _) ⟨⟨?_, rfl⟩, ⟨?_, rfl⟩, ⟨rfl, rfl⟩, ⟨rfl, rfl⟩, ⟨rfl, rfl⟩, ⟨rfl, rfl⟩, trivial⟩ ⟨⟨rfl, rfl, rfl, rfl⟩, trivial⟩ fun h s => ?_)⟩
      · show _ = some (SV.v (.slice A' (kRows nx x y j ++ kRow x (2 * y + j) (i + 1)).length c'))
        rw [hP', hsucc, List.length_append]; rfl
      · show some _ = some _
        congr 3
      · obtain ⟨h', e1, s'⟩ := sub_drop1 s
        refine ⟨h', e1, ?_⟩
        show sepL [cRow A' (kRows nx x y j ++ kRow x (2 * y + j) (i + 1)).length c' (kRows nx x y j ++ kRow x (2 * y + j) (i + 1))] _ h'
        rw [hP', hsucc, List.length_append]
        unfold cRow
        rw [ccel_append]
        exact s'
    · have hi2 : i = nx := by simp at h; omega
      subst hi2
      conv => whnf
      refine ⟨(by (repeat' apply And.intro) <;> first | exact True.intro | (unfold rng; omega) | omega), .mk (j + 1, A, c) hj2 (by simp only; omega) (Le.of (Nat.le_of_ble_eq_true rfl) (Nat.zero_le _) ⟨⟨?_, rfl⟩, ⟨?_, rfl⟩, ⟨rfl, rfl⟩, ⟨rfl, rfl⟩, ⟨rfl, rfl⟩, trivial⟩ ⟨⟨rfl, rfl, rfl, rfl⟩, trivial⟩ fun h s => ?_)⟩
      · show _ = some (SV.v (.slice A (kRows i x y (j + 1)).length c))
        rw [kRows_succ]; rfl
      · show some _ = some _
        congr 3
      · show ∃ h', _ ∧ sepL [cRow A (kRows i x y (j + 1)).length c (kRows i x y (j + 1))] _ h'
        rw [kRows_succ]
        exact sub_same s
  · have hj2 : j = ny := by simp at h; omega
    subst hj2
    conv => whnf
    exact ⟨(by (repeat' apply And.intro) <;> first | exact True.intro | (unfold rng; omega) | omega), .mk _ (fun w s => s) ⟨A, c, rfl, rfl⟩⟩
end Go.Proofs.Ytlplbgbnojibmaa

/-
  probe's search: next.
-/
namespace Go.Proofs.Ytlplbgbnojibmaa
open Go.RowKit
open Sy
set_option linter.unusedVariables false
set_option linter.unusedSimpArgs false
set_option maxRecDepth 100000
set_option maxHeartbeats 4000000

theorem row_cap {A : Option Addr} {n c size : Nat} {e : TypeId} {xs : List Value} {w : World} (s : Sat (rowH (.slice A n c) n e size xs) w) : n ≤ c := by
  obtain ⟨h, _, _, r⟩ := s
  rcases r with ⟨e1, e2, e3⟩ | ⟨g, cap, cur, e1, e2, e3, e4, e5, e6⟩
  · simp only [Value.slice.injEq] at e1
    omega
  · simp only [Value.slice.injEq] at e1
    omega
theorem sNextNo {R : HP} {sb pb W H : Nat} {r : Q4} :
    FnR Try.prog R 61 [.pointer (some ⟨sb, 0, none⟩)] [srchH sb pb W H r []] fun v hs => v = .tuple #[.agg #[.int .i64 0, .int .i64 0, .int .i64 0, .int .i64 0, .int .i64 0, .int .i64 0, .int .i64 0], rngV 0 0, .bool false] ∧ hs = [srchH sb pb W H r []] := by
  refine FnR.unbox fun ⟨A, c⟩ => ?_
  refine fn_of_run0 false Try.func61 rfl hmix rfl fun w0 => ?_
  conv => whnf
  refine ⟨trivial, LoadAt.cell (.slice A 0 c) rfl rfl (fun w hw => blk_at (hw.in_ 0 rfl) rfl) ?_⟩
  conv => whnf
  refine iff_t rfl ?_
  conv => whnf
  exact ⟨trivial, .mk [srchH sb pb W H r []] (fun w ⟨h, hs, s⟩ => ⟨h, hs, boxH_shut (A, c) s⟩) ⟨rfl, rfl⟩⟩
theorem sNext {R : HP} {sb pb W H : Nat} {r : Q4} {L : List Nd} {g : Nd} {F : Nat → Nat → Int × Int} (hW : 1 ≤ W ∧ W ≤ 1024) (hH : 1 ≤ H ∧ H ≤ 1024) (hg : g.ok W H) (hL : L.length ≤ 100000000) (hp : ∀ w, Sat R w → Sat (pyrH pb W H F) w) :
    FnR Try.prog R 61 [.pointer (some ⟨sb, 0, none⟩)] [srchH sb pb W H r (L ++ [g])] fun v hs => v = .tuple #[ndV W H g, rngV (F g.k (g.y * halfN W g.k + g.x)).1 (F g.k (g.y * halfN W g.k + g.x)).2, .bool true] ∧ hs = [srchH sb pb W H r L] := by
  refine FnR.unbox fun ⟨A, c⟩ => ?_
  have hl : (L ++ [g]).length = L.length + 1 := by simp
  show FnR Try.prog R _ _ [sHd sb pb r A (L ++ [g]).length c, sRw W H A (L ++ [g]).length c (L ++ [g])] _
  rw [hl]
  refine FnR.of_sat fun w hs => ?_
  rcases rowH_at (hs.in_ 1 rfl) (by omega) with ⟨a, rfl, -⟩
  have hcap := row_cap (hs.in_ 1 rfl)
  clear hs w
  have hlast := fun j u => @ncel_last W H L g j u
  have hat := fun (R' : HP) (hR' : ∀ w, Sat R' w → Sat (pyrH pb W H F) w) => sPAt (R := R') (pb := pb) (k := g.k) (x := (g.x : Int)) (y := (g.y : Int)) hW hH hR' hg.1 (v := F g.k (g.y * halfN W g.k + g.x)) (e := 0) (.inl ⟨g.x, g.y, rfl, rfl, hg.2.1, hg.2.2, rfl, rfl⟩)
  have htake : (ncel W H (L ++ [g])).take (L.length * 7) = ncel W H L := by rw [ncel_append, List.take_append_of_le_length (by rw [ncel_len]; omega), List.take_of_length_le (by rw [ncel_len]; omega)]
  have hnd : ndL W H g = [.int .i64 (g.k : Int), .int .i64 (g.x : Int), .int .i64 (g.y : Int), .int .i64 (spanQ W H g).x0, .int .i64 (spanQ W H g).y0, .int .i64 (spanQ W H g).x1, .int .i64 (spanQ W H g).y1] := rfl
  have hshut : ∀ {R : HP} A c h, sepL [sHd sb pb r A L.length c, sRw W H A L.length c L] R h → sepL [srchH sb pb W H r L] R h := fun A c h s => boxH_shut (A, c) s
  have hndv : Value.tuple #[.agg #[.int .i64 (g.k : Int), .int .i64 (g.x : Int), .int .i64 (g.y : Int), .int .i64 (spanQ W H g).x0, .int .i64 (spanQ W H g).y0, .int .i64 (spanQ W H g).x1, .int .i64 (spanQ W H g).y1], rngV (F g.k (g.y * halfN W g.k + g.x)).1 (F g.k (g.y * halfN W g.k + g.x)).2, .bool true] = Value.tuple #[ndV W H g, rngV (F g.k (g.y * halfN W g.k + g.x)).1 (F g.k (g.y * halfN W g.k + g.x)).2, .bool true] := rfl
  have hshut' : ∀ {R : HP} A c h, sepL [sHd sb pb r A L.length c, sRw W H A (L.length + 1) c (L ++ [g])] R h → sepL [srchH sb pb W H r L] R h := fun A c h s => hshut A c h (by
    obtain ⟨h1, h2, d, e, s1, h3, h4, d2, e2, s3, s4⟩ := s
    have s5 := row_shrink (m := L.length) (by omega) s3
    rw [htake] at s5
    exact ⟨h1, h2, d, e, s1, h3, h4, d2, e2, s5, s4⟩)
  generalize F g.k (g.y * halfN W g.k + g.x) = v at *
  generalize spanQ W H g = q at *
  rw [hnd] at hlast
  generalize L.length = n at *
  generalize ncel W H L = XS at *
  have e1 : (((n + 1 : Nat) : Int) - 1).toNat = n := by omega
  refine fn_of_run0 false Try.func61 rfl hmix rfl fun w0 => ?_
  conv => whnf
  refine ⟨trivial, LoadAt.cell (.slice (some ⟨a, 0, none⟩) (n + 1) c) rfl rfl (fun w hw => blk_at (hw.in_ 0 rfl) rfl) ?_⟩
  conv => whnf
  refine iff_f (by simp; omega) ?_
  conv => whnf
  refine ⟨trivial, RegAt.trees [((Tr.T 0 (Tr.T 1 (Tr.T 2 (Tr.T 3 (Tr.T 4 (Tr.T 5 (Tr.T 6 (Tr.T 7 (Tr.T 8 (Tr.T 9 (Tr.T 10 (Tr.T 11 (Tr.H 12 Tr.E))))))))))))), 13), ((Tr.H 13 Tr.E), 14)] hmix (by kernel_rfl) ?_⟩
  conv => whnf
  refine ⟨trivial, LoadAt.cell (.slice (some ⟨a, 0, none⟩) (n + 1) c) rfl rfl (fun w hw => blk_at (hw.in_ 0 rfl) rfl) ?_⟩
  conv => whnf
  refine ⟨trivial, LoadAt.cell (.slice (some ⟨a, 0, none⟩) (n + 1) c) rfl rfl (fun w hw => blk_at (hw.in_ 0 rfl) rfl) ?_⟩
  conv => whnf
  refine ⟨(by (repeat' apply And.intro) <;> first | exact True.intro | (unfold rng; omega) | omega), LoadAt.agg [.int .i64 (g.k : Int), .int .i64 (g.x : Int), .int .i64 (g.y : Int), .int .i64 q.x0, .int .i64 q.y0, .int .i64 q.x1, .int .i64 q.y1] rfl rfl rfl (fun w hw j v hj => ?_) ?_⟩
  · rw [e1, Nat.zero_add]
    exact row_at (hw.in_ 1 rfl) (by omega) (hlast j v hj)
  conv => whnf
  refine ⟨trivial, ⟨⟨rfl, rfl⟩, fun h s => sub_same s⟩, ?_⟩
  conv => whnf
  refine ⟨trivial, ?_⟩
  conv => whnf
  refine ⟨trivial, ?_⟩
  conv => whnf
  refine ⟨trivial, RegAt.trees [((Tr.T 0 (Tr.T 1 (Tr.T 2 (Tr.T 3 (Tr.T 4 (Tr.T 5 (Tr.T 6 (Tr.T 7 (Tr.T 8 (Tr.T 9 (Tr.T 10 (Tr.T 11 Tr.E)))))))))))), 12), ((Tr.T 12 Tr.E), 13), ((Tr.T 13 Tr.E), 14), ((Tr.H 14 Tr.E), 15)] hmix (by kernel_rfl) ?_⟩
  conv => whnf
  refine ⟨trivial, LoadAt.cell (.slice (some ⟨a, 0, none⟩) (n + 1) c) rfl rfl (fun w hw => blk_at (hw.in_ 0 rfl) rfl) ?_⟩
  conv => whnf
  refine ⟨trivial, LoadAt.cell (.slice (some ⟨a, 0, none⟩) (n + 1) c) rfl rfl (fun w hw => blk_at (hw.in_ 0 rfl) rfl) ?_⟩
  conv => whnf
  refine ⟨⟨⟨trivial, by unfold rng; omega⟩, by omega, by omega⟩, OpAt.store sb 5 (.slice (some ⟨a, 0, none⟩) (((n + 1 : Nat) : Int) - 1).toNat c) _ rfl (fun h s => s) rfl rfl rfl rfl rfl (by simp [Value.cells, Value.oneCell']) (fun h r => blk_put (by show 5 + 1 ≤ 6; omega) r) ?_⟩
  conv => whnf
  refine ⟨trivial, ?_⟩
  rw [e1]
  conv => whnf
  refine ⟨trivial, ?_⟩
  conv => whnf
  refine ⟨trivial, RegAt.joins [((Tr.T 0 (Tr.T 1 (Tr.T 2 (Tr.T 3 (Tr.T 4 (Tr.T 5 (Tr.T 6 (Tr.T 7 (Tr.C 8 (Tr.T 9 (Tr.T 10 (Tr.T 11 (Tr.H 12 (Tr.H 13 Tr.E))))) 12 (Tr.H 8 (Tr.T 9 (Tr.T 10 (Tr.T 11 (Tr.H 13 Tr.E)))))))))))))), 14), ((Tr.T 14 Tr.E), 15)] [0, 2, 3, 4, 5] [(6, .p 3 0)] [(3, 30, [.v (.int .i64 v.1), .v (.int .i64 v.2)]), (2, 114, [.v (.int .i64 (g.k : Int)), .v (.int .i64 (g.x : Int)), .v (.int .i64 (g.y : Int)), .v (.int .i64 q.x0), .v (.int .i64 q.y0), .v (.int .i64 q.x1), .v (.int .i64 q.y1)]), (1, 30, [.v (.int .i64 0), .v (.int .i64 0)]), (0, 114, [.v (.int .i64 0), .v (.int .i64 0), .v (.int .i64 0), .v (.int .i64 0), .v (.int .i64 0), .v (.int .i64 0), .v (.int .i64 0)])] 4 [sHd sb pb r (some ⟨a, 0, none⟩) n c, sRw W H (some ⟨a, 0, none⟩) (n + 1) c (L ++ [g])] hmix (by kernel_rfl) ?_ ?_⟩
  · conv => whnf
    refine ⟨trivial, LoadAt.cell (.pointer (some ⟨pb, 0, none⟩)) rfl rfl (fun w hw => blk_at (hw.in_ 0 rfl) rfl) ?_⟩
    conv => whnf
    refine ⟨?_, ?_⟩
    · refine ⟨trivial, CallAt.pure (fun R' hR' => hat R' (fun w s => hp w (hR' w s).rest)) ?_⟩
      conv => whnf
      refine ⟨trivial, ⟨⟨rfl, rfl⟩, fun h s => sub_same s⟩, ?_⟩
      conv => whnf
      refine ⟨trivial, ⟨⟨rfl, rfl⟩, fun h s => sub_same s⟩, ?_⟩
      conv => whnf
      refine ⟨trivial, ⟨⟨rfl, rfl⟩, fun h s => sub_same s⟩, ?_⟩
      conv => whnf
      refine ⟨trivial, Le.of (Nat.le_of_ble_eq_true rfl) (Nat.zero_le _) ⟨⟨rfl, rfl⟩, ⟨rfl, rfl⟩, ⟨rfl, rfl⟩, ⟨rfl, rfl⟩, ⟨rfl, rfl⟩, ⟨rfl, rfl⟩, trivial⟩ ⟨⟨rfl, rfl, rfl, rfl⟩, ⟨rfl, rfl, rfl, rfl⟩, ⟨rfl, rfl, rfl, rfl⟩, ⟨rfl, rfl, rfl, rfl⟩, trivial⟩ fun h s => sub_same s⟩
    · refine ⟨trivial, ⟨⟨rfl, rfl⟩, fun h s => sub_same s⟩, ?_⟩
      conv => whnf
      refine ⟨trivial, CallAt.pure (fun R' hR' => hat R' (fun w s => hp w (hR' w s).rest)) ?_⟩
      conv => whnf
      refine ⟨trivial, ⟨⟨rfl, rfl⟩, fun h s => sub_same s⟩, ?_⟩
      conv => whnf
      refine ⟨trivial, ⟨⟨rfl, rfl⟩, fun h s => sub_same s⟩, ?_⟩
      conv => whnf
      refine ⟨trivial, Le.of (Nat.le_of_ble_eq_true rfl) (Nat.zero_le _) ⟨⟨rfl, rfl⟩, ⟨rfl, rfl⟩, ⟨rfl, rfl⟩, ⟨rfl, rfl⟩, ⟨rfl, rfl⟩, ⟨rfl, rfl⟩, trivial⟩ ⟨⟨rfl, rfl, rfl, rfl⟩, ⟨rfl, rfl, rfl, rfl⟩, ⟨rfl, rfl, rfl, rfl⟩, ⟨rfl, rfl, rfl, rfl⟩, trivial⟩ fun h s => sub_same s⟩
  · conv => whnf
    refine ⟨trivial, RegAt.joins [((Tr.C 0 (Tr.C 1 (Tr.H 2 Tr.E) 2 (Tr.H 1 Tr.E)) 1 (Tr.H 0 (Tr.H 2 Tr.E))), 3), ((Tr.H 3 Tr.E), 4), ((Tr.T 4 Tr.E), 5)] [2, 3] [(4, .k true)] [(1, 30, [.v (.int .i64 v.1), .v (.int .i64 v.2)]), (0, 114, [.v (.int .i64 (g.k : Int)), .v (.int .i64 (g.x : Int)), .v (.int .i64 (g.y : Int)), .v (.int .i64 q.x0), .v (.int .i64 q.y0), .v (.int .i64 q.x1), .v (.int .i64 q.y1)])] 2 [sHd sb pb r (some ⟨a, 0, none⟩) n c, sRw W H (some ⟨a, 0, none⟩) (n + 1) c (L ++ [g])] hmix (by kernel_rfl) ?_ ?_⟩
    · refine ⟨⟨trivial, ?_⟩, ?_⟩
      · refine ⟨?_, ?_⟩
        · conv => whnf
          refine ⟨trivial, ?_⟩
          conv => whnf
          repeat (refine ⟨trivial, ?_⟩; conv => whnf)
          exact Le.of (Nat.le_of_ble_eq_true rfl) (Nat.zero_le _) ⟨⟨rfl, rfl⟩, ⟨rfl, rfl⟩, ⟨rfl, rfl⟩, trivial⟩ ⟨⟨rfl, rfl, rfl, rfl⟩, ⟨rfl, rfl, rfl, rfl⟩, trivial⟩ fun h s => sub_same s
        · conv => whnf
          refine ⟨trivial, ?_⟩
          conv => whnf
          repeat (refine ⟨trivial, ?_⟩; conv => whnf)
          exact Le.of (Nat.le_of_ble_eq_true rfl) (Nat.zero_le _) ⟨⟨rfl, rfl⟩, ⟨rfl, rfl⟩, ⟨rfl, rfl⟩, trivial⟩ ⟨⟨rfl, rfl, rfl, rfl⟩, ⟨rfl, rfl, rfl, rfl⟩, trivial⟩ fun h s => sub_same s
      · conv => whnf
        refine ⟨trivial, ?_⟩
        conv => whnf
        repeat (refine ⟨trivial, ?_⟩; conv => whnf)
        exact Le.of (Nat.le_of_ble_eq_true rfl) (Nat.zero_le _) ⟨⟨rfl, rfl⟩, ⟨rfl, rfl⟩, ⟨rfl, rfl⟩, trivial⟩ ⟨⟨rfl, rfl, rfl, rfl⟩, ⟨rfl, rfl, rfl, rfl⟩, trivial⟩ fun h s => sub_same s
    · conv => whnf
      exact ⟨trivial, .mk [srchH sb pb W H r L] (fun w ⟨h, hs, s⟩ => ⟨h, hs, hshut' _ c h s⟩) ⟨hndv, rfl⟩⟩
end Go.Proofs.Ytlplbgbnojibmaa

/-
  probe's search: kids.
-/
namespace Go.Proofs.Ytlplbgbnojibmaa
open Go.RowKit
open Sy
set_option linter.unusedVariables false
set_option linter.unusedSimpArgs false
set_option maxRecDepth 100000
set_option maxHeartbeats 4000000

def pushS (W H : Nat) (r : Q4) (m : Nat) (f : Nat × Nat) (L : List Nd) : List Nd := if meetsB (spanQ W H ⟨m, f.1, f.2⟩) r then L ++ [⟨m, f.1, f.2⟩] else L
def kidF (W H : Nat) (r : Q4) (m : Nat) (l : List (Nat × Nat)) (L : List Nd) : List Nd := l.foldr (pushS W H r m) L
theorem kidF_len (W H : Nat) (r : Q4) (m : Nat) (L : List Nd) : ∀ l : List (Nat × Nat), (kidF W H r m l L).length ≤ L.length + l.length
  | [] => Nat.le_refl _
  | f :: l => by
    have := kidF_len W H r m L l
    show (pushS W H r m f (kidF W H r m l L)).length ≤ _
    unfold pushS
    split <;> simp <;> omega
theorem kidF_drop {W H : Nat} {r : Q4} {m : Nat} {L : List Nd} {l : List (Nat × Nat)} {i : Nat} (h : i < l.length) : kidF W H r m (l.drop i) L = pushS W H r m l[i] (kidF W H r m (l.drop (i + 1)) L) := by
  rw [List.drop_eq_getElem_cons h]; rfl
theorem kidL_len (W H m x y : Nat) : (kidL W H m x y).length ≤ 4 := by
  unfold kidL
  rw [kRows_len]
  have h1 : kidW (halfN W m) x ≤ 2 := by unfold kidW; omega
  have h2 : kidW (halfN H m) y ≤ 2 := by unfold kidW; omega
  have := Nat.mul_le_mul h2 h1
  omega
theorem kidL_mem {W H m x y : Nat} {f : Nat × Nat} (h : f ∈ kidL W H m x y) : f.1 < halfN W m ∧ f.2 < halfN H m := by
  unfold kidL kRows kRow at h
  rw [List.mem_flatMap] at h
  obtain ⟨b, hb, h⟩ := h
  rw [List.mem_map] at h
  obtain ⟨a, ha, rfl⟩ := h
  rw [List.mem_range] at ha hb
  unfold kidW at ha hb
  simp only
  omega
theorem FnR.also {P : Program} {R : HP} {f : FuncId} {args : List Value} {pre : List HP} {p q : Value → List HP → Prop} (h : FnR P R f args pre p) (hq : ∀ v hs w, p v hs → Sat (sepL hs R) w → q v hs) : FnR P R f args pre q := by
  intro w hs
  refine (h w hs).mono ?_
  rintro e w' ⟨v, hs', h1, h2, h3, h4⟩
  exact ⟨v, hs', h1, hq v hs' w' h2 h3, h3, h4⟩
theorem sKids {R : HP} {sb pb W H : Nat} {r : Q4} {L : List Nd} {m x y : Nat} {F : Nat → Nat → Int × Int} (hW : 1 ≤ W ∧ W ≤ 1024) (hH : 1 ≤ H ∧ H ≤ 1024) (hg : Nd.ok W H ⟨m + 1, x, y⟩) (hL : L.length + 4 ≤ 100000000) (hp : ∀ w, Sat R w → Sat (pyrH pb W H F) w) :
    FnR Try.prog R 63 [.pointer (some ⟨sb, 0, none⟩), ndV W H ⟨m + 1, x, y⟩] [srchH sb pb W H r L] fun v hs => v = .tuple #[] ∧ hs = [srchH sb pb W H r (kidF W H r m (kidL W H m x y) L)] := by
  have hsz : SizeOk (W : Int) (H : Int) := ⟨by omega, by omega, by omega, by omega⟩
  have hck := fun R' => FnR.also (q := fun v hs => ∃ A c, v = .tuple #[.slice A (kidL W H m x y).length c, .int .i64 0] ∧ hs = [cRow A (kidL W H m x y).length c (kidL W H m x y)] ∧ (0 < (kidL W H m x y).length → ∃ a, A = some ⟨a, 0, none⟩)) (sTKids (m := m) (x := x) (y := y) hsz hg.1 hg.2.1 hg.2.2 R') (by
    rintro v hs w ⟨A, c, rfl, rfl⟩ s
    exact ⟨A, c, rfl, rfl, fun hk => by
      obtain ⟨g, e, _⟩ := rowH_at (s.in_ 0 rfl) hk
      exact ⟨g, e⟩⟩)
  have h4 := kidL_len W H m x y
  have hm := fun f h => @kidL_mem W H m x y f h
  have hmk : m < levN W H := by have := hg.1; simp only at this; omega
  have hm1 : ((m + 1 : Nat) : Int) - 1 = (m : Int) := by omega
  have hkb : (m : Int) ≤ 11 := by have := levN_le hsz; omega
  generalize spanQ W H ⟨m + 1, x, y⟩ = q at *
  generalize kidL W H m x y = l at *
  have hpush : ∀ (R' : HP) (i : Nat) (h : i < l.length), (∀ w, Sat R' w → Sat (pyrH pb W H F) w) → FnR Try.prog R' 106 [.pointer (some ⟨sb, 0, none⟩), .int .i64 m, cellV (l[i].1 : Int) (l[i].2 : Int)] [srchH sb pb W H r (kidF W H r m (l.drop (i + 1)) L)] fun v hs => v = .tuple #[] ∧ hs = [srchH sb pb W H r (kidF W H r m (l.drop i) L)] := by
    intro R' i h hR'
    rw [kidF_drop h]
    have hi := hm _ (List.getElem_mem h)
    have hl := kidF_len W H r m L (l.drop (i + 1))
    rw [List.length_drop] at hl
    exact sPush (g := ⟨m, l[i].1, l[i].2⟩) hW hH ⟨hmk, hi.1, hi.2⟩ (by omega) hR'
  refine fn_of_run0 false Try.func63 rfl hmix rfl fun w0 => ?_
  conv => whnf
  refine ⟨trivial, LoadAt.cell (.pointer (some ⟨pb, 0, none⟩)) rfl rfl (fun w hw => ?_) ?_⟩
  · obtain ⟨⟨A, c⟩, s⟩ := Sat.unbox (hw.in_ 0 rfl)
    exact blk_at (s.in_ 0 rfl) rfl
  conv => whnf
  refine ⟨trivial, CallAt.pure (fun R' hR' => sPSize hW.1 hH.1 (fun w s => hp w (hR' w s).rest)) ?_⟩
  conv => whnf
  refine ⟨trivial, CallAt.fn (pre := []) _ (fun h s => s) (fun R' hR' => hck R') ?_⟩
  rintro v1 hs1 ⟨A, c, rfl, rfl, hA⟩
  conv => whnf
  refine ⟨(by (repeat' apply And.intro) <;> first | exact True.intro | (unfold rng; omega) | omega), LoopAt.heap (α := Nat) [0, 3, 6] (fun j => [(8, .v (.int .i64 ((j : Int) - 1)))]) (fun j => [cRow A l.length c l, srchH sb pb W H r (kidF W H r m (l.drop j) L)]) (fun j => j ≤ l.length) (fun j => j) l.length (Nat.le_refl _) rfl ⟨⟨rfl, rfl⟩, trivial⟩ ⟨⟨rfl, rfl⟩, ⟨rfl, rfl⟩, ⟨rfl, rfl⟩, trivial⟩ ⟨⟨rfl, rfl, rfl, rfl⟩, trivial⟩ (fun h s => sub_same ?_) ?_⟩
  · rw [List.drop_length]
    exact s
  intro j hj
  conv => whnf
  refine ⟨fun h => ?_, fun h => ?_⟩
  · have hj0 : 0 < j := by have := of_decide_eq_true h; omega
    obtain ⟨i, rfl⟩ : ∃ i, j = i + 1 := ⟨j - 1, by omega⟩
    obtain ⟨a, rfl⟩ := hA (by omega)
    have e1 : ((i + 1 : Nat) : Int) - 1 = (i : Int) := by omega
    have hi : i < l.length := by omega
    have hat := ccel_at hi
    have hin := List.getElem_mem hi
    have hb := hm _ hin
    conv => whnf
    rw [e1]
    conv => whnf
    refine ⟨trivial, RegAt.trees [((Tr.T 0 (Tr.T 1 (Tr.T 2 (Tr.T 3 (Tr.T 4 (Tr.T 5 (Tr.T 6 (Tr.T 7 Tr.E)))))))), 8), ((Tr.H 8 Tr.E), 9)] hmix (by kernel_rfl) ?_⟩
    conv => whnf
    rw [hm1]
    refine ⟨(by (repeat' apply And.intro) <;> first | exact True.intro | (unfold rng; omega) | omega), ?_⟩
    conv => whnf
    refine LoadAt.agg [.int .i64 (l[i].1 : Int), .int .i64 (l[i].2 : Int)] rfl rfl rfl (fun w hw j v hj => ?_) ?_
    · rw [Int.toNat_natCast, Nat.zero_add]
      refine row_at (hw.in_ 0 rfl) (by omega) ?_
      rcases j with _ | _ | j
      · simp at hj; rw [← hj]; exact hat.1
      · simp at hj; rw [← hj]; exact hat.2
      · simp at hj
    conv => whnf
    refine ⟨trivial, CallAt.fn (pre := [srchH sb pb W H r (kidF W H r m (l.drop (i + 1)) L)]) [cRow (some ⟨a, 0, none⟩) l.length c l] (fun h s => sepL_pull 1 s) (fun R' hR' => hpush R' i hi (fun w s => hp w (hR' w s).rest)) ?_⟩
    rintro v2 hs2 ⟨rfl, rfl⟩
    conv => whnf
    refine ⟨trivial, ?_⟩
    conv => whnf
    refine ⟨(by (repeat' apply And.intro) <;> first | exact True.intro | (unfold rng; omega) | omega), ?_⟩
    conv => whnf
    refine ⟨(by (repeat' apply And.intro) <;> first | exact True.intro | (unfold rng; omega) | omega), Next.heap i (by omega) (by omega) ⟨⟨rfl, rfl⟩, trivial⟩ ⟨⟨rfl, rfl⟩, ⟨rfl, rfl⟩, ⟨rfl, rfl⟩, trivial⟩ ⟨⟨rfl, rfl, rfl, rfl⟩, trivial⟩ rfl rfl (fun h s => sub_same (sepL_pull 1 s))⟩
  · have hj0 : j = 0 := by simp at h; omega
    subst hj0
    conv => whnf
    refine ⟨trivial, .mk [srchH sb pb W H r (kidF W H r m l L)] (fun w ⟨h, hs, s⟩ => ?_) ⟨rfl, rfl⟩⟩
    obtain ⟨h', e, s'⟩ := sub_tail s
    exact ⟨h', fun i o q => hs i o (e i o q), s'⟩
end Go.Proofs.Ytlplbgbnojibmaa

/-
  probe's begin.
-/
namespace Go.Proofs.Ytlplbgbnojibmaa
open Go.RowKit
open Sy
set_option linter.unusedVariables false
set_option linter.unusedSimpArgs false
set_option maxRecDepth 100000
set_option maxHeartbeats 4000000

theorem sBeginNil (r : Q4) (R : HP) : PureR Try.prog R 60 [.pointer none, r.v] (.tuple #[.pointer none, .int .i64 1]) := by
  refine fn_of_run0 false Try.func60 rfl hmix rfl fun w0 => ?_
  conv => whnf
  exact ⟨trivial, fin_pure rfl rfl⟩
theorem sBeginBad {R : HP} {pb W H : Nat} {r : Q4} {F : Nat → Nat → Int × Int} (hW : 1 ≤ W ∧ W ≤ 1024) (hH : 1 ≤ H ∧ H ≤ 1024) (hb : withinZ r.x0 r.y0 r.x1 r.y1 W H ≠ 0) (hp : ∀ w, Sat R w → Sat (pyrH pb W H F) w) :
    PureR Try.prog R 60 [.pointer (some ⟨pb, 0, none⟩), r.v] (.tuple #[.pointer none, .int .i64 (withinZ r.x0 r.y0 r.x1 r.y1 W H)]) := by
  have hwi := fun R' => pWithin r.x0 r.y0 r.x1 r.y1 W H (by omega) (by omega) R'
  generalize withinZ r.x0 r.y0 r.x1 r.y1 W H = z at *
  refine fn_of_run0 false Try.func60 rfl hmix rfl fun w0 => ?_
  conv => whnf
  refine ⟨trivial, CallAt.pure (fun R' hR' => sPSize hW.1 hH.1 (fun w s => hp w (hR' w s))) ?_⟩
  conv => whnf
  refine ⟨trivial, CallAt.pure (fun R' hR' => hwi R') ?_⟩
  conv => whnf
  refine iff_t (by simpa using hb) ?_
  conv => whnf
  exact ⟨trivial, fin_pure rfl rfl⟩
/-- the top cell -/
def topN (W H : Nat) : Nd := ⟨levN W H - 1, 0, 0⟩
theorem sBegin {R : HP} {pb W H : Nat} {r : Q4} {F : Nat → Nat → Int × Int} (hW : 1 ≤ W ∧ W ≤ 1024) (hH : 1 ≤ H ∧ H ≤ 1024) (hb : withinZ r.x0 r.y0 r.x1 r.y1 W H = 0) (hp : ∀ w, Sat R w → Sat (pyrH pb W H F) w) :
    FnR Try.prog R 60 [.pointer (some ⟨pb, 0, none⟩), r.v] [] fun v hs => ∃ sb, v = .tuple #[.pointer (some ⟨sb, 0, none⟩), .int .i64 0] ∧ hs = [srchH sb pb W H r (if meetsB (spanQ W H (topN W H)) r then [topN W H] else [])] := by
  have hwi := fun R' => pWithin r.x0 r.y0 r.x1 r.y1 W H (by omega) (by omega) R'
  have hl := levN_pos W H
  have hsz : SizeOk (W : Int) (H : Int) := ⟨by omega, by omega, by omega, by omega⟩
  have hl2 := levN_le hsz
  have htop : (topN W H).ok W H := ⟨by show levN W H - 1 < levN W H; omega, by show 0 < halfN W _; exact (half_le (by omega)).1, by show 0 < halfN H _; exact (half_le (by omega)).1⟩
  have hpush := fun (R' : HP) sb (hR' : ∀ w, Sat R' w → Sat (pyrH pb W H F) w) => sPush (R := R') (sb := sb) (pb := pb) (r := r) (L := []) (g := topN W H) hW hH htop (by simp) hR'
  have hlev := fun (R' : HP) (hR' : ∀ w, Sat R' w → Sat (pyrH pb W H F) w) => sPLevels (R := R') hR'
  have e1 : ((levN W H : Nat) : Int) - 1 = ((levN W H - 1 : Nat) : Int) := by omega
  rw [hb] at hwi
  have hk : (topN W H).k = levN W H - 1 := rfl
  have hx : (topN W H).x = 0 := rfl
  have hy : (topN W H).y = 0 := rfl
  rw [hk, hx, hy] at hpush
  simp only [List.nil_append] at hpush
  generalize topN W H = g at *
  generalize levN W H = l at *
  refine fn_of_run0 false Try.func60 rfl hmix rfl fun w0 => ?_
  conv => whnf
  refine ⟨trivial, CallAt.pure (fun R' hR' => sPSize hW.1 hH.1 (fun w s => hp w (hR' w s))) ?_⟩
  conv => whnf
  refine ⟨trivial, CallAt.pure (fun R' hR' => hwi R') ?_⟩
  conv => whnf
  refine iff_f (by decide) ?_
  conv => whnf
  refine ⟨trivial, CallAt.pure (fun R' hR' => hlev R' (fun w s => hp w (hR' w s))) ?_⟩
  conv => whnf
  rw [e1]
  conv => whnf
  intro sb _
  conv => whnf
  refine ⟨(by (repeat' apply And.intro) <;> first | exact True.intro | (unfold rng; omega) | omega), CallAt.fn (pre := [srchH sb pb W H r []]) [] (fun h s => ?_) (fun R' hR' => hpush R' sb (fun w s => hp w (hR' w s))) ?_⟩
  · refine boxH_shut (parts := sParts sb pb W H r []) (none, 0) ?_
    obtain ⟨h1, h2, d, e, s1, s2⟩ := s
    exact ⟨h1, h2, d, e, s1, row_nil _ _ s2⟩
  rintro v2 hs2 ⟨rfl, rfl⟩
  conv => whnf
  exact ⟨trivial, .mk _ (fun w s => s) ⟨sb, rfl, rfl⟩⟩
end Go.Proofs.Ytlplbgbnojibmaa

/-
  probe: the early ends of Range, Least, Most, First.
-/
namespace Go.Proofs.Ytlplbgbnojibmaa
open Go.RowKit
open Sy
set_option linter.unusedVariables false
set_option linter.unusedSimpArgs false
set_option maxRecDepth 100000
set_option maxHeartbeats 4000000

theorem sRangeNil (r : Q4) (R : HP) : PureR Try.prog R 16 [.pointer none, r.v] (.tuple #[rngV 0 0, .int .i64 1]) := by
  have hb := fun R' => sBeginNil r R'
  refine fn_of_run0 false Try.func16 rfl hmix rfl fun w0 => ?_
  conv => whnf
  refine ⟨trivial, CallAt.pure (fun R' hR' => hb R') ?_⟩
  conv => whnf
  refine iff_t rfl ?_
  conv => whnf
  exact ⟨trivial, fin_pure rfl rfl⟩
theorem sRangeBad {R : HP} {pb W H : Nat} {r : Q4} {F : Nat → Nat → Int × Int} (hW : 1 ≤ W ∧ W ≤ 1024) (hH : 1 ≤ H ∧ H ≤ 1024) (hb : withinZ r.x0 r.y0 r.x1 r.y1 W H ≠ 0) (hp : ∀ w, Sat R w → Sat (pyrH pb W H F) w) :
    PureR Try.prog R 16 [.pointer (some ⟨pb, 0, none⟩), r.v] (.tuple #[rngV 0 0, .int .i64 (withinZ r.x0 r.y0 r.x1 r.y1 W H)]) := by
  have hbb := fun R' (h : ∀ w, Sat R' w → Sat (pyrH pb W H F) w) => sBeginBad (R := R') hW hH hb h
  generalize withinZ r.x0 r.y0 r.x1 r.y1 W H = z at *
  refine fn_of_run0 false Try.func16 rfl hmix rfl fun w0 => ?_
  conv => whnf
  refine ⟨trivial, CallAt.pure (fun R' hR' => hbb R' (fun w s => hp w (hR' w s))) ?_⟩
  conv => whnf
  refine iff_t (by simpa using hb) ?_
  conv => whnf
  exact ⟨trivial, fin_pure rfl rfl⟩
theorem sFirstNil (r : Q4) (v : Int) (R : HP) : PureR Try.prog R 19 [.pointer none, r.v, .int .i64 v] (.tuple #[cellV 0 0, .bool false, .int .i64 1]) := by
  have hb := fun R' => sBeginNil r R'
  refine fn_of_run0 false Try.func19 rfl hmix rfl fun w0 => ?_
  conv => whnf
  refine ⟨trivial, CallAt.pure (fun R' hR' => hb R') ?_⟩
  conv => whnf
  refine iff_t rfl ?_
  conv => whnf
  exact ⟨trivial, fin_pure rfl rfl⟩
theorem sFirstBad {R : HP} {pb W H : Nat} {r : Q4} {F : Nat → Nat → Int × Int} (v : Int) (hW : 1 ≤ W ∧ W ≤ 1024) (hH : 1 ≤ H ∧ H ≤ 1024) (hb : withinZ r.x0 r.y0 r.x1 r.y1 W H ≠ 0) (hp : ∀ w, Sat R w → Sat (pyrH pb W H F) w) :
    PureR Try.prog R 19 [.pointer (some ⟨pb, 0, none⟩), r.v, .int .i64 v] (.tuple #[cellV 0 0, .bool false, .int .i64 (withinZ r.x0 r.y0 r.x1 r.y1 W H)]) := by
  have hbb := fun R' (h : ∀ w, Sat R' w → Sat (pyrH pb W H F) w) => sBeginBad (R := R') hW hH hb h
  generalize withinZ r.x0 r.y0 r.x1 r.y1 W H = z at *
  refine fn_of_run0 false Try.func19 rfl hmix rfl fun w0 => ?_
  conv => whnf
  refine ⟨trivial, CallAt.pure (fun R' hR' => hbb R' (fun w s => hp w (hR' w s))) ?_⟩
  conv => whnf
  refine iff_t (by simpa using hb) ?_
  conv => whnf
  exact ⟨trivial, fin_pure rfl rfl⟩
theorem sLeastNil (r : Q4) (R : HP) : PureR Try.prog R 17 [.pointer none, r.v] (.tuple #[.int .i64 0, cellV 0 0, .int .i64 1]) := by
  have hb := fun R' => sRangeNil r R'
  refine fn_of_run0 false Try.func17 rfl hmix rfl fun w0 => ?_
  conv => whnf
  refine ⟨trivial, CallAt.pure (fun R' hR' => hb R') ?_⟩
  conv => whnf
  refine iff_t rfl ?_
  conv => whnf
  exact ⟨trivial, fin_pure rfl rfl⟩
theorem sMostNil (r : Q4) (R : HP) : PureR Try.prog R 18 [.pointer none, r.v] (.tuple #[.int .i64 0, cellV 0 0, .int .i64 1]) := by
  have hb := fun R' => sRangeNil r R'
  refine fn_of_run0 false Try.func18 rfl hmix rfl fun w0 => ?_
  conv => whnf
  refine ⟨trivial, CallAt.pure (fun R' hR' => hb R') ?_⟩
  conv => whnf
  refine iff_t rfl ?_
  conv => whnf
  exact ⟨trivial, fin_pure rfl rfl⟩
end Go.Proofs.Ytlplbgbnojibmaa

/-
  the plain law of probe's search: a measure that falls, and a cell of level 0 that meets a rectangle lies in it.
-/
namespace Go.Proofs.Ytlplbgbnojibmaa
open Go.RowKit
open Sy
set_option linter.unusedVariables false
set_option linter.unusedSimpArgs false
set_option maxRecDepth 100000
set_option maxHeartbeats 4000000

def muN : List Nd → Nat
  | [] => 0
  | g :: L => 5 ^ (g.k + 1) + muN L
theorem muN_append (a b : List Nd) : muN (a ++ b) = muN a + muN b := by
  induction a with
  | nil => simp [muN]
  | cons g a ih => simp [muN, ih]; omega
theorem muN_kids (W H : Nat) (r : Q4) (m : Nat) (L : List Nd) : ∀ l : List (Nat × Nat), muN (kidF W H r m l L) ≤ muN L + l.length * 5 ^ (m + 1)
  | [] => by simp [kidF]
  | f :: l => by
    have ih := muN_kids W H r m L l
    have e : kidF W H r m (f :: l) L = pushS W H r m f (kidF W H r m l L) := rfl
    rw [e, List.length_cons, Nat.add_mul, Nat.one_mul]
    unfold pushS
    split
    · rw [muN_append]
      have : muN [(⟨m, f.1, f.2⟩ : Nd)] = 5 ^ (m + 1) := by simp [muN]
      omega
    · have : 0 < 5 ^ (m + 1) := Nat.pow_pos (by decide)
      omega
theorem muN_down {W H : Nat} {r : Q4} {m x y : Nat} {L : List Nd} : muN (kidF W H r m (kidL W H m x y) L) < muN (L ++ [⟨m + 1, x, y⟩]) := by
  have h1 := muN_kids W H r m L (kidL W H m x y)
  have h2 := kidL_len W H m x y
  have h3 := Nat.mul_le_mul_right (5 ^ (m + 1)) h2
  have h4 : muN (L ++ [⟨m + 1, x, y⟩]) = muN L + 5 ^ (m + 1 + 1) := by rw [muN_append]; simp [muN]
  have h5 : 5 ^ (m + 1 + 1) = 5 * 5 ^ (m + 1) := by rw [Nat.pow_succ, Nat.mul_comm]
  have h6 : 0 < 5 ^ (m + 1) := Nat.pow_pos (by decide)
  omega
/-- a single cell that meets a rectangle lies in it -/
theorem leaf_whole {W H x y : Nat} {r : Q4} (hg : Nd.ok W H ⟨0, x, y⟩) (hW : 1 ≤ W) (hH : 1 ≤ H) (hm : meetsB (spanQ W H ⟨0, x, y⟩) r) : meet (spanQ W H ⟨0, x, y⟩) r = spanQ W H ⟨0, x, y⟩ := by
  have h1 : x < W := by have := hg.2.1; simp [halfN] at this; omega
  have h2 : y < H := by have := hg.2.2; simp [halfN] at this; omega
  have e1 : spX1 W 0 x = x := by unfold spX1; simp; omega
  have e2 : spX1 H 0 y = y := by unfold spX1; simp; omega
  have e : spanQ W H ⟨0, x, y⟩ = ⟨(x : Int), (y : Int), (x : Int), (y : Int)⟩ := by unfold spanQ; simp only [e1, e2]; simp
  rw [e] at hm ⊢
  have hm2 := hm
  obtain ⟨_, _, h5⟩ := hm2
  unfold meet
  rw [if_pos hm]
  unfold meetR Q4.ok at h5
  unfold meetR
  simp only at h5
  simp only [Q4.mk.injEq]
  omega
end Go.Proofs.Ytlplbgbnojibmaa

/-
  probe's search: what the loop of Range computes; next on any stack.
-/
namespace Go.Proofs.Ytlplbgbnojibmaa
open Go.RowKit
open Sy
set_option linter.unusedVariables false
set_option linter.unusedSimpArgs false
set_option maxRecDepth 100000
set_option maxHeartbeats 4000000

def goodL (W H : Nat) (r : Q4) (L : List Nd) : Prop := ∀ g ∈ L, g.ok W H ∧ meetsB (spanQ W H g) r
theorem good_kids {W H : Nat} {r : Q4} {m : Nat} {L : List Nd} (hm : m < levN W H) (h : goodL W H r L) : ∀ l : List (Nat × Nat), (∀ f ∈ l, f.1 < halfN W m ∧ f.2 < halfN H m) → goodL W H r (kidF W H r m l L)
  | [], _ => h
  | f :: l, hl => by
    have ih := good_kids hm h l (fun f hf => hl f (List.mem_cons_of_mem _ hf))
    have e : kidF W H r m (f :: l) L = pushS W H r m f (kidF W H r m l L) := rfl
    have hf := hl f (List.mem_cons_self ..)
    rw [e]
    unfold pushS
    split
    · rename_i hb
      intro g hg
      rcases List.mem_append.1 hg with c | c
      · exact ih g c
      · simp at c
        subst c
        exact ⟨⟨hm, hf.1, hf.2⟩, hb⟩
    · exact ih
theorem muN_len (L : List Nd) : 5 * L.length ≤ muN L := by
  induction L with
  | nil => simp [muN]
  | cons g L ih =>
    have : 5 ^ (g.k + 1) = 5 * 5 ^ g.k := by rw [Nat.pow_succ, Nat.mul_comm]
    have : 0 < 5 ^ g.k := Nat.pow_pos (by decide)
    simp [muN]
    omega
/-- the range of a node -/
def valN (W : Nat) (F : Nat → Nat → Int × Int) (g : Nd) : Int × Int := F g.k (g.y * halfN W g.k + g.x)
/-- the kids of a node that meet the rectangle are pushed -/
def downS (W H : Nat) (r : Q4) (g : Nd) (L : List Nd) : List Nd := kidF W H r (g.k - 1) (kidL W H (g.k - 1) g.x g.y) L
theorem downS_good {W H : Nat} {r : Q4} {g : Nd} {L : List Nd} (h : goodL W H r (L ++ [g])) : goodL W H r (downS W H r g L) := by
  have h1 := (h g (by simp)).1.1
  exact good_kids (by omega) (fun x hx => h x (by simp [hx])) _ (fun f hf => kidL_mem hf)
theorem downS_mu {W H : Nat} {r : Q4} {g : Nd} {L : List Nd} (h : 0 < g.k) : muN (downS W H r g L) < muN (L ++ [g]) := by
  obtain ⟨k, x, y⟩ := g
  obtain ⟨m, rfl⟩ : ∃ m, k = m + 1 := ⟨k - 1, by simp at h; omega⟩
  exact muN_down
theorem mu_drop (L : List Nd) (g : Nd) : muN L < muN (L ++ [g]) := by
  rw [muN_append]
  have h0 : 0 < 5 ^ (g.k + 1) := Nat.pow_pos (by decide)
  show muN L < muN L + (5 ^ (g.k + 1) + 0)
  omega
def rgStep (W H : Nat) (r : Q4) (F : Nat → Nat → Int × Int) (g : Nd) (L : List Nd) (o : Int × Int) : List Nd × (Int × Int) :=
  if o.1 ≤ (valN W F g).1 ∧ (valN W F g).2 ≤ o.2 then (L, o)
  else if meet (spanQ W H g) r = spanQ W H g then (L, (min o.1 (valN W F g).1, max o.2 (valN W F g).2))
  else (downS W H r g L, o)
/-- what the loop of Range computes -/
def rgF (W H : Nat) (r : Q4) (F : Nat → Nat → Int × Int) : Nat → List Nd → Int × Int → Int × Int
  | 0, _, o => o
  | n + 1, L, o => match L.getLast? with
    | none => o
    | some g => rgF W H r F n (rgStep W H r F g L.dropLast o).1 (rgStep W H r F g L.dropLast o).2
theorem rgF_nil (W H : Nat) (r : Q4) (F : Nat → Nat → Int × Int) (n : Nat) (o : Int × Int) : rgF W H r F n [] o = o := by cases n <;> rfl
theorem rgF_step (W H : Nat) (r : Q4) (F : Nat → Nat → Int × Int) (n : Nat) (L : List Nd) (g : Nd) (o : Int × Int) : rgF W H r F (n + 1) (L ++ [g]) o = rgF W H r F n (rgStep W H r F g L o).1 (rgStep W H r F g L o).2 := by
  show (match (L ++ [g]).getLast? with | none => o | some g' => rgF W H r F n (rgStep W H r F g' (L ++ [g]).dropLast o).1 (rgStep W H r F g' (L ++ [g]).dropLast o).2) = _
  rw [List.getLast?_concat, List.dropLast_concat]
/-- the node that comes next -/
def hk : Option Nd → Int | none => 0 | some g => g.k
def hx : Option Nd → Int | none => 0 | some g => g.x
def hy : Option Nd → Int | none => 0 | some g => g.y
def hsp (W H : Nat) : Option Nd → Q4 | none => ⟨0, 0, 0, 0⟩ | some g => spanQ W H g
def hv (W : Nat) (F : Nat → Nat → Int × Int) : Option Nd → Int × Int | none => (0, 0) | some g => valN W F g
abbrev hV (W H : Nat) (F : Nat → Nat → Int × Int) (M : Option Nd) : Value := .tuple #[.agg #[.int .i64 (hk M), .int .i64 (hx M), .int .i64 (hy M), .int .i64 (hsp W H M).x0, .int .i64 (hsp W H M).y0, .int .i64 (hsp W H M).x1, .int .i64 (hsp W H M).y1], rngV (hv W F M).1 (hv W F M).2, .bool M.isSome]
theorem list_end {α : Type} (L : List α) : L = [] ∨ ∃ a g, L = a ++ [g] := by
  rcases List.eq_nil_or_concat L with h | ⟨a, g, h⟩
  · exact .inl h
  · exact .inr ⟨a, g, by simp [h]⟩
theorem list_back {α : Type} (L : List α) : L.dropLast ++ L.getLast?.toList = L := by
  rcases list_end L with rfl | ⟨a, g, rfl⟩
  · rfl
  · rw [List.getLast?_concat, List.dropLast_concat]; rfl
theorem sNextAny {R : HP} {sb pb W H : Nat} {r : Q4} {M : List Nd} {F : Nat → Nat → Int × Int} (hW : 1 ≤ W ∧ W ≤ 1024) (hH : 1 ≤ H ∧ H ≤ 1024) (hg : goodL W H r M) (hL : M.length ≤ 100000000) (hp : ∀ w, Sat R w → Sat (pyrH pb W H F) w) :
    FnR Try.prog R 61 [.pointer (some ⟨sb, 0, none⟩)] [srchH sb pb W H r M] fun v hs => v = hV W H F M.getLast? ∧ hs = [srchH sb pb W H r M.dropLast] := by
  rcases list_end M with rfl | ⟨L, g, rfl⟩
  · exact sNextNo
  · have h1 := sNext (R := R) (sb := sb) (pb := pb) (r := r) (L := L) (g := g) (F := F) hW hH (hg g (by simp)).1 (by simp at hL; omega) hp
    rw [List.getLast?_concat, List.dropLast_concat]
    exact h1
/-- where the search begins -/
def begL (W H : Nat) (r : Q4) : List Nd := if meetsB (spanQ W H (topN W H)) r then [topN W H] else []
theorem top_ok (W H : Nat) (hW : 1 ≤ W ∧ W ≤ 1024) (hH : 1 ≤ H ∧ H ≤ 1024) : (topN W H).ok W H := by
  have hl := levN_pos W H
  exact ⟨by show levN W H - 1 < levN W H; omega, by show 0 < halfN W _; exact (half_le (by omega)).1, by show 0 < halfN H _; exact (half_le (by omega)).1⟩
theorem begL_good (W H : Nat) (r : Q4) (hW : 1 ≤ W ∧ W ≤ 1024) (hH : 1 ≤ H ∧ H ≤ 1024) : goodL W H r (begL W H r) := by
  unfold begL
  split
  · rename_i h
    intro g hg
    simp at hg
    subst hg
    exact ⟨top_ok W H hW hH, h⟩
  · intro g hg
    simp at hg
theorem begL_mu (W H : Nat) (r : Q4) (hW : 1 ≤ W ∧ W ≤ 1024) (hH : 1 ≤ H ∧ H ≤ 1024) : muN (begL W H r) ≤ 5 ^ 12 := by
  have hsz : SizeOk (W : Int) (H : Int) := ⟨by omega, by omega, by omega, by omega⟩
  have h2 := levN_le hsz
  unfold begL
  split
  · show 5 ^ (levN W H - 1 + 1) + 0 ≤ _
    exact Nat.pow_le_pow_right (by decide) (by omega)
  · exact Nat.zero_le _
/-- what Range answers -/
def rangeF (W H : Nat) (r : Q4) (F : Nat → Nat → Int × Int) : Int × Int := rgF W H r F (muN (begL W H r) + 1) (begL W H r) (2147483647, -2147483648)
/-- is a cell ahead of another one? -/
def befB (a b : Int × Int) : Bool := decide (a.2 < b.2) || (decide (a.2 = b.2) && decide (a.1 < b.1))
/-- the first cell of a node that lies in the rectangle -/
def headN (W H : Nat) (r : Q4) (g : Nd) : Int × Int := ((meet (spanQ W H g) r).x0, (meet (spanQ W H g) r).y0)
def fiSkip (W H : Nat) (r : Q4) (F : Nat → Nat → Int × Int) (wt : Int × Int → Bool) (g : Nd) (o : (Int × Int) × Bool) : Bool := !(wt (valN W F g)) || (o.2 && !(befB (headN W H r g) o.1))
def fiStep (W H : Nat) (r : Q4) (F : Nat → Nat → Int × Int) (wt : Int × Int → Bool) (g : Nd) (L : List Nd) (o : (Int × Int) × Bool) : List Nd × ((Int × Int) × Bool) :=
  if fiSkip W H r F wt g o = true then (L, o)
  else if 0 < g.k then (downS W H r g L, o)
  else (L, (headN W H r g, true))
/-- what the loop of first computes -/
def fiF (W H : Nat) (r : Q4) (F : Nat → Nat → Int × Int) (wt : Int × Int → Bool) : Nat → List Nd → (Int × Int) × Bool → (Int × Int) × Bool
  | 0, _, o => o
  | n + 1, L, o => match L.getLast? with
    | none => o
    | some g => fiF W H r F wt n (fiStep W H r F wt g L.dropLast o).1 (fiStep W H r F wt g L.dropLast o).2
theorem fiF_nil (W H : Nat) (r : Q4) (F : Nat → Nat → Int × Int) (wt : Int × Int → Bool) (n : Nat) (o : (Int × Int) × Bool) : fiF W H r F wt n [] o = o := by cases n <;> rfl
theorem fiF_step (W H : Nat) (r : Q4) (F : Nat → Nat → Int × Int) (wt : Int × Int → Bool) (n : Nat) (L : List Nd) (g : Nd) (o : (Int × Int) × Bool) : fiF W H r F wt (n + 1) (L ++ [g]) o = fiF W H r F wt n (fiStep W H r F wt g L o).1 (fiStep W H r F wt g L o).2 := by
  show (match (L ++ [g]).getLast? with | none => o | some g' => fiF W H r F wt n (fiStep W H r F wt g' (L ++ [g]).dropLast o).1 (fiStep W H r F wt g' (L ++ [g]).dropLast o).2) = _
  rw [List.getLast?_concat, List.dropLast_concat]
/-- what first answers -/
def firstF (W H : Nat) (r : Q4) (F : Nat → Nat → Int × Int) (wt : Int × Int → Bool) : (Int × Int) × Bool := fiF W H r F wt (muN (begL W H r) + 1) (begL W H r) ((0, 0), false)
end Go.Proofs.Ytlplbgbnojibmaa

/-
  the plain law of probe's Range: the least and the greatest of the rectangle's cells.
-/
namespace Go.Proofs.Ytlplbgbnojibmaa
open Go.RowKit
open Sy
set_option linter.unusedVariables false
set_option linter.unusedSimpArgs false
set_option maxRecDepth 100000
set_option maxHeartbeats 4000000

def inQr (r : Q4) (a b : Nat) : Prop := r.x0 ≤ (a : Int) ∧ (a : Int) ≤ r.x1 ∧ r.y0 ≤ (b : Int) ∧ (b : Int) ≤ r.y1
def undr (g : Nd) (a b : Nat) : Prop := a / 2 ^ g.k = g.x ∧ b / 2 ^ g.k = g.y
theorem sp_in {W k x a : Nat} (ha : a < W) (h : a / 2 ^ k = x) : x * 2 ^ k ≤ a ∧ a ≤ spX1 W k x := by
  have hp := pow_pos' k
  subst h
  refine ⟨Nat.div_mul_le_self _ _, ?_⟩
  have h1 : a < (a / 2 ^ k + 1) * 2 ^ k := by
    have := Nat.lt_div_mul_add (a := a) hp
    rw [Nat.add_mul]; omega
  unfold spX1
  generalize (a / 2 ^ k + 1) * 2 ^ k = q at *
  omega
theorem span_ok {W H : Nat} (hW : 1 ≤ W ∧ W ≤ 1024) (hH : 1 ≤ H ∧ H ≤ 1024) {g : Nd} (hg : g.ok W H) : (spanQ W H g).ok := by
  obtain ⟨h1, h2⟩ := sp_ok hW.1 hg.2.1
  obtain ⟨h3, h4⟩ := sp_ok hH.1 hg.2.2
  unfold spanQ Q4.ok
  simp only
  omega
theorem meets_of {W H : Nat} (hW : 1 ≤ W ∧ W ≤ 1024) (hH : 1 ≤ H ∧ H ≤ 1024) {r : Q4} {g : Nd} {a b : Nat} (hg : g.ok W H) (ha : a < W) (hb : b < H) (hr : r.ok) (h : inQr r a b) (hu : undr g a b) : meetsB (spanQ W H g) r := by
  obtain ⟨x1, x2⟩ := sp_in ha hu.1
  obtain ⟨y1, y2⟩ := sp_in hb hu.2
  obtain ⟨i1, i2, i3, i4⟩ := h
  have hs := span_ok hW hH hg
  refine ⟨hs, hr, ?_⟩
  unfold Q4.ok at hs hr
  unfold meetR Q4.ok
  unfold spanQ at *
  simp only at *
  generalize spX1 W g.k g.x = p at *
  generalize spX1 H g.k g.y = q at *
  generalize g.x * 2 ^ g.k = u at *
  generalize g.y * 2 ^ g.k = v at *
  omega
theorem whole_in {W H : Nat} {r : Q4} {g : Nd} {a b : Nat} (hm : meetsB (spanQ W H g) r) (h : meet (spanQ W H g) r = spanQ W H g) (ha : a < W) (hb : b < H) (hu : undr g a b) : inQr r a b := by
  obtain ⟨x1, x2⟩ := sp_in ha hu.1
  obtain ⟨y1, y2⟩ := sp_in hb hu.2
  unfold meet at h
  rw [if_pos hm] at h
  unfold meetR spanQ at h
  simp only [Q4.mk.injEq] at h
  unfold inQr
  generalize spX1 W g.k g.x = p at *
  generalize spX1 H g.k g.y = q at *
  generalize g.x * 2 ^ g.k = u at *
  generalize g.y * 2 ^ g.k = v at *
  omega
theorem kid_w {lw x c : Nat} (h : c / 2 = x) (hc : c < lw) : ∃ i, i < kidW lw x ∧ c = 2 * x + i := ⟨c - 2 * x, by unfold kidW; omega, by omega⟩
theorem kidL_cover {W H m x y a b : Nat} (ha : a < W) (hb : b < H) (hx : a / 2 ^ (m + 1) = x) (hy : b / 2 ^ (m + 1) = y) : (a / 2 ^ m, b / 2 ^ m) ∈ kidL W H m x y := by
  have h2 : a / 2 ^ m / 2 = x := by rw [Nat.div_div_eq_div_mul, ← Nat.pow_succ]; exact hx
  have h3 : b / 2 ^ m / 2 = y := by rw [Nat.div_div_eq_div_mul, ← Nat.pow_succ]; exact hy
  obtain ⟨i, hi, ei⟩ := kid_w h2 (cell_in m ha)
  obtain ⟨j, hj, ej⟩ := kid_w h3 (cell_in m hb)
  unfold kidL kRows kRow
  rw [List.mem_flatMap]
  refine ⟨j, List.mem_range.2 hj, ?_⟩
  rw [List.mem_map]
  exact ⟨i, List.mem_range.2 hi, by rw [ei, ej]⟩
theorem kidF_old {W H : Nat} {r : Q4} {m : Nat} {L : List Nd} {g : Nd} (h : g ∈ L) : ∀ l : List (Nat × Nat), g ∈ kidF W H r m l L
  | [] => h
  | f :: l => by
    have ih := kidF_old (W := W) (H := H) (r := r) (m := m) h l
    show g ∈ pushS W H r m f (kidF W H r m l L)
    unfold pushS
    split
    · exact List.mem_append.2 (.inl ih)
    · exact ih
theorem kidF_new {W H : Nat} {r : Q4} {m : Nat} {L : List Nd} {f : Nat × Nat} (hm : meetsB (spanQ W H ⟨m, f.1, f.2⟩) r) : ∀ l : List (Nat × Nat), f ∈ l → (⟨m, f.1, f.2⟩ : Nd) ∈ kidF W H r m l L
  | e :: l, h => by
    show _ ∈ pushS W H r m e (kidF W H r m l L)
    rcases List.mem_cons.1 h with rfl | h
    · unfold pushS
      rw [if_pos hm]
      simp
    · have ih := kidF_new (L := L) hm l h
      unfold pushS
      split
      · exact List.mem_append.2 (.inl ih)
      · exact ih
section
variable {W H : Nat} {r : Q4} {f : Nat → Nat → Int}
theorem val_eq {g : Nd} (hW : 1 ≤ W) (hx : g.x < halfN W g.k) : valN W (Pf W H f) g = (mnL (spL W H g.k f g.x g.y), mxL (spL W H g.k f g.x g.y)) := by
  have h0 := (half_le (W := W) (k := g.k) hW).1
  unfold valN Pf lv
  rw [Nat.mul_comm, Nat.mul_add_mod, Nat.mod_eq_of_lt hx, Nat.mul_add_div (by omega), Nat.div_eq_of_lt hx, Nat.add_zero]
/-- what is so between the rounds -/
def rgOk (W H : Nat) (r : Q4) (f : Nat → Nat → Int) (L : List Nd) (o : Int × Int) : Prop :=
  (∀ a b, a < W → b < H → inQr r a b → (o.1 ≤ f a b ∧ f a b ≤ o.2) ∨ ∃ g ∈ L, undr g a b) ∧
  (o.1 = 2147483647 ∨ ∃ a b, a < W ∧ b < H ∧ inQr r a b ∧ f a b = o.1) ∧ (o.2 = -2147483648 ∨ ∃ a b, a < W ∧ b < H ∧ inQr r a b ∧ f a b = o.2)
theorem rg_step (hW : 1 ≤ W ∧ W ≤ 1024) (hH : 1 ≤ H ∧ H ≤ 1024) (hr : r.ok) {L : List Nd} {g : Nd} {o : Int × Int} (hg : goodL W H r (L ++ [g])) (h : rgOk W H r f (L ++ [g]) o) :
    rgOk W H r f (rgStep W H r (Pf W H f) g L o).1 (rgStep W H r (Pf W H f) g L o).2 := by
  obtain ⟨h1, h2, h3⟩ := h
  have hgk := hg g (by simp)
  have hv := val_eq (W := W) (H := H) (f := f) hW.1 hgk.1.2.1
  have hmem := mem_spL (f := f) hW.1 hH.1 hgk.1.2.1 hgk.1.2.2
  have hne := spL_ne (f := f) hW.1 hH.1 hgk.1.2.1 hgk.1.2.2
  have lo := fun a b (ha : a < W) (hb : b < H) (hu : undr g a b) => mnL_le ((hmem (f a b)).2 ⟨a, b, ha, hb, hu.1, hu.2, rfl⟩)
  have hi := fun a b (ha : a < W) (hb : b < H) (hu : undr g a b) => le_mxL ((hmem (f a b)).2 ⟨a, b, ha, hb, hu.1, hu.2, rfl⟩)
  obtain ⟨a1, b1, e1, e2, e3, e4, e5⟩ := (hmem _).1 (mnL_mem hne)
  obtain ⟨a2, b2, k1, k2, k3, k4, k5⟩ := (hmem _).1 (mxL_mem hne)
  unfold rgStep
  rw [hv]
  simp only
  generalize mnL (spL W H g.k f g.x g.y) = u at *
  generalize mxL (spL W H g.k f g.x g.y) = v at *
  split
  · rename_i hc
    have hc' : o.1 ≤ u ∧ v ≤ o.2 := hc
    refine ⟨fun a b ha hb hin => ?_, h2, h3⟩
    rcases h1 a b ha hb hin with c | ⟨g', c, hu⟩
    · exact .inl c
    · rcases List.mem_append.1 c with c | c
      · exact .inr ⟨g', c, hu⟩
      · simp at c
        subst c
        have := lo a b ha hb hu
        have := hi a b ha hb hu
        exact .inl ⟨by simp only; omega, by simp only; omega⟩
  · split
    · rename_i hc
      refine ⟨fun a b ha hb hin => ?_, ?_, ?_⟩
      · rcases h1 a b ha hb hin with c | ⟨g', c, hu⟩
        · exact .inl ⟨by simp only; omega, by simp only; omega⟩
        · rcases List.mem_append.1 c with c | c
          · exact .inr ⟨g', c, hu⟩
          · simp at c
            subst c
            have := lo a b ha hb hu
            have := hi a b ha hb hu
            exact .inl ⟨by simp only; omega, by simp only; omega⟩
      · rcases Int.le_total o.1 u with c | c
        · rw [Int.min_eq_left c]; exact h2
        · rw [Int.min_eq_right c]; exact .inr ⟨a1, b1, e1, e2, whole_in hgk.2 hc e1 e2 ⟨e3, e4⟩, e5⟩
      · rcases Int.le_total o.2 v with c | c
        · rw [Int.max_eq_right c]; exact .inr ⟨a2, b2, k1, k2, whole_in hgk.2 hc k1 k2 ⟨k3, k4⟩, k5⟩
        · rw [Int.max_eq_left c]; exact h3
    · rename_i hc
      refine ⟨fun a b ha hb hin => ?_, h2, h3⟩
      rcases h1 a b ha hb hin with c | ⟨g', c, hu⟩
      · exact .inl c
      · rcases List.mem_append.1 c with c | c
        · exact .inr ⟨g', kidF_old c _, hu⟩
        · simp at c
          subst c
          obtain ⟨k, x, y⟩ := g'
          rcases k with _ | m
          · exact absurd (leaf_whole hgk.1 hW.1 hH.1 hgk.2) hc
          · refine .inr ⟨⟨m, a / 2 ^ m, b / 2 ^ m⟩, ?_, rfl, rfl⟩
            have hok : Nd.ok W H ⟨m, a / 2 ^ m, b / 2 ^ m⟩ := ⟨by have := hgk.1.1; simp only at this ⊢; omega, cell_in m ha, cell_in m hb⟩
            exact kidF_new (f := (a / 2 ^ m, b / 2 ^ m)) (meets_of hW hH hok ha hb hr hin ⟨rfl, rfl⟩) _ (kidL_cover ha hb hu.1 hu.2)
theorem rgStep_good {F : Nat → Nat → Int × Int} {L : List Nd} {g : Nd} {o : Int × Int} (hg : goodL W H r (L ++ [g])) : goodL W H r (rgStep W H r F g L o).1 := by
  have h0 : goodL W H r L := fun x hx => hg x (by simp [hx])
  unfold rgStep
  split
  · exact h0
  · split
    · exact h0
    · exact downS_good hg
theorem rgStep_mu {F : Nat → Nat → Int × Int} {L : List Nd} {g : Nd} {o : Int × Int} (hW : 1 ≤ W) (hH : 1 ≤ H) (hg : goodL W H r (L ++ [g])) : muN (rgStep W H r F g L o).1 < muN (L ++ [g]) := by
  unfold rgStep
  split
  · exact mu_drop L g
  · split
    · exact mu_drop L g
    · rename_i hc
      refine downS_mu ?_
      have hgk := hg g (by simp)
      obtain ⟨k, x, y⟩ := g
      rcases k with _ | m
      · exact absurd (leaf_whole hgk.1 hW hH hgk.2) hc
      · simp
theorem rg_all (hW : 1 ≤ W ∧ W ≤ 1024) (hH : 1 ≤ H ∧ H ≤ 1024) (hr : r.ok) : ∀ (n : Nat) (L : List Nd) (o : Int × Int), goodL W H r L → muN L < n → rgOk W H r f L o → rgOk W H r f [] (rgF W H r (Pf W H f) n L o)
  | 0, L, o, _, hm, _ => by omega
  | n + 1, L, o, hg, hm, h => by
    rcases list_end L with rfl | ⟨L, g, rfl⟩
    · exact h
    · rw [rgF_step]
      have := rgStep_mu (F := Pf W H f) (o := o) hW.1 hH.1 hg
      exact rg_all hW hH hr n _ _ (rgStep_good hg) (by omega) (rg_step hW hH hr hg h)
theorem top_undr {a b : Nat} (hs : SizeOk (W : Int) (H : Int)) (ha : a < W) (hb : b < H) : undr (topN W H) a b := by
  have hl := levN_pos W H
  have h2 := hs
  unfold SizeOk at h2
  have h1 : ¬ (levN W H - 1 + 1 < levN W H) := by omega
  have h3 := mt (lev_lt hs (levN W H - 1)).2 h1
  rw [halfZ_N W _ (by omega), halfZ_N H _ (by omega)] at h3
  have c1 := cell_in (levN W H - 1) ha
  have c2 := cell_in (levN W H - 1) hb
  unfold undr topN
  simp only
  generalize a / 2 ^ (levN W H - 1) = p at *
  generalize b / 2 ^ (levN W H - 1) = q at *
  omega
/-- the least and the greatest of a rectangle -/
theorem rangeF_eq (hW : 1 ≤ W ∧ W ≤ 1024) (hH : 1 ≤ H ∧ H ≤ 1024) (hf : ∀ a b, a < W → b < H → MayV (f a b)) {x0 y0 x1 y1 : Nat} (hx : x0 ≤ x1) (hy : y0 ≤ y1) (hx1 : x1 < W) (hy1 : y1 < H) :
    rangeF W H ⟨x0, y0, x1, y1⟩ (Pf W H f) = (mnL (vRows f x0 (x1 - x0 + 1) y0 (y1 - y0 + 1)), mxL (vRows f x0 (x1 - x0 + 1) y0 (y1 - y0 + 1))) := by
  have hsz : SizeOk (W : Int) (H : Int) := ⟨by omega, by omega, by omega, by omega⟩
  have hr : Q4.ok ⟨x0, y0, x1, y1⟩ := by unfold Q4.ok; simp only; omega
  have hin0 : inQr ⟨x0, y0, x1, y1⟩ x0 y0 := by unfold inQr; simp only; omega
  have hbeg : rgOk W H ⟨x0, y0, x1, y1⟩ f (begL W H ⟨x0, y0, x1, y1⟩) (2147483647, -2147483648) := by
    refine ⟨fun a b ha hb hin => .inr ?_, .inl rfl, .inl rfl⟩
    have hu := top_undr hsz ha hb
    refine ⟨topN W H, ?_, hu⟩
    unfold begL
    rw [if_pos (meets_of hW hH (top_ok W H hW hH) ha hb hr hin hu)]
    simp
  obtain ⟨h1, h2, h3⟩ := rg_all hW hH hr _ _ _ (begL_good W H ⟨x0, y0, x1, y1⟩ hW hH) (Nat.lt_succ_self _) hbeg
  show rgF _ _ _ _ _ _ _ = _
  generalize rgF W H ⟨x0, y0, x1, y1⟩ (Pf W H f) (muN (begL W H ⟨x0, y0, x1, y1⟩) + 1) (begL W H ⟨x0, y0, x1, y1⟩) (2147483647, -2147483648) = o at *
  have hall : ∀ a b, a < W → b < H → inQr ⟨x0, y0, x1, y1⟩ a b → o.1 ≤ f a b ∧ f a b ≤ o.2 := fun a b ha hb hin => by
    rcases h1 a b ha hb hin with c | ⟨g, c, _⟩
    · exact c
    · simp at c
  have hmem : ∀ v, v ∈ vRows f x0 (x1 - x0 + 1) y0 (y1 - y0 + 1) ↔ ∃ a b, a < W ∧ b < H ∧ inQr ⟨x0, y0, x1, y1⟩ a b ∧ f a b = v := fun v => by
    unfold vRows vRow inQr
    rw [List.mem_flatMap]
    constructor
    · rintro ⟨j, hj, h⟩
      obtain ⟨i, hi, rfl⟩ := List.mem_map.1 h
      have := List.mem_range.1 hj
      have := List.mem_range.1 hi
      exact ⟨x0 + i, y0 + j, by omega, by omega, by simp only; omega, rfl⟩
    · rintro ⟨a, b, ha, hb, hin, rfl⟩
      simp only at hin
      exact ⟨b - y0, List.mem_range.2 (by omega), List.mem_map.2 ⟨a - x0, List.mem_range.2 (by omega), by rw [show x0 + (a - x0) = a by omega, show y0 + (b - y0) = b by omega]⟩⟩
  have h0 := hall x0 y0 (by omega) (by omega) hin0
  have hf0 := hf x0 y0 (by omega) (by omega)
  unfold MayV at hf0
  have e1 : o.1 ∈ vRows f x0 (x1 - x0 + 1) y0 (y1 - y0 + 1) := by
    rcases h2 with c | c
    · exact (hmem _).2 ⟨x0, y0, by omega, by omega, hin0, by omega⟩
    · exact (hmem _).2 c
  have e2 : o.2 ∈ vRows f x0 (x1 - x0 + 1) y0 (y1 - y0 + 1) := by
    rcases h3 with c | c
    · exact (hmem _).2 ⟨x0, y0, by omega, by omega, hin0, by omega⟩
    · exact (hmem _).2 c
  rw [mnL_eq e1 fun v hv => by obtain ⟨a, b, ha, hb, hin, rfl⟩ := (hmem v).1 hv; exact (hall a b ha hb hin).1, mxL_eq e2 fun v hv => by obtain ⟨a, b, ha, hb, hin, rfl⟩ := (hmem v).1 hv; exact (hall a b ha hb hin).2]
end
end Go.Proofs.Ytlplbgbnojibmaa

/-
  probe.Range.
-/
namespace Go.Proofs.Ytlplbgbnojibmaa
open Go.RowKit
open Sy
set_option linter.unusedVariables false
set_option linter.unusedSimpArgs false
set_option maxRecDepth 100000
set_option maxHeartbeats 4000000

theorem srch_fields {sb pb W H : Nat} {r : Q4} {L : List Nd} {w : World} (h : Sat (srchH sb pb W H r L) w) : w.cell? ⟨sb, 1, none⟩ = some (.int .i64 r.x0) ∧ w.cell? ⟨sb, 2, none⟩ = some (.int .i64 r.y0) ∧ w.cell? ⟨sb, 3, none⟩ = some (.int .i64 r.x1) ∧ w.cell? ⟨sb, 4, none⟩ = some (.int .i64 r.y1) := by
  obtain ⟨⟨A, c⟩, s⟩ := Sat.unbox h
  have s1 := s.in_ 0 rfl
  exact ⟨blk_at s1 rfl, blk_at s1 rfl, blk_at s1 rfl, blk_at s1 rfl⟩
theorem sDown {R : HP} {sb pb W H : Nat} {r : Q4} {L : List Nd} {g : Nd} {F : Nat → Nat → Int × Int} (hW : 1 ≤ W ∧ W ≤ 1024) (hH : 1 ≤ H ∧ H ≤ 1024) (hg : g.ok W H) (h0 : 0 < g.k) (hL : L.length + 4 ≤ 100000000) (hp : ∀ w, Sat R w → Sat (pyrH pb W H F) w) :
    FnR Try.prog R 63 [.pointer (some ⟨sb, 0, none⟩), ndV W H g] [srchH sb pb W H r L] fun v hs => v = .tuple #[] ∧ hs = [srchH sb pb W H r (downS W H r g L)] := by
  obtain ⟨k, x, y⟩ := g
  obtain ⟨m, rfl⟩ : ∃ m, k = m + 1 := ⟨k - 1, by simp at h0; omega⟩
  exact sKids hW hH hg hL hp
structure RgS where
  c : Option Nd
  L : List Nd
  o : Int × Int
  n : Nat
def RgS.ok (W H : Nat) (r : Q4) (F : Nat → Nat → Int × Int) (res : Int × Int) (s : RgS) : Prop :=
  goodL W H r (s.L ++ s.c.toList) ∧ muN (s.L ++ s.c.toList) < s.n ∧ muN (s.L ++ s.c.toList) ≤ 5 ^ 12 ∧ rgF W H r F s.n (s.L ++ s.c.toList) s.o = res ∧ (s.c = none → s.L = [])
theorem last_none {M : List Nd} (h : M.getLast? = none) : M.dropLast = [] := by
  rcases list_end M with rfl | ⟨a, g, rfl⟩
  · rfl
  · rw [List.getLast?_concat] at h; cases h
def RgS.of (M : List Nd) (o : Int × Int) (n : Nat) : RgS := ⟨M.getLast?, M.dropLast, o, n⟩
theorem RgS.next {W H : Nat} {r : Q4} {F : Nat → Nat → Int × Int} {res : Int × Int} {g : Nd} {L M : List Nd} {o o' : Int × Int} {n : Nat} (hW : 1 ≤ W) (hH : 1 ≤ H) (h : RgS.ok W H r F res ⟨some g, L, o, n⟩) (e : rgStep W H r F g L o = (M, o')) :
    goodL W H r M ∧ muN M ≤ 5 ^ 12 ∧ RgS.ok W H r F res (RgS.of M o' (n - 1)) ∧ (RgS.of M o' (n - 1)).n < n := by
  obtain ⟨h1, h2, h3, h4, -⟩ := h
  simp only [Option.toList] at h1 h2 h3 h4
  obtain ⟨m, rfl⟩ : ∃ m, n = m + 1 := ⟨n - 1, by omega⟩
  have a1 := rgStep_good (F := F) (o := o) h1
  have a2 := rgStep_mu (F := F) (o := o) hW hH h1
  rw [rgF_step] at h4
  rw [e] at a1 a2 h4
  simp only at a1 a2 h4
  unfold RgS.ok RgS.of
  simp only [list_back, Nat.add_sub_cancel]
  exact ⟨a1, by omega, ⟨a1, by omega, by omega, h4, last_none⟩, by omega⟩
theorem sPRange {R : HP} {pb W H : Nat} {r : Q4} {F : Nat → Nat → Int × Int} (hW : 1 ≤ W ∧ W ≤ 1024) (hH : 1 ≤ H ∧ H ≤ 1024) (hb : withinZ r.x0 r.y0 r.x1 r.y1 W H = 0) (hp : ∀ w, Sat R w → Sat (pyrH pb W H F) w) :
    PureR Try.prog R 16 [.pointer (some ⟨pb, 0, none⟩), r.v] (.tuple #[rngV (rangeF W H r F).1 (rangeF W H r F).2, .int .i64 0]) := by
  have hbeg := fun R' (h : ∀ w, Sat R' w → Sat (pyrH pb W H F) w) => sBegin (R := R') hW hH hb h
  have hnext := fun (R' : HP) sb M (hg : goodL W H r M) (hL : muN M ≤ 5 ^ 12) (h : ∀ w, Sat R' w → Sat (pyrH pb W H F) w) => sNextAny (R := R') (sb := sb) (M := M) hW hH hg (by have := muN_len M; omega) h
  have hwh := fun (R' : HP) sb g (h : ∀ w, Sat R' w → w.cell? ⟨sb, 1, none⟩ = some (.int .i64 r.x0) ∧ w.cell? ⟨sb, 2, none⟩ = some (.int .i64 r.y0) ∧ w.cell? ⟨sb, 3, none⟩ = some (.int .i64 r.x1) ∧ w.cell? ⟨sb, 4, none⟩ = some (.int .i64 r.y1)) => sWhole (R := R') (W := W) (H := H) (g := g) h
  have hkid := fun (R' : HP) sb g L (hg : Nd.ok W H g) (h0 : 0 < g.k) (hL : muN L ≤ 5 ^ 12) (h : ∀ w, Sat R' w → Sat (pyrH pb W H F) w) => sDown (R := R') (sb := sb) (r := r) (L := L) hW hH hg h0 (by have := muN_len L; omega) h
  have hst : RgS.ok W H r F (rangeF W H r F) (RgS.of (begL W H r) (2147483647, -2147483648) (muN (begL W H r) + 1)) := by
    unfold RgS.ok RgS.of
    simp only [list_back]
    exact ⟨begL_good W H r hW hH, Nat.lt_succ_self _, begL_mu W H r hW hH, rfl, last_none⟩
  have hbg := begL_good W H r hW hH
  have hbm := begL_mu W H r hW hH
  generalize hres : rangeF W H r F = res at *
  change ∀ R' : HP, _ → FnR Try.prog R' _ _ [] fun v hs => ∃ sb, v = .tuple #[.pointer (some ⟨sb, 0, none⟩), .int .i64 0] ∧ hs = [srchH sb pb W H r (begL W H r)] at hbeg
  generalize muN (begL W H r) + 1 = n0 at *
  generalize begL W H r = M0 at *
  refine fn_of_run0 false Try.func16 rfl hmix rfl fun w0 => ?_
  conv => whnf
  refine ⟨trivial, CallAt.fn (pre := []) [] (fun h s => s) (fun R' hR' => hbeg R' fun w s => hp w (hR' w s)) ?_⟩
  rintro v hs ⟨sb, rfl, rfl⟩
  conv => whnf
  refine iff_f (by decide) ?_
  conv => whnf
  refine ⟨trivial, CallAt.fn (pre := [srchH sb pb W H r M0]) [] (fun h s => s) (fun R' hR' => hnext R' sb M0 hbg hbm fun w s => hp w (hR' w s)) ?_⟩
  rintro v hs ⟨rfl, rfl⟩
  conv => whnf
  refine ⟨trivial, LoopAt.of (α := RgS) [4, 6, 8] (fun a => [(9, .p 3 0), (10, .p 4 0), (11, .v (.bool a.c.isSome))])
    (fun a => [(4, 30, [.v (.int .i64 (hv W F a.c).1), .v (.int .i64 (hv W F a.c).2)]), (3, 114, [.v (.int .i64 (hk a.c)), .v (.int .i64 (hx a.c)), .v (.int .i64 (hy a.c)), .v (.int .i64 (hsp W H a.c).x0), .v (.int .i64 (hsp W H a.c).y0), .v (.int .i64 (hsp W H a.c).x1), .v (.int .i64 (hsp W H a.c).y1)]), (2, 30, [.v (.int .i64 a.o.1), .v (.int .i64 a.o.2)]), (1, 30, [.v (.int .i64 0), .v (.int .i64 0)])])
    (fun a => [srchH sb pb W H r a.L]) (RgS.ok W H r F res) (fun a => a.n) (RgS.of M0 (2147483647, -2147483648) n0) hst
    (Le.of (Nat.le_of_ble_eq_true rfl) (Nat.zero_le _) ⟨⟨rfl, rfl⟩, ⟨rfl, rfl⟩, ⟨rfl, rfl⟩, ⟨rfl, rfl⟩, ⟨rfl, rfl⟩, ⟨rfl, rfl⟩, trivial⟩ ⟨⟨rfl, rfl, rfl, rfl⟩, ⟨rfl, rfl, rfl, rfl⟩, ⟨rfl, rfl, rfl, rfl⟩, ⟨rfl, rfl, rfl, rfl⟩, trivial⟩ fun h s => sub_same s) ?_⟩
  rintro ⟨c, L, o, n⟩ hok
  rcases c with _ | g
  · have hr := hok.2.2.2.1
    have hl := hok.2.2.2.2 rfl
    simp only at hl
    subst hl
    simp only [Option.toList, List.append_nil, rgF_nil] at hr
    subst hr
    conv => whnf
    refine iff_f rfl ?_
    conv => whnf
    exact ⟨trivial, .mk [] (fun w ⟨h, hs, s⟩ => by obtain ⟨h', e, s'⟩ := sub_tail s; exact ⟨h', hs.mono e, s'⟩) ⟨rfl, rfl⟩⟩
  · have hgk := (hok.1 g (by simp))
    conv => whnf
    refine iff_t rfl ?_
    conv => whnf
    refine ⟨fun c1 => ?_, fun c1 => ?_⟩
    · conv => whnf
      refine ⟨fun c2 => ?_, fun c2 => ?_⟩
      · have d1 : o.1 ≤ (valN W F g).1 := of_decide_eq_true c1
        have d2 : (valN W F g).2 ≤ o.2 := of_decide_eq_true c2
        have e : rgStep W H r F g L o = (L, o) := if_pos ⟨d1, d2⟩
        conv => whnf
        obtain ⟨m1, m2, m3, m4⟩ := RgS.next hW.1 hH.1 hok e
        refine ⟨trivial, CallAt.fn (pre := [srchH sb pb W H r L]) [] (fun h s => s) (fun R' hR' => hnext R' sb L m1 m2 fun w s => hp w (hR' w s)) ?_⟩
        rintro v hs ⟨rfl, rfl⟩
        conv => whnf
        exact ⟨trivial, .mk (RgS.of L o (n - 1)) m3 m4 (Le.pick [0, 1, 2, 5, 6] rfl rfl rfl rfl ⟨⟨_, rfl, rfl⟩, ⟨_, rfl, rfl⟩, ⟨_, rfl, rfl⟩, ⟨_, rfl, rfl⟩, ⟨_, rfl, rfl⟩, ⟨_, rfl, rfl⟩, trivial⟩ ⟨⟨_, _, rfl, rfl, rfl⟩, ⟨_, _, rfl, rfl, rfl⟩, ⟨_, _, rfl, rfl, rfl⟩, ⟨_, _, rfl, rfl, rfl⟩, trivial⟩ rfl fun h s => sub_same s)⟩
      · have d2 : ¬ (valN W F g).2 ≤ o.2 := of_decide_eq_false c2
        have d : ¬ (o.1 ≤ (valN W F g).1 ∧ (valN W F g).2 ≤ o.2) := fun c => d2 c.2
        conv => whnf
        refine ⟨trivial, CallAt.pure (fun R' hR' => hwh R' sb g (fun w s => srch_fields ((hR' w s).in_ 0 rfl))) ?_⟩
        conv => whnf
        refine ⟨fun c3 => ?_, fun c3 => ?_⟩
        · have d3 : ¬ meet (spanQ W H g) r = spanQ W H g := by simpa using c3
          have e : rgStep W H r F g L o = (downS W H r g L, o) := by unfold rgStep; rw [if_neg d, if_neg d3]
          have h0 : 0 < g.k := by
            rcases Nat.eq_zero_or_pos g.k with z | z
            · obtain ⟨k, x, y⟩ := g
              simp only at z
              subst z
              exact absurd (leaf_whole hgk.1 hW.1 hH.1 hgk.2) d3
            · exact z
          have hmL : muN L ≤ 5 ^ 12 := by
            have h1 := hok.2.2.1
            simp only [Option.toList] at h1
            have := mu_drop L g
            omega
          conv => whnf
          refine ⟨trivial, CallAt.fn (pre := [srchH sb pb W H r L]) [] (fun h s => s) (fun R' hR' => hkid R' sb g L hgk.1 h0 hmL fun w s => hp w (hR' w s)) ?_⟩
          rintro v hs ⟨rfl, rfl⟩
          conv => whnf
          obtain ⟨m1, m2, m3, m4⟩ := RgS.next hW.1 hH.1 hok e
          refine ⟨trivial, CallAt.fn (pre := [srchH sb pb W H r (downS W H r g L)]) [] (fun h s => s) (fun R' hR' => hnext R' sb (downS W H r g L) m1 m2 fun w s => hp w (hR' w s)) ?_⟩
          rintro v hs ⟨rfl, rfl⟩
          conv => whnf
          exact ⟨trivial, .mk (RgS.of (downS W H r g L) o (n - 1)) m3 m4 (Le.pick [0, 1, 2, 5, 6] rfl rfl rfl rfl ⟨⟨_, rfl, rfl⟩, ⟨_, rfl, rfl⟩, ⟨_, rfl, rfl⟩, ⟨_, rfl, rfl⟩, ⟨_, rfl, rfl⟩, ⟨_, rfl, rfl⟩, trivial⟩ ⟨⟨_, _, rfl, rfl, rfl⟩, ⟨_, _, rfl, rfl, rfl⟩, ⟨_, _, rfl, rfl, rfl⟩, ⟨_, _, rfl, rfl, rfl⟩, trivial⟩ rfl fun h s => sub_same s)⟩
        · have d3 : meet (spanQ W H g) r = spanQ W H g := by simpa using c3
          have e : rgStep W H r F g L o = (L, (min o.1 (valN W F g).1, max o.2 (valN W F g).2)) := by unfold rgStep; rw [if_neg d, if_pos d3]
          conv => whnf
          obtain ⟨m1, m2, m3, m4⟩ := RgS.next hW.1 hH.1 hok e
          refine ⟨trivial, CallAt.fn (pre := [srchH sb pb W H r L]) [] (fun h s => s) (fun R' hR' => hnext R' sb L m1 m2 fun w s => hp w (hR' w s)) ?_⟩
          rintro v hs ⟨rfl, rfl⟩
          conv => whnf
          exact ⟨trivial, .mk (RgS.of L (min o.1 (valN W F g).1, max o.2 (valN W F g).2) (n - 1)) m3 m4 (Le.pick [0, 1, 2, 5, 6] rfl rfl rfl rfl ⟨⟨_, rfl, rfl⟩, ⟨_, rfl, rfl⟩, ⟨_, rfl, rfl⟩, ⟨_, rfl, rfl⟩, ⟨_, rfl, rfl⟩, ⟨_, rfl, rfl⟩, trivial⟩ ⟨⟨_, _, rfl, rfl, rfl⟩, ⟨_, _, rfl, rfl, rfl⟩, ⟨_, _, rfl, rfl, rfl⟩, ⟨_, _, rfl, rfl, rfl⟩, trivial⟩ rfl fun h s => sub_same s)⟩
    · have d1 : ¬ o.1 ≤ (valN W F g).1 := of_decide_eq_false c1
      have d : ¬ (o.1 ≤ (valN W F g).1 ∧ (valN W F g).2 ≤ o.2) := fun c => d1 c.1
      conv => whnf
      refine ⟨trivial, CallAt.pure (fun R' hR' => hwh R' sb g (fun w s => srch_fields ((hR' w s).in_ 0 rfl))) ?_⟩
      conv => whnf
      refine ⟨fun c3 => ?_, fun c3 => ?_⟩
      · have d3 : ¬ meet (spanQ W H g) r = spanQ W H g := by simpa using c3
        have e : rgStep W H r F g L o = (downS W H r g L, o) := by unfold rgStep; rw [if_neg d, if_neg d3]
        have h0 : 0 < g.k := by
          rcases Nat.eq_zero_or_pos g.k with z | z
          · obtain ⟨k, x, y⟩ := g
            simp only at z
            subst z
            exact absurd (leaf_whole hgk.1 hW.1 hH.1 hgk.2) d3
          · exact z
        have hmL : muN L ≤ 5 ^ 12 := by
          have h1 := hok.2.2.1
          simp only [Option.toList] at h1
          have := mu_drop L g
          omega
        conv => whnf
        refine ⟨trivial, CallAt.fn (pre := [srchH sb pb W H r L]) [] (fun h s => s) (fun R' hR' => hkid R' sb g L hgk.1 h0 hmL fun w s => hp w (hR' w s)) ?_⟩
        rintro v hs ⟨rfl, rfl⟩
        conv => whnf
        obtain ⟨m1, m2, m3, m4⟩ := RgS.next hW.1 hH.1 hok e
        refine ⟨trivial, CallAt.fn (pre := [srchH sb pb W H r (downS W H r g L)]) [] (fun h s => s) (fun R' hR' => hnext R' sb (downS W H r g L) m1 m2 fun w s => hp w (hR' w s)) ?_⟩
        rintro v hs ⟨rfl, rfl⟩
        conv => whnf
        exact ⟨trivial, .mk (RgS.of (downS W H r g L) o (n - 1)) m3 m4 (Le.pick [0, 1, 2, 5, 6] rfl rfl rfl rfl ⟨⟨_, rfl, rfl⟩, ⟨_, rfl, rfl⟩, ⟨_, rfl, rfl⟩, ⟨_, rfl, rfl⟩, ⟨_, rfl, rfl⟩, ⟨_, rfl, rfl⟩, trivial⟩ ⟨⟨_, _, rfl, rfl, rfl⟩, ⟨_, _, rfl, rfl, rfl⟩, ⟨_, _, rfl, rfl, rfl⟩, ⟨_, _, rfl, rfl, rfl⟩, trivial⟩ rfl fun h s => sub_same s)⟩
      · have d3 : meet (spanQ W H g) r = spanQ W H g := by simpa using c3
        have e : rgStep W H r F g L o = (L, (min o.1 (valN W F g).1, max o.2 (valN W F g).2)) := by unfold rgStep; rw [if_neg d, if_pos d3]
        conv => whnf
        obtain ⟨m1, m2, m3, m4⟩ := RgS.next hW.1 hH.1 hok e
        refine ⟨trivial, CallAt.fn (pre := [srchH sb pb W H r L]) [] (fun h s => s) (fun R' hR' => hnext R' sb L m1 m2 fun w s => hp w (hR' w s)) ?_⟩
        rintro v hs ⟨rfl, rfl⟩
        conv => whnf
        exact ⟨trivial, .mk (RgS.of L (min o.1 (valN W F g).1, max o.2 (valN W F g).2) (n - 1)) m3 m4 (Le.pick [0, 1, 2, 5, 6] rfl rfl rfl rfl ⟨⟨_, rfl, rfl⟩, ⟨_, rfl, rfl⟩, ⟨_, rfl, rfl⟩, ⟨_, rfl, rfl⟩, ⟨_, rfl, rfl⟩, ⟨_, rfl, rfl⟩, trivial⟩ ⟨⟨_, _, rfl, rfl, rfl⟩, ⟨_, _, rfl, rfl, rfl⟩, ⟨_, _, rfl, rfl, rfl⟩, ⟨_, _, rfl, rfl, rfl⟩, trivial⟩ rfl fun h s => sub_same s)⟩
end Go.Proofs.Ytlplbgbnojibmaa

/-
  probe's search: before, first (for Least's question).
-/
namespace Go.Proofs.Ytlplbgbnojibmaa
open Go.RowKit
open Sy
set_option linter.unusedVariables false
set_option linter.unusedSimpArgs false
set_option maxRecDepth 100000
set_option maxHeartbeats 4000000

theorem sBefore (a b : Int × Int) (R : HP) : PureR Try.prog R 109 [cellV a.1 a.2, cellV b.1 b.2] (.bool (befB a b)) := by
  refine fn_of_run0 false Try.func109 rfl hmix rfl fun w0 => ?_
  conv => whnf
  refine ⟨fun h1 => ?_, fun h1 => ?_⟩
  · conv => whnf
    refine ⟨fun h2 => ?_, fun h2 => ?_⟩
    · conv => whnf
      exact ⟨trivial, fin_drop (by unfold befB; rw [h1, h2]; rfl)⟩
    · conv => whnf
      exact ⟨trivial, fin_drop (by unfold befB; rw [h1, h2]; rfl)⟩
  · conv => whnf
    exact ⟨trivial, fin_drop (by unfold befB; rw [h1]; rfl)⟩
theorem sLeast1 {R : HP} {vb : Nat} {m : Int} (v : Int × Int) (hR : ∀ w, Sat R w → w.cell? ⟨vb, 0, none⟩ = some (.int .i64 m)) : PureR Try.prog R 65 [rngV v.1 v.2, .pointer (some ⟨vb, 0, none⟩)] (.bool (decide (v.1 ≤ m))) := by
  refine fn_of_run0 false Try.func65 rfl hmix rfl fun w0 => ?_
  conv => whnf
  refine ⟨trivial, LoadAt.cell (.int .i64 m) rfl rfl (fun w hw => hR w hw) ?_⟩
  conv => whnf
  exact ⟨trivial, fin_drop rfl⟩
structure FiS where
  c : Option Nd
  L : List Nd
  o : (Int × Int) × Bool
  n : Nat
def FiS.ok (W H : Nat) (r : Q4) (F : Nat → Nat → Int × Int) (wt : Int × Int → Bool) (res : (Int × Int) × Bool) (s : FiS) : Prop :=
  goodL W H r (s.L ++ s.c.toList) ∧ muN (s.L ++ s.c.toList) < s.n ∧ muN (s.L ++ s.c.toList) ≤ 5 ^ 12 ∧ fiF W H r F wt s.n (s.L ++ s.c.toList) s.o = res ∧ (s.c = none → s.L = [])
def FiS.of (M : List Nd) (o : (Int × Int) × Bool) (n : Nat) : FiS := ⟨M.getLast?, M.dropLast, o, n⟩
theorem fiStep_good {W H : Nat} {r : Q4} {F : Nat → Nat → Int × Int} {wt : Int × Int → Bool} {L : List Nd} {g : Nd} {o : (Int × Int) × Bool} (hg : goodL W H r (L ++ [g])) : goodL W H r (fiStep W H r F wt g L o).1 := by
  have h0 : goodL W H r L := fun x hx => hg x (by simp [hx])
  unfold fiStep
  split
  · exact h0
  · split
    · exact downS_good hg
    · exact h0
theorem fiStep_mu {W H : Nat} {r : Q4} {F : Nat → Nat → Int × Int} {wt : Int × Int → Bool} {L : List Nd} {g : Nd} {o : (Int × Int) × Bool} : muN (fiStep W H r F wt g L o).1 < muN (L ++ [g]) := by
  unfold fiStep
  split
  · exact mu_drop L g
  · split
    · rename_i hc
      exact downS_mu hc
    · exact mu_drop L g
theorem FiS.next {W H : Nat} {r : Q4} {F : Nat → Nat → Int × Int} {wt : Int × Int → Bool} {res : (Int × Int) × Bool} {g : Nd} {L M : List Nd} {o o' : (Int × Int) × Bool} {n : Nat} (h : FiS.ok W H r F wt res ⟨some g, L, o, n⟩) (e : fiStep W H r F wt g L o = (M, o')) :
    goodL W H r M ∧ muN M ≤ 5 ^ 12 ∧ FiS.ok W H r F wt res (FiS.of M o' (n - 1)) ∧ (FiS.of M o' (n - 1)).n < n := by
  obtain ⟨h1, h2, h3, h4, -⟩ := h
  simp only [Option.toList] at h1 h2 h3 h4
  obtain ⟨m, rfl⟩ : ∃ m, n = m + 1 := ⟨n - 1, by omega⟩
  have a1 := fiStep_good (F := F) (wt := wt) (o := o) h1
  have a2 := fiStep_mu (W := W) (H := H) (r := r) (F := F) (wt := wt) (L := L) (g := g) (o := o)
  rw [fiF_step] at h4
  rw [e] at a1 a2 h4
  simp only at a1 a2 h4
  unfold FiS.ok FiS.of
  simp only [list_back, Nat.add_sub_cancel]
  exact ⟨a1, by omega, ⟨a1, by omega, by omega, h4, last_none⟩, by omega⟩
theorem sFirstL {R : HP} {sb pb vb W H : Nat} {r : Q4} {m : Int} {F : Nat → Nat → Int × Int} (hW : 1 ≤ W ∧ W ≤ 1024) (hH : 1 ≤ H ∧ H ≤ 1024) (hv0 : ∀ w, Sat R w → w.cell? ⟨vb, 0, none⟩ = some (.int .i64 m)) (hp : ∀ w, Sat R w → Sat (pyrH pb W H F) w) :
    FnR Try.prog R 64 [.pointer (some ⟨sb, 0, none⟩), .func (.func 65) #[] #[.pointer (some ⟨vb, 0, none⟩)]] [srchH sb pb W H r (begL W H r)] fun v hs => v = .tuple #[cellV (firstF W H r F fun v => decide (v.1 ≤ m)).1.1 (firstF W H r F fun v => decide (v.1 ≤ m)).1.2, .bool (firstF W H r F fun v => decide (v.1 ≤ m)).2] ∧ hs = [] := by
  have hnext := fun (R' : HP) M (hg : goodL W H r M) (hL : muN M ≤ 5 ^ 12) (h : ∀ w, Sat R' w → Sat (pyrH pb W H F) w) => sNextAny (R := R') (sb := sb) (M := M) hW hH hg (by have := muN_len M; omega) h
  have hkid := fun (R' : HP) g L (hg : Nd.ok W H g) (h0 : 0 < g.k) (hL : muN L ≤ 5 ^ 12) (h : ∀ w, Sat R' w → Sat (pyrH pb W H F) w) => sDown (R := R') (sb := sb) (r := r) (L := L) hW hH hg h0 (by have := muN_len L; omega) h
  have hwt := fun (R' : HP) (v : Int × Int) (h : ∀ w, Sat R' w → Sat R w) => sLeast1 (R := R') v (fun w s => hv0 w (h w s))
  have hst : FiS.ok W H r F (fun v => decide (v.1 ≤ m)) (firstF W H r F fun v => decide (v.1 ≤ m)) (FiS.of (begL W H r) ((0, 0), false) (muN (begL W H r) + 1)) := by
    unfold FiS.ok FiS.of
    simp only [list_back]
    exact ⟨begL_good W H r hW hH, Nat.lt_succ_self _, begL_mu W H r hW hH, rfl, last_none⟩
  have hbg := begL_good W H r hW hH
  have hbm := begL_mu W H r hW hH
  generalize hres : (firstF W H r F fun v => decide (v.1 ≤ m)) = res at *
  generalize muN (begL W H r) + 1 = n0 at *
  generalize begL W H r = M0 at *
  clear hv0
  refine fn_of_run0 false Try.func64 rfl hmix rfl fun w0 => ?_
  conv => whnf
  refine ⟨trivial, CallAt.fn (pre := [srchH sb pb W H r M0]) [] (fun h s => s) (fun R' hR' => hnext R' M0 hbg hbm fun w s => hp w (hR' w s)) ?_⟩
  rintro v hs ⟨rfl, rfl⟩
  conv => whnf
  refine ⟨trivial, LoopAt.of (α := FiS) [0, 1, 4, 6] (fun a => [(7, .k a.o.2), (8, .p 2 0), (9, .p 3 0), (10, .v (.bool a.c.isSome))])
    (fun a => [(3, 30, [.v (.int .i64 (hv W F a.c).1), .v (.int .i64 (hv W F a.c).2)]), (2, 114, [.v (.int .i64 (hk a.c)), .v (.int .i64 (hx a.c)), .v (.int .i64 (hy a.c)), .v (.int .i64 (hsp W H a.c).x0), .v (.int .i64 (hsp W H a.c).y0), .v (.int .i64 (hsp W H a.c).x1), .v (.int .i64 (hsp W H a.c).y1)]), (1, 35, [.v (.int .i64 a.o.1.1), .v (.int .i64 a.o.1.2)]), (0, 35, [.v (.int .i64 0), .v (.int .i64 0)])])
    (fun a => [srchH sb pb W H r a.L]) (FiS.ok W H r F (fun v => decide (v.1 ≤ m)) res) (fun a => a.n) (FiS.of M0 ((0, 0), false) n0) hst
    (Le.of (Nat.le_of_ble_eq_true rfl) (Nat.zero_le _) ⟨⟨rfl, rfl⟩, ⟨rfl, rfl⟩, ⟨rfl, rfl⟩, ⟨rfl, rfl⟩, ⟨rfl, rfl⟩, ⟨rfl, rfl⟩, ⟨rfl, rfl⟩, ⟨rfl, rfl⟩, trivial⟩ ⟨⟨rfl, rfl, rfl, rfl⟩, ⟨rfl, rfl, rfl, rfl⟩, ⟨rfl, rfl, rfl, rfl⟩, ⟨rfl, rfl, rfl, rfl⟩, trivial⟩ fun h s => sub_same s) ?_⟩
  rintro ⟨c, L, ⟨bst, fnd⟩, n⟩ hok
  rcases c with _ | g
  · have hr := hok.2.2.2.1
    have hl := hok.2.2.2.2 rfl
    simp only at hl
    subst hl
    simp only [Option.toList, List.append_nil, fiF_nil] at hr
    subst hr
    conv => whnf
    refine iff_f rfl ?_
    conv => whnf
    exact ⟨trivial, .mk [] (fun w ⟨h, hs, s⟩ => by obtain ⟨h', e, s'⟩ := sub_tail s; exact ⟨h', hs.mono e, s'⟩) ⟨rfl, rfl⟩⟩
  · have hgk := (hok.1 g (by simp))
    conv => whnf
    refine iff_t rfl ?_
    conv => whnf
    refine ⟨trivial, RegAt.joins [((Tr.T 0 (Tr.T 1 (Tr.T 2 (Tr.T 3 (Tr.T 4 (Tr.T 5 (Tr.C 6 (Tr.T 7 (Tr.T 8 (Tr.T 9 (Tr.H 10 (Tr.H 11 Tr.E))))) 10 (Tr.H 6 (Tr.T 7 (Tr.T 8 (Tr.T 9 (Tr.H 11 Tr.E)))))))))))), 12), ((Tr.T 12 Tr.E), 13)] [0, 1, 4, 6, 7, 8, 9, 10] [(11, .p 4 0)] [(4, 25, [.v (.int .i64 (meet (spanQ W H g) r).x0), .v (.int .i64 (meet (spanQ W H g) r).y0), .v (.int .i64 (meet (spanQ W H g) r).x1), .v (.int .i64 (meet (spanQ W H g) r).y1)]),
      (3, 30, [.v (.int .i64 (valN W F g).1), .v (.int .i64 (valN W F g).2)]), (2, 114, [.v (.int .i64 (g.k : Int)), .v (.int .i64 (g.x : Int)), .v (.int .i64 (g.y : Int)), .v (.int .i64 (spanQ W H g).x0), .v (.int .i64 (spanQ W H g).y0), .v (.int .i64 (spanQ W H g).x1), .v (.int .i64 (spanQ W H g).y1)]), (1, 35, [.v (.int .i64 bst.1), .v (.int .i64 bst.2)]), (0, 35, [.v (.int .i64 0), .v (.int .i64 0)])] 5 [srchH sb pb W H r L] hmix (by kernel_rfl) ?_ ?_⟩
    · conv => whnf
      refine ⟨trivial, LoadAt.agg [.int .i64 r.x0, .int .i64 r.y0, .int .i64 r.x1, .int .i64 r.y1] rfl rfl rfl (fun w hw j v hj => ?_) ?_⟩
      · obtain ⟨c0, c1, c2, c3⟩ := srch_fields (hw.in_ 0 rfl)
        rcases j with _ | _ | _ | _ | j
        · simp at hj; rw [← hj]; exact c0
        · simp at hj; rw [← hj]; exact c1
        · simp at hj; rw [← hj]; exact c2
        · simp at hj; rw [← hj]; exact c3
        · simp at hj
      conv => whnf
      refine ⟨?_, ?_⟩
      · refine ⟨trivial, CallAt.pure (fun R' hR' => pMeet (spanQ W H g) r R') ?_⟩
        conv => whnf
        refine ⟨trivial, ⟨⟨rfl, rfl⟩, fun h s => sub_same s⟩, ?_⟩
        conv => whnf
        refine ⟨trivial, ⟨⟨rfl, rfl⟩, fun h s => sub_same s⟩, ?_⟩
        conv => whnf
        refine ⟨trivial, ⟨⟨rfl, rfl⟩, fun h s => sub_same s⟩, ?_⟩
        conv => whnf
        refine ⟨trivial, Le.of (Nat.le_of_ble_eq_true rfl) (Nat.zero_le _) ⟨⟨rfl, rfl⟩, ⟨rfl, rfl⟩, ⟨rfl, rfl⟩, ⟨rfl, rfl⟩, ⟨rfl, rfl⟩, ⟨rfl, rfl⟩, ⟨rfl, rfl⟩, ⟨rfl, rfl⟩, ⟨rfl, rfl⟩, trivial⟩ ⟨⟨rfl, rfl, rfl, rfl⟩, ⟨rfl, rfl, rfl, rfl⟩, ⟨rfl, rfl, rfl, rfl⟩, ⟨rfl, rfl, rfl, rfl⟩, ⟨rfl, rfl, rfl, rfl⟩, trivial⟩ fun h s => sub_same s⟩
      · refine ⟨trivial, ⟨⟨rfl, rfl⟩, fun h s => sub_same s⟩, ?_⟩
        conv => whnf
        refine ⟨trivial, CallAt.pure (fun R' hR' => pMeet (spanQ W H g) r R') ?_⟩
        conv => whnf
        refine ⟨trivial, ⟨⟨rfl, rfl⟩, fun h s => sub_same s⟩, ?_⟩
        conv => whnf
        refine ⟨trivial, ⟨⟨rfl, rfl⟩, fun h s => sub_same s⟩, ?_⟩
        conv => whnf
        refine ⟨trivial, Le.of (Nat.le_of_ble_eq_true rfl) (Nat.zero_le _) ⟨⟨rfl, rfl⟩, ⟨rfl, rfl⟩, ⟨rfl, rfl⟩, ⟨rfl, rfl⟩, ⟨rfl, rfl⟩, ⟨rfl, rfl⟩, ⟨rfl, rfl⟩, ⟨rfl, rfl⟩, ⟨rfl, rfl⟩, trivial⟩ ⟨⟨rfl, rfl, rfl, rfl⟩, ⟨rfl, rfl, rfl, rfl⟩, ⟨rfl, rfl, rfl, rfl⟩, ⟨rfl, rfl, rfl, rfl⟩, ⟨rfl, rfl, rfl, rfl⟩, trivial⟩ fun h s => sub_same s⟩
    · have hm0 : (meet (spanQ W H g) r).x0 = (headN W H r g).1 := rfl
      have hm1 : (meet (spanQ W H g) r).y0 = (headN W H r g).2 := rfl
      rw [hm0, hm1]
      conv => whnf
      refine ⟨trivial, CallAt.pure (fun R' hR' => hwt R' (valN W F g) (fun w s => (hR' w s).rest)) ?_⟩
      conv => whnf
      refine ⟨fun h1 => ?_, fun h1 => ?_⟩
      · cases fnd
        · have hs : fiSkip W H r F (fun v => decide (v.1 ≤ m)) g (bst, false) = false := by unfold fiSkip; rw [h1]; rfl
          conv => whnf
          refine ⟨fun h3 => ?_, fun h3 => ?_⟩
          · have h0 : 0 < g.k := by have := of_decide_eq_true h3; omega
            have e : fiStep W H r F (fun v => decide (v.1 ≤ m)) g L (bst, false) = (downS W H r g L, (bst, false)) := by unfold fiStep; rw [hs, if_neg (by decide), if_pos h0]
            have hmL : muN L ≤ 5 ^ 12 := by
              have h1 := hok.2.2.1
              simp only [Option.toList] at h1
              have := mu_drop L g
              omega
            conv => whnf
            refine ⟨trivial, CallAt.fn (pre := [srchH sb pb W H r L]) [] (fun h s => s) (fun R' hR' => hkid R' g L hgk.1 h0 hmL fun w s => hp w (hR' w s)) ?_⟩
            rintro v hs ⟨rfl, rfl⟩
            conv => whnf
            obtain ⟨m1, m2, m3, m4⟩ := FiS.next hok e
            refine ⟨trivial, CallAt.fn (pre := [srchH sb pb W H r (downS W H r g L)]) [] (fun h s => s) (fun R' hR' => hnext R' (downS W H r g L) m1 m2 fun w s => hp w (hR' w s)) ?_⟩
            rintro v hs ⟨rfl, rfl⟩
            conv => whnf
            exact ⟨trivial, .mk (FiS.of (downS W H r g L) (bst, false) (n - 1)) m3 m4 (Le.pick [0, 1, 6, 7] rfl rfl rfl rfl ⟨⟨_, rfl, rfl⟩, ⟨_, rfl, rfl⟩, ⟨_, rfl, rfl⟩, ⟨_, rfl, rfl⟩, ⟨_, rfl, rfl⟩, ⟨_, rfl, rfl⟩, ⟨_, rfl, rfl⟩, ⟨_, rfl, rfl⟩, trivial⟩ ⟨⟨_, _, rfl, rfl, rfl⟩, ⟨_, _, rfl, rfl, rfl⟩, ⟨_, _, rfl, rfl, rfl⟩, ⟨_, _, rfl, rfl, rfl⟩, trivial⟩ rfl fun h s => sub_same s)⟩
          · have h0 : ¬ 0 < g.k := by have := of_decide_eq_false h3; omega
            have e : fiStep W H r F (fun v => decide (v.1 ≤ m)) g L (bst, false) = (L, (headN W H r g, true)) := by unfold fiStep; rw [hs, if_neg (by decide), if_neg h0]
            conv => whnf
            obtain ⟨m1, m2, m3, m4⟩ := FiS.next hok e
            refine ⟨trivial, CallAt.fn (pre := [srchH sb pb W H r L]) [] (fun h s => s) (fun R' hR' => hnext R' L m1 m2 fun w s => hp w (hR' w s)) ?_⟩
            rintro v hs ⟨rfl, rfl⟩
            conv => whnf
            exact ⟨trivial, .mk (FiS.of L (headN W H r g, true) (n - 1)) m3 m4 (Le.pick [0, 1, 6, 7] rfl rfl rfl rfl ⟨⟨_, rfl, rfl⟩, ⟨_, rfl, rfl⟩, ⟨_, rfl, rfl⟩, ⟨_, rfl, rfl⟩, ⟨_, rfl, rfl⟩, ⟨_, rfl, rfl⟩, ⟨_, rfl, rfl⟩, ⟨_, rfl, rfl⟩, trivial⟩ ⟨⟨_, _, rfl, rfl, rfl⟩, ⟨_, _, rfl, rfl, rfl⟩, ⟨_, _, rfl, rfl, rfl⟩, ⟨_, _, rfl, rfl, rfl⟩, trivial⟩ rfl fun h s => sub_same s)⟩
        · conv => whnf
          refine ⟨trivial, CallAt.pure (fun R' hR' => sBefore (headN W H r g) bst R') ?_⟩
          conv => whnf
          refine ⟨fun h2 => ?_, fun h2 => ?_⟩
          · have hs : fiSkip W H r F (fun v => decide (v.1 ≤ m)) g (bst, true) = true := by unfold fiSkip; rw [h1, h2]; rfl
            have e : fiStep W H r F (fun v => decide (v.1 ≤ m)) g L (bst, true) = (L, (bst, true)) := by unfold fiStep; rw [hs]; rfl
            conv => whnf
            obtain ⟨m1, m2, m3, m4⟩ := FiS.next hok e
            refine ⟨trivial, CallAt.fn (pre := [srchH sb pb W H r L]) [] (fun h s => s) (fun R' hR' => hnext R' L m1 m2 fun w s => hp w (hR' w s)) ?_⟩
            rintro v hs ⟨rfl, rfl⟩
            conv => whnf
            exact ⟨trivial, .mk (FiS.of L (bst, true) (n - 1)) m3 m4 (Le.pick [0, 1, 6, 7] rfl rfl rfl rfl ⟨⟨_, rfl, rfl⟩, ⟨_, rfl, rfl⟩, ⟨_, rfl, rfl⟩, ⟨_, rfl, rfl⟩, ⟨_, rfl, rfl⟩, ⟨_, rfl, rfl⟩, ⟨_, rfl, rfl⟩, ⟨_, rfl, rfl⟩, trivial⟩ ⟨⟨_, _, rfl, rfl, rfl⟩, ⟨_, _, rfl, rfl, rfl⟩, ⟨_, _, rfl, rfl, rfl⟩, ⟨_, _, rfl, rfl, rfl⟩, trivial⟩ rfl fun h s => sub_same s)⟩
          · have hs : fiSkip W H r F (fun v => decide (v.1 ≤ m)) g (bst, true) = false := by unfold fiSkip; rw [h1, h2]; rfl
            conv => whnf
            refine ⟨fun h3 => ?_, fun h3 => ?_⟩
            · have h0 : 0 < g.k := by have := of_decide_eq_true h3; omega
              have e : fiStep W H r F (fun v => decide (v.1 ≤ m)) g L (bst, true) = (downS W H r g L, (bst, true)) := by unfold fiStep; rw [hs, if_neg (by decide), if_pos h0]
              have hmL : muN L ≤ 5 ^ 12 := by
                have h1 := hok.2.2.1
                simp only [Option.toList] at h1
                have := mu_drop L g
                omega
              conv => whnf
              refine ⟨trivial, CallAt.fn (pre := [srchH sb pb W H r L]) [] (fun h s => s) (fun R' hR' => hkid R' g L hgk.1 h0 hmL fun w s => hp w (hR' w s)) ?_⟩
              rintro v hs ⟨rfl, rfl⟩
              conv => whnf
              obtain ⟨m1, m2, m3, m4⟩ := FiS.next hok e
              refine ⟨trivial, CallAt.fn (pre := [srchH sb pb W H r (downS W H r g L)]) [] (fun h s => s) (fun R' hR' => hnext R' (downS W H r g L) m1 m2 fun w s => hp w (hR' w s)) ?_⟩
              rintro v hs ⟨rfl, rfl⟩
              conv => whnf
              exact ⟨trivial, .mk (FiS.of (downS W H r g L) (bst, true) (n - 1)) m3 m4 (Le.pick [0, 1, 6, 7] rfl rfl rfl rfl ⟨⟨_, rfl, rfl⟩, ⟨_, rfl, rfl⟩, ⟨_, rfl, rfl⟩, ⟨_, rfl, rfl⟩, ⟨_, rfl, rfl⟩, ⟨_, rfl, rfl⟩, ⟨_, rfl, rfl⟩, ⟨_, rfl, rfl⟩, trivial⟩ ⟨⟨_, _, rfl, rfl, rfl⟩, ⟨_, _, rfl, rfl, rfl⟩, ⟨_, _, rfl, rfl, rfl⟩, ⟨_, _, rfl, rfl, rfl⟩, trivial⟩ rfl fun h s => sub_same s)⟩
            · have h0 : ¬ 0 < g.k := by have := of_decide_eq_false h3; omega
              have e : fiStep W H r F (fun v => decide (v.1 ≤ m)) g L (bst, true) = (L, (headN W H r g, true)) := by unfold fiStep; rw [hs, if_neg (by decide), if_neg h0]
              conv => whnf
              obtain ⟨m1, m2, m3, m4⟩ := FiS.next hok e
              refine ⟨trivial, CallAt.fn (pre := [srchH sb pb W H r L]) [] (fun h s => s) (fun R' hR' => hnext R' L m1 m2 fun w s => hp w (hR' w s)) ?_⟩
              rintro v hs ⟨rfl, rfl⟩
              conv => whnf
              exact ⟨trivial, .mk (FiS.of L (headN W H r g, true) (n - 1)) m3 m4 (Le.pick [0, 1, 6, 7] rfl rfl rfl rfl ⟨⟨_, rfl, rfl⟩, ⟨_, rfl, rfl⟩, ⟨_, rfl, rfl⟩, ⟨_, rfl, rfl⟩, ⟨_, rfl, rfl⟩, ⟨_, rfl, rfl⟩, ⟨_, rfl, rfl⟩, ⟨_, rfl, rfl⟩, trivial⟩ ⟨⟨_, _, rfl, rfl, rfl⟩, ⟨_, _, rfl, rfl, rfl⟩, ⟨_, _, rfl, rfl, rfl⟩, ⟨_, _, rfl, rfl, rfl⟩, trivial⟩ rfl fun h s => sub_same s)⟩
      · have hs : fiSkip W H r F (fun v => decide (v.1 ≤ m)) g (bst, fnd) = true := by unfold fiSkip; rw [h1]; rfl
        have e : fiStep W H r F (fun v => decide (v.1 ≤ m)) g L (bst, fnd) = (L, (bst, fnd)) := by unfold fiStep; rw [hs]; rfl
        conv => whnf
        obtain ⟨m1, m2, m3, m4⟩ := FiS.next hok e
        refine ⟨trivial, CallAt.fn (pre := [srchH sb pb W H r L]) [] (fun h s => s) (fun R' hR' => hnext R' L m1 m2 fun w s => hp w (hR' w s)) ?_⟩
        rintro v hs ⟨rfl, rfl⟩
        conv => whnf
        exact ⟨trivial, .mk (FiS.of L (bst, fnd) (n - 1)) m3 m4 (Le.pick [0, 1, 6, 7] rfl rfl rfl rfl ⟨⟨_, rfl, rfl⟩, ⟨_, rfl, rfl⟩, ⟨_, rfl, rfl⟩, ⟨_, rfl, rfl⟩, ⟨_, rfl, rfl⟩, ⟨_, rfl, rfl⟩, ⟨_, rfl, rfl⟩, ⟨_, rfl, rfl⟩, trivial⟩ ⟨⟨_, _, rfl, rfl, rfl⟩, ⟨_, _, rfl, rfl, rfl⟩, ⟨_, _, rfl, rfl, rfl⟩, ⟨_, _, rfl, rfl, rfl⟩, trivial⟩ rfl fun h s => sub_same s)⟩
end Go.Proofs.Ytlplbgbnojibmaa

/-
  probe.Least; the awake of law 17.
-/
namespace Go.Proofs.Ytlplbgbnojibmaa
open Go.RowKit
open Sy
set_option linter.unusedVariables false
set_option linter.unusedSimpArgs false
set_option maxRecDepth 100000
set_option maxHeartbeats 4000000

theorem sPLeast {R : HP} {pb W H : Nat} {r : Q4} {F : Nat → Nat → Int × Int} {m : Int} {p : (Int × Int) × Bool} (hW : 1 ≤ W ∧ W ≤ 1024) (hH : 1 ≤ H ∧ H ≤ 1024) (hb : withinZ r.x0 r.y0 r.x1 r.y1 W H = 0) (hp : ∀ w, Sat R w → Sat (pyrH pb W H F) w) (hm : (rangeF W H r F).1 = m) (hpp : (firstF W H r F fun v => decide (v.1 ≤ m)) = p) :
    PureR Try.prog R 17 [.pointer (some ⟨pb, 0, none⟩), r.v] (.tuple #[.int .i64 m, cellV p.1.1 p.1.2, .int .i64 0]) := by
  have hrg := fun R' (h : ∀ w, Sat R' w → Sat (pyrH pb W H F) w) => sPRange (R := R') hW hH hb h
  have hbeg := fun R' (h : ∀ w, Sat R' w → Sat (pyrH pb W H F) w) => sBegin (R := R') hW hH hb h
  have hfi := fun (R' : HP) sb vb (h1 : ∀ w, Sat R' w → w.cell? ⟨vb, 0, none⟩ = some (.int .i64 m)) (h : ∀ w, Sat R' w → Sat (pyrH pb W H F) w) => sFirstL (R := R') (sb := sb) (vb := vb) (r := r) (m := m) hW hH h1 h
  rw [hpp] at hfi
  change ∀ R' : HP, _ → FnR Try.prog R' _ _ [] fun v hs => ∃ sb, v = .tuple #[.pointer (some ⟨sb, 0, none⟩), .int .i64 0] ∧ hs = [srchH sb pb W H r (begL W H r)] at hbeg
  rw [hm] at hrg
  generalize (rangeF W H r F).2 = M at *
  refine fn_of_run0 false Try.func17 rfl hmix rfl fun w0 => ?_
  conv => whnf
  refine ⟨trivial, CallAt.pure (fun R' hR' => hrg R' (fun w s => hp w (hR' w s))) ?_⟩
  conv => whnf
  refine iff_f (by decide) ?_
  conv => whnf
  refine ⟨trivial, CallAt.fn (pre := []) [] (fun h s => s) (fun R' hR' => hbeg R' fun w s => hp w (hR' w s)) ?_⟩
  rintro v hs ⟨sb, rfl, rfl⟩
  conv => whnf
  intro vb _
  conv => whnf
  refine ⟨trivial, CallAt.fn (pre := [srchH sb pb W H r (begL W H r)]) [blkH vb 30 #[.int .i64 m, .int .i64 M]] (fun h s => sepL_pull 1 s) (fun R' hR' => hfi R' sb vb (fun w s => blk_at ((hR' w s).in_ 0 rfl) rfl) fun w s => hp w (hR' w s).rest) ?_⟩
  rintro v hs ⟨rfl, rfl⟩
  conv => whnf
  refine ⟨trivial, RegAt.tail 4 hmix (by kernel_rfl) ?_⟩
  conv => whnf
  refine ⟨trivial, LoadAt.cell (.int .i64 m) rfl rfl (fun w hw => blk_at (hw.in_ 0 rfl) rfl) ?_⟩
  conv => whnf
  refine ⟨trivial, ?_⟩
  conv => whnf
  exact ⟨trivial, .mk [] (fun w ⟨h, hs, s⟩ => by obtain ⟨h', e, s'⟩ := sub_tail s; exact ⟨h', hs.mono e, s'⟩) ⟨rfl, rfl⟩⟩
def F17 : Nat → Nat → Int × Int := Pf 3 1 (gv 3 [3, 1, 1])
theorem r17 : (rangeF 3 1 ⟨0, 0, 2, 0⟩ F17).1 = 1 := by kernel_rfl
theorem p17 : (firstF 3 1 ⟨0, 0, 2, 0⟩ F17 fun v => decide (v.1 ≤ 1)) = ((1, 0), true) := by kernel_rfl
theorem sAwake17 (R : HP) : PureR Try.prog R 15 [] (.bool true) := by
  have hle := fun (pb : Nat) (R' : HP) hR' => sPLeast (R := R') (pb := pb) (W := 3) (H := 1) (r := ⟨0, 0, 2, 0⟩) (F := F17) (by omega) (by omega) (by decide) hR' r17 p17
  refine fn_of_run0 false Try.func15 rfl hmix rfl fun w0 => ?_
  conv => whnf
  refine ⟨trivial, OpAt.lit [.int .i64 3, .int .i64 1, .int .i64 1] 1 rfl rfl rfl rfl rfl (by decide) rfl rfl rfl (by simp [Value.cells]) rfl (by decide) fun g => ?_⟩
  conv => whnf
  refine ⟨trivial, CallAt.fn (pre := []) _ (fun h s => s) (fun R' hR' => sFrom (W := 3) (H := 1) (l := [3, 1, 1]) (Vs.row fun w s => (hR' w s).in_ 0 rfl) (by simp [MayV]) (by decide) (by decide) (by decide) (by decide) rfl) ?_⟩
  rintro r hs ⟨gb, rfl, rfl⟩
  conv => whnf
  refine ⟨trivial, CallAt.fn (pre := []) _ (fun h s => s) (fun R' hR' => sBuild (gridAt_rest 0 rfl hR')) ?_⟩
  rintro r hs ⟨pb, rfl, rfl⟩
  conv => whnf
  refine ⟨trivial, CallAt.pure (fun R' hR' => gAll_p (gridAt_rest 1 rfl hR')) ?_⟩
  conv => whnf
  refine ⟨trivial, CallAt.pure (fun R' hR' => hle pb R' (fun w s => (hR' w s).in_ 0 rfl)) ?_⟩
  conv => whnf
  repeat (first | (refine ⟨fun _ => ?_, fun h => absurd h (by decide)⟩; conv => whnf) | (refine ⟨fun h => absurd h (by decide), fun _ => ?_⟩; conv => whnf))
  refine ⟨trivial, OpAt.aggEq rfl rfl rfl rfl (by kernel_rfl) (fun w => eq_agg 4 (by rfl) (by decide) (r := true) (by kernel_rfl) w) ?_⟩
  conv => whnf
  exact ⟨trivial, .mk [] (fun w ⟨h, hs, s⟩ => by obtain ⟨h', e, s'⟩ := sub_nil s; exact ⟨h', hs.mono e, s'⟩) ⟨rfl, rfl⟩⟩
end Go.Proofs.Ytlplbgbnojibmaa

