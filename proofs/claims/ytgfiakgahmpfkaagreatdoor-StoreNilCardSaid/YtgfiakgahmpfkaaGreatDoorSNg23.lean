/-
  Texts of the proofs, one behind the other: SyTree, SyPick, SyJoinE, Lay, From, TierN, DownF, Level, GridAt, DownNil.
-/
import Derived.Test.YtgfiakgahmpfkaaGreatDoorSNg05
import Derived.Test.YtgfiakgahmpfkaaGreatDoorSNg21
import Derived.Test.YtgfiakgahmpfkaaGreatDoorSNg09
namespace Go.Proofs.YtgfiakgahmpfkaaGreatDoor
open Go.RowKit
namespace Sy
set_option linter.unusedVariables false
set_option linter.unusedSimpArgs false

inductive Tr | E | T (k : Nat) (r : Tr) | H (k : Nat) (r : Tr) | C (k : Nat) (r : Tr) (j : Nat) (s : Tr) | D (k : Nat) (r : Tr) (j : Nat) (s : Tr) (i : Nat) (t : Tr)
def Tr.len : Tr → Nat
  | .E => 0
  | .T _ r => r.len + 1
  | .H _ r => r.len + 1
  | .C _ r _ _ => r.len + 1
  | .D _ r _ _ _ _ => r.len + 1
def treeB (ops : Array Oper) (n : Nat) (F : Array Bool → Bool) : Tr → Array Bool → Bool
  | .E, ls => F ls && (Region.ready .any ops ls).all fun j => decide (n ≤ j)
  | .T k r, ls => decide (k < n) && ((Region.ready .any ops ls).contains k && (Region.free .any ops ls k && treeB ops n F r (ls.setIfInBounds k true)))
  | .H k r, ls => decide (k < n) && (decide (Region.ready .any ops ls = [k]) && treeB ops n F r (ls.setIfInBounds k true))
  | .C k r j s, ls => decide (k < n) && (decide (j < n) && (decide (Region.ready .any ops ls = [k, j]) && (decide (r.len = s.len) && (treeB ops n F r (ls.setIfInBounds k true) && treeB ops n F s (ls.setIfInBounds j true)))))
  | .D k r j s i t, ls => decide (k < n) && (decide (j < n) && (decide (i < n) && (decide (Region.ready .any ops ls = [k, j, i]) && ((decide (r.len = s.len) && decide (r.len = t.len)) && (treeB ops n F r (ls.setIfInBounds k true) && (treeB ops n F s (ls.setIfInBounds j true) && treeB ops n F t (ls.setIfInBounds i true)))))))
def treesB (ops : Array Oper) : List (Tr × Nat) → Array Bool → Bool
  | [], ls => decide (Region.ready .any ops ls = [])
  | (g, n) :: r, ls => (decide (ops.size ≤ n) || (decide (n < ops.size) && (Region.sinkB .any ops n && chainW ops n))) && (headW ops n ls && treeB ops n (fun ls' => treesB ops r ls') g ls)
def treeLen : List (Tr × Nat) → Nat
  | [] => 0
  | (g, _) :: r => g.len + treeLen r
def treesOk (l : List Oper) (gs : List (Tr × Nat)) : Bool := Region.noSelect l.toArray && (decide (treeLen gs = l.length) && treesB l.toArray gs (Array.replicate l.toArray.size false))

/-- an operation that only computes or reads, at the memory of the group's start -/
def opT2 (G : Gl) (st0 : St) (o : Oper) (st : St) (K : St → Prop) : Prop :=
  match o.op with
  | .load t x => ev st x False fun vx => match vx with
    | .v (.pointer (some ad)) => stp st fun st => LoadAt G t ad st0 fun r => putK G st o.dst r none K
    | _ => q1 G.P G.tr st o False fun r q => putK G st o.dst r q K
  | _ => q1 G.P G.tr st o False fun r q => putK G st o.dst r q K
def TakeT2 (G : Gl) (st0 : St) (o : Oper) (st : St) (K : St → Prop) : Prop :=
  st.c ∧ ∀ ρ m a w0, Tm G st (ρ ++ m) a → Mem G st0 ρ w0 → ∃ v st', K st' ∧ SameM st st' ∧ (∀ w, Mem G st0 ρ w → (execOp a.eval o).run G.P w = .ok (.value v) w) ∧ Tm G st' (ρ ++ m) (a.put o.dst v)
theorem ob_ext {G : Gl} {st0 st : St} {ρ : List Nat} {w : World} (mm : Mem G st0 ρ w) (ho : st.o = st0.o) (m : List Nat) : Ob st (ρ ++ m) w := by
  intro x hx
  rw [ho] at hx
  obtain ⟨b, cs, e1, e2, e3⟩ := mm.ob x hx
  refine ⟨b, cs, ?_, denL_ext m e2, e3⟩
  rw [List.getElem?_append_left (List.getElem?_eq_some_iff.1 e1).1]
  exact e1
theorem take_q2 {G : Gl} {st0 : St} {o : Oper} {st : St} {K : St → Prop} (ho : st.o = st0.o) (hK : Good K) (h : q1 G.P G.tr st o False fun r q => putK G st o.dst r q K) : TakeT2 G st0 o st K := by
  rcases q1_sound h with h | ⟨x, q, h, hy⟩
  · exact h.elim
  · obtain ⟨⟨hc, hq⟩, hp⟩ := putK_same h hK
    refine ⟨hc, fun ρ m a w0 tm mm0 => ?_⟩
    have hy := hy hq
    obtain ⟨v, e1, e2⟩ := hy G (ρ ++ m) a w0 tm (ob_ext mm0 ho m)
    obtain ⟨st', k, hs, m'⟩ := hp (ρ ++ m) a v e1 tm
    refine ⟨v, st', k, hs, fun w' mm' => ?_, m'⟩
    obtain ⟨v', e3, e4⟩ := hy G (ρ ++ m) a w' tm (ob_ext mm' ho m)
    rw [e1] at e3
    injection e3 with e3
    subst e3
    exact e4
theorem opT2_sound {G : Gl} {st0 : St} {o : Oper} {st : St} {K : St → Prop} (ho : st.o = st0.o) (h : opT2 G st0 o st K) (hK : Good K) : TakeT2 G st0 o st K := by
  unfold opT2 at h
  split at h
  case h_1 t x hop =>
    rcases ev_sound h with h | ⟨sx, h, ex⟩
    · exact h.elim
    split at h
    · rename_i ad
      obtain ⟨hc, ⟨r, hr, h⟩⟩ := stp_iff.1 h
      refine ⟨hc, fun ρ m a w0 tm mm0 => ?_⟩
      obtain ⟨_, hp⟩ := putK_same h hK
      obtain ⟨st', k, hs, m'⟩ := hp (ρ ++ m) a r rfl (tm.same rfl)
      refine ⟨r, st', k, hs, fun w mm => ?_, m'⟩
      have h1 := ex G (ρ ++ m) a tm
      simp only [SV.den, Option.some.injEq] at h1
      simp [execOp, hop, ← h1, hr ρ w mm]
    · exact take_q2 ho hK h
  case h_2 => exact take_q2 ho hK h
theorem optT2_good {G : Gl} {st0 : St} {all : List Oper} {o : Oper} {F : St → Prop} (hF : Good F) : ∀ st, st.o = st0.o → opsG (opT2 G st0) G all [o] st F → st.c := by
  intro st hst h
  unfold opsG at h
  have e : ∀ st, opsG (opT2 G st0) G all [] st F = F st := fun st => rfl
  simp only [e] at h
  split at h
  · exact (opT2_sound hst h hF).1
  · rename_i j want hg
    split at h
    · split at h
      · split at h
        · split at h
          · exact (opT2_sound hst h hF).1
          · exact (putK_same h hF).1.1
        · rename_i b hx
          by_cases hb : b = want
          · exact (opT2_sound (st := Sy.seen st _ _) hst (h.1 hb) hF).1
          · exact (putK_same (h.2 (by cases b <;> cases want <;> simp_all)) hF).1.1
        · exact (putK_same h hF).1.1
        · exact h.elim
      · exact h.elim
    · exact h.elim
theorem takeG2 {G : Gl} {st0 : St} {all : List Oper} {o : Oper} {st : St} {F : St → Prop} (hst : st.o = st0.o) (h : opsG (opT2 G st0) G all [o] st F) (hF : Good F) {ρ m0 : List Nat} {a : Act} {w0 : World} (m : Tm G st (ρ ++ m0) a) (mm : Mem G st0 ρ w0) :
    ∃ v st', F st' ∧ SameM st st' ∧ Tm G st' (ρ ++ m0) (a.put o.dst v) ∧ YieldsIf G.P all.toArray (Mem G st0 ρ) o v a := by
  unfold opsG at h
  have e : ∀ st, opsG (opT2 G st0) G all [] st F = F st := fun st => rfl
  simp only [e] at h
  have yes : ∀ st1 : St, SameM st st1 → Tm G st1 (ρ ++ m0) a → opT2 G st0 o st1 F → Region.wanted o (yielded all.toArray a.tmps) = true → ∃ v st', F st' ∧ SameM st st' ∧ Tm G st' (ρ ++ m0) (a.put o.dst v) ∧ YieldsIf G.P all.toArray (Mem G st0 ρ) o v a := by
    intro st1 s1 m1 h hwt
    obtain ⟨_, hq⟩ := opT2_sound (s1.1.trans hst) h hF
    obtain ⟨v, st', k', s2, hr', m'⟩ := hq ρ m0 a w0 m1 mm
    exact ⟨v, st', k', ⟨s2.1.trans s1.1, s2.2.1.trans s1.2.1, s2.2.2.trans s1.2.2⟩, m', .inl ⟨hwt, fun w hw => hr' w hw⟩⟩
  have no : ∀ st1 : St, SameM st st1 → Tm G st1 (ρ ++ m0) a → putK G st1 o.dst (.v undef) none F → Region.wanted o (yielded all.toArray a.tmps) = false → ∃ v st', F st' ∧ SameM st st' ∧ Tm G st' (ρ ++ m0) (a.put o.dst v) ∧ YieldsIf G.P all.toArray (Mem G st0 ρ) o v a := by
    intro st1 s1 m1 h hwt
    obtain ⟨_, hp⟩ := putK_same h hF
    obtain ⟨st', k', s2, m'⟩ := hp (ρ ++ m0) a undef rfl m1
    exact ⟨undef, st', k', ⟨s2.1.trans s1.1, s2.2.1.trans s1.2.1, s2.2.2.trans s1.2.2⟩, m', .inr ⟨hwt, rfl⟩⟩
  split at h
  · rename_i hg
    exact yes st ⟨rfl, rfl, rfl⟩ m h (wanted_none hg _)
  · rename_i j want hg
    split at h
    · rename_i oj hj
      split at h
      · rename_i t ht
        split at h
        · rename_i b hx
          split at h
          · rename_i hb
            exact yes st ⟨rfl, rfl, rfl⟩ m h (by rw [wanted_eq hg hj ht hx rfl m, hb])
          · rename_i hb
            exact no st ⟨rfl, rfl, rfl⟩ m h (by rw [wanted_eq hg hj ht hx rfl m, hb])
        · rename_i b hx
          by_cases hb : b = want
          · subst hb
            exact yes (seen st t b) ⟨rfl, rfl, rfl⟩ (seen_tm m hx) (h.1 rfl) (by rw [wanted_eq hg hj ht hx rfl m]; simp)
          · have hb' : b = !want := by cases b <;> cases want <;> simp_all
            subst hb'
            exact no (seen st t (!want)) ⟨rfl, rfl, rfl⟩ (seen_tm m hx) (h.2 rfl) (by rw [wanted_eq hg hj ht hx rfl m]; simp)
        · rename_i hx
          exact no st ⟨rfl, rfl, rfl⟩ m h (wanted_undef hg hj ht hx m)
        · exact h.elim
      · exact h.elim
    · exact h.elim

/-- what a group leaves as it was: new objects may be there -/
def Kept2 (G : Gl) (st0 st : St) : Prop := (st.o.drop (st.o.length - st0.o.length) = st0.o ∧ Nat.ble st0.n st.n = true) ∧ ∀ h, sepL st.h G.R h → ∃ h', (∀ i o, h' i = some o → h i = some o) ∧ sepL st0.h G.R h'
def heavyG (G : Gl) (all : List Oper) (kp : Bool) (st0 : St) (k : Nat) (st : St) (K : St → Prop) : Prop := match all[k]? with
  | some o => match o.guard with
    | none => op1 G o st fun st => match kp with
      | true => stp st fun st => Kept2 G st0 st ∧ K st
      | false => stp st K
    | some _ => False
  | none => False
def Tr.hasT : Tr → Bool
  | .E => false
  | .T _ _ => true
  | .H _ r => r.hasT
  | .C _ r _ s => r.hasT || s.hasT
  | .D _ r _ s _ t => r.hasT || s.hasT || t.hasT
/-- with the objects of the group's start, and back -/
def atS (st0 st : St) : St := ⟨st.t, st0.o, st0.n, st.h, st.c⟩
def atK (st0 st : St) (K : St → Prop) : Prop := match st0, st with
  | ⟨_, o, n, _, _⟩, ⟨t, _, _, h, c⟩ => K ⟨t, o, n, h, c⟩
def reK (st st' : St) (K : St → Prop) : Prop := match st, st' with
  | ⟨_, o, n, h, _⟩, ⟨t, _, _, _, c⟩ => K ⟨t, o, n, h, c⟩
def asK (st : St) (K : St → Prop) : Prop := match st with
  | ⟨t, o, n, h, c⟩ => K ⟨t, o, n, h, c⟩
theorem atK_eq (st0 st : St) (K : St → Prop) : atK st0 st K = K (atS st0 st) := by cases st0; cases st; rfl
theorem reK_eq (st st' : St) (K : St → Prop) : reK st st' K = K ⟨st'.t, st.o, st.n, st.h, st'.c⟩ := by cases st; cases st'; rfl
theorem asK_eq (st : St) (K : St → Prop) : asK st K = K st := by cases st; rfl
def treeG (G : Gl) (all : List Oper) (kp : Bool) (st0 : St) : Tr → St → (St → Prop) → Prop
  | .E, st, K => K st
  | .T k r, st, K => match kp with
    | true => match all[k]? with
      | some o => atK st0 st fun s1 => opsG (opT2 G st0) G all [o] s1 fun st' => reK st st' fun st'' => treeG G all kp st0 r st'' K
      | none => False
    | false => False
  | .H k r, st, K => heavyG G all kp st0 k st fun st => treeG G all kp st0 r st K
  | .C k r j s, st, K => (heavyG G all kp st0 k st fun st => treeG G all kp st0 r st K) ∧ (heavyG G all kp st0 j st fun st => treeG G all kp st0 s st K)
  | .D k r j s i t, st, K => (heavyG G all kp st0 k st fun st => treeG G all kp st0 r st K) ∧ (heavyG G all kp st0 j st fun st => treeG G all kp st0 s st K) ∧ (heavyG G all kp st0 i st fun st => treeG G all kp st0 t st K)
def treesG (G : Gl) (all : List Oper) : List (Tr × Nat) → St → (St → Prop) → Prop
  | [], st, K => stp st K
  | (g, _) :: r, st, K => asK st fun st => treeG G all g.hasT st g st fun st => treesG G all r st K
theorem heavy_op {G : Gl} {kp : Bool} {st0 : St} {o : Oper} {st : St} {K : St → Prop} (h : op1 G o st fun st => match kp with | true => stp st fun st => Kept2 G st0 st ∧ K st | false => stp st K) : op1 G o st fun st => stp st fun st => (kp = true → Kept2 G st0 st) ∧ K st := by
  cases kp with
  | true =>
    have e : (fun st => stp st fun st => Kept2 G st0 st ∧ K st) = fun st => stp st fun st => (true = true → Kept2 G st0 st) ∧ K st := by simp
    rw [← e]
    exact h
  | false =>
    have e : (fun st => stp st K) = fun st => stp st fun st => (false = true → Kept2 G st0 st) ∧ K st := by simp
    rw [← e]
    exact h
theorem heavy_good {G : Gl} {all : List Oper} {kp : Bool} {st0 : St} {k : Nat} {K : St → Prop} : Good fun st => heavyG G all kp st0 k st K := fun st h => by
  unfold heavyG at h
  split at h
  · split at h
    · exact (op1_sound (heavy_op h) good_stp).1
    · exact h.elim
  · exact h.elim
theorem treeG_good {G : Gl} {all : List Oper} {kp : Bool} {st0 : St} {K : St → Prop} (hK : Good K) : ∀ g : Tr, Good fun st => treeG G all kp st0 g st K
  | .E => hK
  | .T k r => fun st h => by
    unfold treeG at h
    split at h
    · split at h
      · rw [atK_eq] at h
        simp only [reK_eq] at h
        have := optT2_good (st0 := st0) (F := fun st' => treeG G all true st0 r ⟨st'.t, st.o, st.n, st.h, st'.c⟩ K) (fun st' h' => treeG_good hK r ⟨st'.t, st.o, st.n, st.h, st'.c⟩ h') (atS st0 st) rfl h
        exact this
      · exact h.elim
    · exact h.elim
  | .H k r => fun st h => heavy_good _ h
  | .C k r j s => fun st h => heavy_good _ h.1
  | .D k r j s i t => fun st h => heavy_good _ h.1
theorem treesG_good {G : Gl} {all : List Oper} {K : St → Prop} : ∀ gs : List (Tr × Nat), Good fun st => treesG G all gs st K
  | [] => good_stp
  | (g, n) :: r => fun st h => by
    have h : asK st fun st => treeG G all g.hasT st g st fun st => treesG G all r st K := h
    rw [asK_eq] at h
    exact treeG_good (treesG_good r) g _ h

/-- the memory at the group's start still stands -/
structure Since (G : Gl) (st0 st : St) (ρ0 ρ : List Nat) (w : World) : Prop where
  ext : ∃ m, ρ = ρ0 ++ m
  mem : Mem G st0 ρ0 w
theorem kept_since {G : Gl} {st0 st : St} {ρ0 ρ : List Nat} {w0 w : World} (mm0 : Mem G st0 ρ0 w0) (hx : ∃ m, ρ = ρ0 ++ m) (mm : Mem G st ρ w) (hk : Kept2 G st0 st) : Mem G st0 ρ0 w := by
  obtain ⟨m1, m2, m3, m4, m5, m6, mk, hh, m7, m8, m9⟩ := mm
  obtain ⟨⟨e1, e2⟩, e3⟩ := hk
  obtain ⟨q, rfl⟩ := hx
  have hsub : ∀ x ∈ st0.o, x ∈ st.o := fun x hx => by rw [← e1] at hx; exact List.mem_of_mem_drop hx
  have at_ : ∀ x ∈ st0.o, (ρ0 ++ q)[x.1]? = ρ0[x.1]? := fun x hx => by
    obtain ⟨b, cs, g1, _⟩ := mm0.ob x hx
    rw [List.getElem?_append_left (List.getElem?_eq_some_iff.1 g1).1]
  obtain ⟨h', s1, s2⟩ := e3 hh m8
  refine ⟨m1, mm0.len, (List.nodup_append.1 m3).1, fun b hb => m4 b (List.mem_append_left _ hb), mm0.no, fun x hx => ?_, mm0.kn, h', m7.mono s1, s2, fun x hx b hb => ?_⟩
  · obtain ⟨b, cs, g1, g2, g3⟩ := m6 x (hsub x hx)
    obtain ⟨b', cs', f1, f2, _⟩ := mm0.ob x hx
    rw [at_ x hx] at g1
    have := denL_ext q f2
    rw [g2] at this
    injection this with this
    subst this
    exact ⟨b, cs, g1, f2, g3⟩
  · have := m9 x (hsub x hx) b (by rw [at_ x hx]; exact hb)
    cases e' : h' b with
    | none => rfl
    | some ob => rw [s1 b ob e'] at this; cases this
theorem heavy_step {G : Gl} {all : List Oper} {Q : Exit → Act → World → Prop} {F : Array Bool → Bool} {K : St → Prop} {n : Nat} {kp : Bool} {st0 : St} {ρ0 : List Nat} {ls : Array Bool} {st : St} {ρ : List Nat} {a : Act} {w : World} (hx : ∀ e a w, PXE G e a w → Q e a w) (inv : HeadInv .any all.toArray n ls) (m : Tm G st ρ a) (mm : Mem G st ρ w) (hk : kp = true → Since G st0 st ρ0 ρ w)
    (i : Nat) (t : Tr) (hi : i ∈ Region.ready .any all.toArray ls) (hin : i < n) (hB : treeB all.toArray n F t (ls.setIfInBounds i true) = true) (h : heavyG G all kp st0 i st fun st => treeG G all kp st0 t st K)
    (ih : ∀ ls st ρ a w, HeadInv .any all.toArray n ls → treeB all.toArray n F t ls = true → treeG G all kp st0 t st K → Tm G st ρ a → Mem G st ρ w → (kp = true → Since G st0 st ρ0 ρ w) → HdG G.P all.toArray Q (fun w => kp = true → Mem G st0 ρ0 w) n (fun ls a w => (F ls = true ∧ (Region.ready .any all.toArray ls).all (fun j => decide (n ≤ j)) = true) ∧ ∃ st ρ, K st ∧ Tm G st ρ a ∧ Mem G st ρ w) t.len ls a w) :
    wpOp G.P all.toArray Q i (fun a' w' => (kp = true → Mem G st0 ρ0 w') ∧ HdG G.P all.toArray Q (fun w => kp = true → Mem G st0 ρ0 w) n (fun ls a w => (F ls = true ∧ (Region.ready .any all.toArray ls).all (fun j => decide (n ≤ j)) = true) ∧ ∃ st ρ, K st ∧ Tm G st ρ a ∧ Mem G st ρ w) t.len (ls.setIfInBounds i true) a' w') a w := by
  unfold heavyG at h
  split at h
  · rename_i o ho'
    have ho2 : all.toArray[i]? = some o := by simpa using ho'
    split at h
    · rename_i hg
      unfold wpOp
      simp only [ho2]
      rw [if_pos (wanted_none hg _)]
      left
      refine Oper.wp_mono (fun a' w' ⟨st', ρ', k', m', mm', ex'⟩ => ?_) ((op1_soundX (heavy_op h) good_stp).2 ρ a w Q hx m mm)
      obtain ⟨_, hkeep, k'⟩ := stp_iff.1 k'
      have mm2 : kp = true → Since G st0 { st' with c := True } ρ0 ρ' w' := fun hkp => by
        have hk := hk hkp
        obtain ⟨q, rfl⟩ := hk.ext
        obtain ⟨q', rfl⟩ := ex'
        have hx : ∃ m, ρ0 ++ q ++ q' = ρ0 ++ m := ⟨q ++ q', by rw [List.append_assoc]⟩
        exact ⟨hx, kept_since hk.mem hx (mm'.same (st' := { st' with c := True }) rfl rfl rfl) (hkeep hkp)⟩
      exact ⟨fun e => (mm2 e).mem, ih _ _ _ a' w' (inv.set hi hin) hB k' (m'.same rfl) (mm'.same rfl rfl rfl) mm2⟩
    · exact h.elim
  · exact h.elim
theorem tree_sound {G : Gl} {all : List Oper} {Q : Exit → Act → World → Prop} {F : Array Bool → Bool} {K : St → Prop} {n : Nat} {kp : Bool} {st0 : St} {ρ0 : List Nat} (hx : ∀ e a w, PXE G e a w → Q e a w) (hsel : Region.noSelect all.toArray = true) (hQ : ∀ o ∈ all, ∀ v c a w, Q (.panic c) (Act.put a o.dst v) w → Q (.panic c) a w) (hn : wallB all.toArray n) (hK : Good K) :
    ∀ (g : Tr) (ls : Array Bool) (st : St) (ρ : List Nat) (a : Act) (w : World), HeadInv .any all.toArray n ls → treeB all.toArray n F g ls = true → treeG G all kp st0 g st K → Tm G st ρ a → Mem G st ρ w → (kp = true → Since G st0 st ρ0 ρ w) →
      HdG G.P all.toArray Q (fun w => kp = true → Mem G st0 ρ0 w) n (fun ls a w => (F ls = true ∧ (Region.ready .any all.toArray ls).all (fun j => decide (n ≤ j)) = true) ∧ ∃ st ρ, K st ∧ Tm G st ρ a ∧ Mem G st ρ w) g.len ls a w
  | .E, ls, st, ρ, a, w, inv, hB, h, m, mm, hk => by
    simp only [treeB, Bool.and_eq_true] at hB
    exact ⟨hB, st, ρ, h, m, mm⟩
  | .T k r, ls, st, ρ, a, w, inv, hB, h, m, mm, hk => by
    simp only [treeB, Bool.and_eq_true, decide_eq_true_eq] at hB
    obtain ⟨hkn, hr, hf, hB⟩ := hB
    unfold treeG at h
    split at h
    rotate_left
    · exact h.elim
    have hk := hk rfl
    split at h
    · rename_i o ho'
      have ho2 : all.toArray[k]? = some o := by simpa using ho'
      have hr' : k ∈ Region.ready .any all.toArray ls := by simpa using hr
      rw [atK_eq] at h
      simp only [reK_eq] at h
      obtain ⟨q, rfl⟩ := hk.ext
      have m1 : Tm G (atS st0 st) (ρ0 ++ q) a := m.same rfl
      obtain ⟨v, st', k', s', m', hy⟩ := takeG2 (st0 := st0) (st := atS st0 st) (F := fun st' => treeG G all true st0 r ⟨st'.t, st.o, st.n, st.h, st'.c⟩ K) rfl h (fun st' h' => treeG_good hK r ⟨st'.t, st.o, st.n, st.h, st'.c⟩ h') m1 hk.mem
      refine HdG.take ho2 hsel hn hkn (fun c a w => hQ _ (List.mem_of_getElem? ho') _ c a w) (fun ls a w hL j hj => ?_) r.len ls a w inv (Region.free_spec ho2 hf) hr' (hy.imp_left fun ⟨h1, h2⟩ => ⟨h1, fun w hw => h2 w (hw rfl)⟩) (fun _ => hk.mem) ?_
      · have := List.all_eq_true.1 hL.1.2 j hj
        simpa using this
      · exact tree_sound hx hsel hQ hn hK r _ _ (ρ0 ++ q) _ w (inv.set hr' hkn) hB k' (m'.same rfl) (mm.same rfl rfl rfl) fun _ => ⟨⟨q, rfl⟩, hk.mem⟩
    · exact h.elim
  | .H k r, ls, st, ρ, a, w, inv, hB, h, m, mm, hk => by
    simp only [treeB, Bool.and_eq_true, decide_eq_true_eq] at hB
    obtain ⟨hkn, hr, hB⟩ := hB
    have hr' : k ∈ Region.ready .any all.toArray ls := by rw [hr]; simp
    refine ⟨List.ne_nil_of_mem hr', fun i hi => ?_⟩
    rw [hr] at hi
    have hik : i = k := by simpa using hi
    subst hik
    refine ⟨hkn, ?_⟩
    have h : heavyG G all kp st0 i st fun st => treeG G all kp st0 r st K := h
    unfold heavyG at h
    split at h
    · rename_i o ho'
      have ho2 : all.toArray[i]? = some o := by simpa using ho'
      split at h
      · rename_i hg
        unfold wpOp
        simp only [ho2]
        rw [if_pos (wanted_none hg _)]
        left
        refine Oper.wp_mono (fun a' w' ⟨st', ρ', k', m', mm', ex'⟩ => ?_) ((op1_soundX (heavy_op h) good_stp).2 ρ a w Q hx m mm)
        obtain ⟨_, hkeep, k'⟩ := stp_iff.1 k'
        have mm2 : kp = true → Since G st0 { st' with c := True } ρ0 ρ' w' := fun hkp => by
          have hk := hk hkp
          obtain ⟨q, rfl⟩ := hk.ext
          obtain ⟨q', rfl⟩ := ex'
          have hx : ∃ m, ρ0 ++ q ++ q' = ρ0 ++ m := ⟨q ++ q', by rw [List.append_assoc]⟩
          exact ⟨hx, kept_since hk.mem hx (mm'.same (st' := { st' with c := True }) rfl rfl rfl) (hkeep hkp)⟩
        exact ⟨fun e => (mm2 e).mem, tree_sound hx hsel hQ hn hK r _ _ _ a' w' (inv.set hr' hkn) hB k' (m'.same rfl) (mm'.same rfl rfl rfl) mm2⟩
      · exact h.elim
    · exact h.elim
  | .C k r j s, ls, st, ρ, a, w, inv, hB, h, m, mm, hk => by
    simp only [treeB, Bool.and_eq_true, decide_eq_true_eq] at hB
    obtain ⟨hkn, hjn, hr, hlen, hB1, hB2⟩ := hB
    have hk' : k ∈ Region.ready .any all.toArray ls := by rw [hr]; simp
    have hj' : j ∈ Region.ready .any all.toArray ls := by rw [hr]; simp
    have h : (heavyG G all kp st0 k st fun st => treeG G all kp st0 r st K) ∧ (heavyG G all kp st0 j st fun st => treeG G all kp st0 s st K) := h
    have step := fun i t => heavy_step (F := F) (K := K) (Q := Q) (st0 := st0) hx inv m mm hk i t
    refine ⟨List.ne_nil_of_mem hk', fun i hi => ?_⟩
    rw [hr] at hi
    have hik : i = k ∨ i = j := by simpa using hi
    rcases hik with rfl | rfl
    · exact ⟨hkn, step i r hk' hkn hB1 h.1 (tree_sound hx hsel hQ hn hK r)⟩
    · refine ⟨hjn, ?_⟩
      have := step i s hj' hjn hB2 h.2 (tree_sound hx hsel hQ hn hK s)
      rw [← hlen] at this
      exact this
  | .D k r j s i t, ls, st, ρ, a, w, inv, hB, h, m, mm, hk => by
    simp only [treeB, Bool.and_eq_true, decide_eq_true_eq] at hB
    obtain ⟨hkn, hjn, hin, hr, ⟨hlen, hlen2⟩, hB1, hB2, hB3⟩ := hB
    have hk' : k ∈ Region.ready .any all.toArray ls := by rw [hr]; simp
    have hj' : j ∈ Region.ready .any all.toArray ls := by rw [hr]; simp
    have hi' : i ∈ Region.ready .any all.toArray ls := by rw [hr]; simp
    have h : (heavyG G all kp st0 k st fun st => treeG G all kp st0 r st K) ∧ (heavyG G all kp st0 j st fun st => treeG G all kp st0 s st K) ∧ (heavyG G all kp st0 i st fun st => treeG G all kp st0 t st K) := h
    have step := fun i t => heavy_step (F := F) (K := K) (Q := Q) (st0 := st0) hx inv m mm hk i t
    refine ⟨List.ne_nil_of_mem hk', fun q hq => ?_⟩
    rw [hr] at hq
    have hik : q = k ∨ q = j ∨ q = i := by simpa using hq
    rcases hik with rfl | rfl | rfl
    · exact ⟨hkn, step q r hk' hkn hB1 h.1 (tree_sound hx hsel hQ hn hK r)⟩
    · refine ⟨hjn, ?_⟩
      have := step q s hj' hjn hB2 h.2.1 (tree_sound hx hsel hQ hn hK s)
      rw [← hlen] at this
      exact this
    · refine ⟨hin, ?_⟩
      have := step q t hi' hin hB3 h.2.2 (tree_sound hx hsel hQ hn hK t)
      rw [← hlen2] at this
      exact this
theorem trees_sound {G : Gl} {all : List Oper} {Q : Exit → Act → World → Prop} {K : St → Prop} (hx : ∀ e a w, PXE G e a w → Q e a w) (hsel : Region.noSelect all.toArray = true) (hQ : ∀ o ∈ all, ∀ v c a w, Q (.panic c) (Act.put a o.dst v) w → Q (.panic c) a w) (hend : ∀ st ρ a w, K st → Tm G st ρ a → Mem G st ρ w → Q .normal a w) :
    ∀ (gs : List (Tr × Nat)) (ls : Array Bool) (st : St) (ρ : List Nat) (a : Act) (w : World), treesB all.toArray gs ls = true → treesG G all gs st K → Tm G st ρ a → Mem G st ρ w → wpAny G.P .any all.toArray Q (treeLen gs) ls a w
  | [], ls, st, ρ, a, w, hB, h, m, mm => by
    simp only [treesB, decide_eq_true_eq] at hB
    exact ⟨hB, hend { st with c := True } ρ a w (stp_iff.1 h).2 (m.same rfl) (mm.same rfl rfl rfl)⟩
  | (g, n) :: r, ls, st, ρ, a, w, hB, h, m, mm => by
    simp only [treesB, Bool.and_eq_true, Bool.or_eq_true, decide_eq_true_eq] at hB
    obtain ⟨hw, hh, hs⟩ := hB
    have h : asK st fun st => treeG G all g.hasT st g st fun st => treesG G all r st K := h
    rw [asK_eq] at h
    have key := tree_sound (F := fun ls' => treesB all.toArray r ls') (kp := g.hasT) (st0 := st) (ρ0 := ρ) hx hsel hQ hw (treesG_good r) g ls st ρ a w (headW_spec hh) hs h m mm fun _ => ⟨⟨[], by simp⟩, mm⟩
    exact HdG.any (g := treeLen r) (fun ls' a' w' ⟨⟨hF, _⟩, st', ρ', k, m', mm'⟩ => trees_sound hx hsel hQ hend r ls' st' ρ' a' w' hF k m' mm') _ _ _ _ key
/-- a region that draws its order, by groups in which two operations may come up at once -/
theorem RegAt.trees {G : Gl} {id : Nat} {l : List Oper} {st : St} {K : St → Prop} (gs : List (Tr × Nat)) (hm : G.P.follows .mixedOrders = true) (hB : treesOk l gs = true) (h : treesG G l gs st K) (hax : axFree G.AX l = true := by rfl) : RegAt G id l.toArray st K := by
  simp only [treesOk, Bool.and_eq_true, decide_eq_true_eq] at hB
  obtain ⟨h1, h2, h3⟩ := hB
  refine .mk fun ρ a w m mm => ?_
  refine wp_region_any hm ?_
  have key := trees_sound (Q := fun e a' w' => (e = .normal ∧ ∃ st' ρ', K st' ∧ Tm G st' ρ' a' ∧ Mem G st' ρ' w') ∨ PXE G e a' w') (fun e a w hp => .inr hp) h1 (fun o ho v c a w hq => by rcases hq with ⟨hq, _⟩ | hq; cases hq; exact .inr (hq.put (axFree_spec hax o ho))) (fun st ρ a w k m mm => .inl ⟨rfl, st, ρ, k, m, mm⟩) gs _ st ρ a _ h3 h m mm.drew
  rw [h2] at key
  simpa using key
end Sy
namespace Sy
set_option linter.unusedVariables false
set_option linter.unusedSimpArgs false

def renV (is : List Nat) : SV → Option SV
  | .p m off => match is[m]? with
    | some j => some (.p j off)
    | none => none
  | x => some x
def renL (is : List Nat) : List SV → Option (List SV)
  | [] => some []
  | x :: l => match renV is x with
    | some y => match renL is l with
      | some r => some (y :: r)
      | none => none
    | none => none
def pickT (is : List Nat) (src : List (Nat × SV)) : List (Nat × SV) → Prop
  | [] => True
  | (t, x) :: r => (∃ y, renV is x = some y ∧ getT src t = some y) ∧ pickT is src r
def pickO (is : List Nat) (src : List (Nat × TypeId × List SV)) : List (Nat × TypeId × List SV) → Prop
  | [] => True
  | (k, x) :: r => (∃ j l, is[k]? = some j ∧ renL is x.2 = some l ∧ getO src j = some (x.1, l)) ∧ pickO is src r
def nodupB : List Nat → Bool
  | [] => true
  | x :: l => !l.contains x && nodupB l
theorem nodupB_spec : ∀ {l : List Nat}, nodupB l = true → l.Nodup
  | [], _ => by simp
  | x :: l, h => by
    simp only [nodupB, Bool.and_eq_true, Bool.not_eq_true'] at h
    rw [List.nodup_cons]
    refine ⟨fun c => ?_, nodupB_spec h.2⟩
    have : l.contains x = true := by simpa using c
    rw [this] at h
    cases h.1
theorem pickT_get {is : List Nat} {src : List (Nat × SV)} : ∀ {l : List (Nat × SV)} {t : Nat} {x : SV}, pickT is src l → getT l t = some x → ∃ y, renV is x = some y ∧ getT src t = some y
  | [], t, x, _, h => by cases h
  | (k, y) :: l, t, x, hl, h => by
    simp only [getT] at h
    split at h
    · rename_i e
      have := beq_of e
      subst this
      injection h with h
      subst h
      exact hl.1
    · exact pickT_get hl.2 h
theorem pickO_mem {is : List Nat} {src : List (Nat × TypeId × List SV)} : ∀ {l : List (Nat × TypeId × List SV)} {x : Nat × TypeId × List SV}, pickO is src l → x ∈ l → ∃ j r, is[x.1]? = some j ∧ renL is x.2.2 = some r ∧ getO src j = some (x.2.1, r)
  | [], x, _, h => by cases h
  | (k, y) :: l, x, hl, h => by
    rcases List.mem_cons.1 h with rfl | h
    · exact hl.1
    · exact pickO_mem hl.2 h
/-- the named blocks anew -/
def pickR (is ρ : List Nat) : List Nat := is.map fun j => ρ.getD j 0
theorem pickR_at {is ρ : List Nat} {k j : Nat} (h : is[k]? = some j) (hj : j < ρ.length) : (pickR is ρ)[k]? = ρ[j]? := by
  unfold pickR
  rw [List.getElem?_map, h, List.getElem?_eq_getElem hj]
  simp [List.getD_eq_getElem?_getD, List.getElem?_eq_getElem hj]
theorem den_pick {is ρ : List Nat} (hlt : ∀ j ∈ is, j < ρ.length) {x y : SV} (h : renV is x = some y) : x.den (pickR is ρ) = y.den ρ := by
  cases x with
  | v x => simp only [renV, Option.some.injEq] at h; subst h; rfl
  | k b => simp only [renV, Option.some.injEq] at h; subst h; rfl
  | p m off =>
    simp only [renV] at h
    cases hj : is[m]? with
    | none => rw [hj] at h; cases h
    | some j =>
      rw [hj] at h
      simp only [Option.some.injEq] at h
      subst h
      simp only [SV.den]
      rw [pickR_at hj (hlt j (List.mem_of_getElem? hj))]
theorem denL_pick {is ρ : List Nat} (hlt : ∀ j ∈ is, j < ρ.length) : ∀ {l r : List SV}, renL is l = some r → denL (pickR is ρ) l = denL ρ r
  | [], r, h => by simp only [renL, Option.some.injEq] at h; subst h; rfl
  | x :: l, r, h => by
    unfold renL at h
    split at h
    · rename_i y hy
      split at h
      · rename_i r' hr
        injection h with h
        subst h
        have h1 := den_pick hlt hy
        have h2 := denL_pick hlt hr
        unfold denL at *
        rw [List.mapM_cons, List.mapM_cons, h1, h2]
      · cases h
    · cases h
theorem Le.pick {G : Gl} {st st' : St} (is : List Nat) (hn : is.length = st'.n) (hlt : is.all (fun j => Nat.blt j st.n) = true) (hnd : nodupB is = true) (hB : is.take G.B.length = List.range G.B.length) (ht : pickT is st.t st'.t) (ho : pickO is st.o st'.o) (hno : nodupB (st'.o.map (·.1)) = true)
    (hh : ∀ h, sepL st.h G.R h → ∃ h', (∀ i o, h' i = some o → h i = some o) ∧ sepL st'.h G.R h') : Le G st st' := by
  intro ρ a w m mm
  obtain ⟨m1, m2, m3, m4, m5, m6, mk, h, m7, m8, m9⟩ := mm
  obtain ⟨h', hs, hp⟩ := hh h m8
  have hl : ∀ j ∈ is, j < ρ.length := fun j hj => by
    have := List.all_eq_true.1 hlt j hj
    rw [m2]
    exact Nat.le_of_ble_eq_true this
  have hnd' := nodupB_spec hnd
  refine ⟨pickR is ρ, ⟨m.size, m.defs, fun t x e => ?_⟩, ⟨m1, ?_, ?_, fun b hb => ?_, nodupB_spec hno, fun x hx => ?_, ?_, h', m7.mono hs, hp, fun x hx b e => ?_⟩⟩
  · obtain ⟨y, e1, e2⟩ := pickT_get ht e
    rw [den_pick hl e1]
    exact m.get t y e2
  · rw [← hn]; simp [pickR]
  · refine List.pairwise_iff_getElem.2 fun i j hil hjl hij e => ?_
    have hjl' : j < is.length := by simpa [pickR] using hjl
    have hi : i < is.length := by omega
    have e : (pickR is ρ)[i]? = (pickR is ρ)[j]? := by rw [List.getElem?_eq_getElem hil, List.getElem?_eq_getElem hjl, e]
    have a1 := pickR_at (ρ := ρ) (List.getElem?_eq_getElem hi) (hl _ (List.getElem_mem hi))
    have a2 := pickR_at (ρ := ρ) (List.getElem?_eq_getElem hjl') (hl _ (List.getElem_mem hjl'))
    rw [a1, a2] at e
    have b1 := hl _ (List.getElem_mem hi)
    have b2 := hl _ (List.getElem_mem hjl')
    rw [List.getElem?_eq_getElem b1, List.getElem?_eq_getElem b2] at e
    injection e with e
    have := (List.getElem_inj m3).1 e
    have := (List.getElem_inj hnd').1 this
    omega
  · obtain ⟨k, hk, e⟩ := List.mem_iff_getElem.1 hb
    have hk' : k < is.length := by simpa [pickR] using hk
    have a1 := pickR_at (ρ := ρ) (List.getElem?_eq_getElem hk') (hl _ (List.getElem_mem hk'))
    rw [List.getElem?_eq_getElem hk, List.getElem?_eq_getElem (hl _ (List.getElem_mem hk'))] at a1
    injection a1 with a1
    rw [← e, a1]
    exact m4 _ (List.getElem_mem _)
  · obtain ⟨j, r, e1, e2, e3⟩ := pickO_mem ho hx
    obtain ⟨b, cs, f1, f2, f3⟩ := m6 _ (getO_mem e3)
    exact ⟨b, cs, by rw [pickR_at e1 (hl j (List.mem_of_getElem? e1))]; exact f1, by rw [denL_pick hl e2]; exact f2, f3⟩
  · obtain ⟨q, rfl⟩ := mk
    refine ⟨pickR (is.drop G.B.length) (G.B ++ q), ?_⟩
    have : pickR is (G.B ++ q) = pickR (is.take G.B.length) (G.B ++ q) ++ pickR (is.drop G.B.length) (G.B ++ q) := by unfold pickR; rw [← List.map_append, List.take_append_drop]
    rw [this, hB]
    congr 1
    apply List.ext_getElem?
    intro i
    by_cases c : i < G.B.length
    · rw [pickR_at (by rw [List.getElem?_range c]) (by simp; omega), List.getElem?_append_left c]
    · rw [List.getElem?_eq_none (by simp [pickR]; omega), List.getElem?_eq_none (by omega)]
  · obtain ⟨j, r, e1, e2, e3⟩ := pickO_mem ho hx
    rw [pickR_at e1 (hl j (List.mem_of_getElem? e1))] at e
    have := m9 _ (getO_mem e3) b e
    cases e' : h' b with
    | none => rfl
    | some o => rw [hs b o e'] at this; cases this
end Sy
set_option linter.unusedVariables false
set_option linter.unusedSimpArgs false
set_option maxRecDepth 100000
set_option maxHeartbeats 4000000
namespace Sy
theorem RegAt.joinsE {G : Gl} {id : Nat} {l : List Oper} {st : St} {K : St → Prop} {α : Type} (gs : List (Tr × Nat)) (Kp : List Nat) (S : α → List (Nat × SV)) (O : α → List (Nat × TypeId × List SV)) (nn : Nat) (H : α → List HP) (hm : G.P.follows .mixedOrders = true) (hB : treesOk l gs = true)
    (h : treesG G l gs st fun st' => ∃ a, Le G st' ⟨S a ++ keepT st.t Kp, O a, nn, H a, True⟩) (k : ∀ a, forceL (S a ++ keepT st.t Kp) fun t => K ⟨t, O a, nn, H a, True⟩) (hax : axFree G.AX l = true := by rfl) : RegAt G id l.toArray st K := by
  obtain ⟨h⟩ := RegAt.trees (id := id) gs hm hB h hax
  refine .mk fun ρ a w m mm => ?_
  refine wp_mono (h ρ a w m mm) ?_
  rintro e a' w' (⟨rfl, st', ρ', ⟨x, hle⟩, m', mm'⟩ | hp)
  · obtain ⟨ρ2, m2, mm2⟩ := hle ρ' a' w' m' mm'
    exact .inl ⟨rfl, _, ρ2, forceL_eq (k x), m2, mm2⟩
  · exact .inr hp
end Sy
open Sy



def spX1 (W k x : Nat) : Nat := min ((x + 1) * 2 ^ k) W - 1


theorem gv_vRows {f : Nat → Nat → Int} {W : Nat} : ∀ {H x y : Nat}, x < W → y < H → gv W (vRows f 0 W 0 H) x y = f x y
  | 0, x, y, _, h => by omega
  | H + 1, x, y, hx, hy => by
    unfold gv
    rw [vRows_succ, List.getD_eq_getElem?_getD]
    have hl : (vRows f 0 W 0 H).length = H * W := vRows_len f 0 W 0 H
    rcases Nat.lt_or_ge y H with c | c
    · rw [List.getElem?_append_left (by rw [hl, Nat.mul_comm H W]; exact idx_lt hx c), ← List.getD_eq_getElem?_getD]
      exact gv_vRows hx c
    · have : y = H := by omega
      subst this
      rw [List.getElem?_append_right (by rw [hl]; omega), hl, show y * W + x - y * W = x by omega]
      simp [vRow, hx]
/-- the values for which a cell of a level stands; the level -/
def spL (W H k : Nat) (f : Nat → Nat → Int) (x y : Nat) : List Int := vRows f (x * 2 ^ k) (spX1 W k x - x * 2 ^ k + 1) (y * 2 ^ k) (spX1 H k y - y * 2 ^ k + 1)
def lv (ag : List Int → Int) (W H k : Nat) (f : Nat → Nat → Int) (x y : Nat) : Int := ag (spL W H k f x y)


end Go.Proofs.YtgfiakgahmpfkaaGreatDoor
