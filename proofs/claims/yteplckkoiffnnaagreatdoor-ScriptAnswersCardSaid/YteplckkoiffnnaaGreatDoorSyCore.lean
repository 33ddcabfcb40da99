/-
  Symbolic runs, the words: values with names for blocks of the call's own; parts of the heap that are apart; what a symbolic state stands for.
-/
import Derived.Test.YteplckkoiffnnaaGreatDoorBlk
import Derived.Deep.MidRow
import Derived.Laws.CopyRow
import Derived.Deep.Quiet
import Derived.IntWalk
namespace Go.Proofs.YteplckkoiffnnaaGreatDoor
open Go.RowKit
namespace Sy
set_option linter.unusedVariables false

/-! parts of a heap -/
abbrev Hl := Nat → Option Obj
abbrev HP := Hl → Prop
def Sub (h : Hl) (w : World) : Prop := ∀ i o, h i = some o → w.heap[i]? = some o
def Dj (h g : Hl) : Prop := ∀ i, h i = none ∨ g i = none
def un (h g : Hl) : Hl := fun i => (h i).or (g i)
def sep (A B : HP) : HP := fun h => ∃ h1 h2, Dj h1 h2 ∧ h = un h1 h2 ∧ A h1 ∧ B h2
def sepL (l : List HP) (R : HP) : HP := l.foldr sep R
/-- a block of the heap, known whole -/
def blkH (b : Nat) (t : TypeId) (cs : Array Value) : HP := fun h => ∀ i, h i = if i = b then some (.cells cs t (0, 0)) else none

theorem Dj.symm {h g : Hl} (d : Dj h g) : Dj g h := fun i => (d i).symm
theorem un_comm {h g : Hl} (d : Dj h g) : un h g = un g h := by
  funext i
  unfold un
  rcases d i with e | e <;> rw [e] <;> simp
theorem un_none {h g : Hl} {i : Nat} : un h g i = none ↔ h i = none ∧ g i = none := by
  unfold un; cases h i <;> simp
theorem Dj.un_left {h g k : Hl} (d : Dj (un h g) k) : Dj h k ∧ Dj g k := by
  refine ⟨fun i => ?_, fun i => ?_⟩ <;> rcases d i with e | e
  · exact .inl (un_none.1 e).1
  · exact .inr e
  · exact .inl (un_none.1 e).2
  · exact .inr e
theorem Dj.un_of {h g k : Hl} (d : Dj h k) (e : Dj g k) : Dj (un h g) k := by
  intro i
  rcases d i with a | a
  · rcases e i with b | b
    · exact .inl (un_none.2 ⟨a, b⟩)
    · exact .inr b
  · exact .inr a
theorem un_assoc (h g k : Hl) : un (un h g) k = un h (un g k) := by
  funext i; unfold un; cases h i <;> simp
theorem sep_comm {A B : HP} {h : Hl} (s : sep A B h) : sep B A h := by
  obtain ⟨h1, h2, d, e, a, b⟩ := s
  exact ⟨h2, h1, d.symm, by rw [e, un_comm d], b, a⟩
theorem sep_assoc {A B C : HP} {h : Hl} (s : sep (sep A B) C h) : sep A (sep B C) h := by
  obtain ⟨h12, h3, d, e, ⟨h1, h2, d', e', a, b⟩, c⟩ := s
  subst e'
  obtain ⟨d1, d2⟩ := d.un_left
  exact ⟨h1, un h2 h3, (Dj.un_of d'.symm d1.symm).symm, by rw [e, un_assoc], a, h2, h3, d2, rfl, b, c⟩
theorem sep_assoc' {A B C : HP} {h : Hl} (s : sep A (sep B C) h) : sep (sep A B) C h := by
  obtain ⟨h1, h23, d, e, a, ⟨h2, h3, d', e', b, c⟩⟩ := s
  subst e'
  obtain ⟨d1, d2⟩ := d.symm.un_left
  exact ⟨un h1 h2, h3, Dj.un_of d2.symm d', by rw [e, un_assoc], ⟨h1, h2, d1.symm, rfl, a, b⟩, c⟩
theorem sep_mono {A A' B B' : HP} {h : Hl} (s : sep A B h) (ha : ∀ h, A h → A' h) (hb : ∀ h, B h → B' h) : sep A' B' h := by
  obtain ⟨h1, h2, d, e, a, b⟩ := s
  exact ⟨h1, h2, d, e, ha _ a, hb _ b⟩
theorem sep_swap {A B C : HP} {h : Hl} (s : sep A (sep B C) h) : sep B (sep A C) h := sep_assoc (sep_mono (sep_assoc' s) (fun _ => sep_comm) fun _ x => x)
theorem sepL_perm {l m : List HP} (p : l.Perm m) : ∀ {R : HP} {h : Hl}, sepL l R h → sepL m R h := by
  induction p with
  | nil => exact fun s => s
  | cons A _ ih => exact fun s => sep_mono s (fun _ a => a) fun _ b => ih b
  | swap A B l => exact fun s => sep_swap s
  | trans _ _ i1 i2 => exact fun s => i2 (i1 s)
theorem sepL_append {l m : List HP} {R : HP} : sepL (l ++ m) R = sepL l (sepL m R) := by simp [sepL]
theorem sepL_mono {l : List HP} {R R' : HP} (hr : ∀ h, R h → R' h) : ∀ {h : Hl}, sepL l R h → sepL l R' h := by
  induction l with
  | nil => exact fun s => hr _ s
  | cons A l ih => exact fun s => sep_mono s (fun _ a => a) fun _ b => ih b

structure Wd (w0 w : World) : Prop where
  os : w.os = w0.os
  tape : w.tape = w0.tape
  output : w.output = w0.output
  size : w0.heap.size ≤ w.heap.size
theorem Wd.refl (w : World) : Wd w w := ⟨rfl, rfl, rfl, Nat.le_refl _⟩
theorem Wd.trans {a b c : World} (h : Wd a b) (k : Wd b c) : Wd a c := ⟨k.os.trans h.os, k.tape.trans h.tape, k.output.trans h.output, Nat.le_trans h.size k.size⟩
theorem Wd.of_below {B : Nat} {w w' : World} (h : Below B w w') : Wd w w' := ⟨h.os, h.tape, h.output, h.size⟩

/-- a part of the heap holds A -/
def Sat (A : HP) (w : World) : Prop := ∃ h, Sub h w ∧ A h
theorem Sub.none {h : Hl} {w : World} (s : Sub h w) {i : Nat} (hi : w.heap.size ≤ i) : h i = none := by
  cases e : h i with
  | none => rfl
  | some o =>
    have := s i o e
    rw [Array.getElem?_eq_none hi] at this
    cases this
theorem Sub.un {h g : Hl} {w : World} (s : Sub h w) (t : Sub g w) : Sub (un h g) w := by
  intro i o e
  unfold Sy.un at e
  cases hh : h i with
  | none => rw [hh] at e; exact t i o (by simpa using e)
  | some x => rw [hh] at e; exact s i o (by rw [hh]; simpa using e)
theorem Sub.left {h g : Hl} {w : World} (s : Sub (Sy.un h g) w) : Sub h w := fun i o e => s i o (by unfold Sy.un; rw [e]; rfl)
theorem Sub.right {h g : Hl} {w : World} (d : Dj h g) (s : Sub (Sy.un h g) w) : Sub g w := fun i o e => s i o (by
  unfold Sy.un
  rcases d i with x | x
  · rw [x, e]; rfl
  · rw [x] at e; cases e)
theorem Sub.below {h : Hl} {w w' : World} (s : Sub h w) (hb : Below w.heap.size w w') : Sub h w' := by
  intro i o e
  have := s i o e
  rw [hb.block i _]
  · exact this
  · rcases Nat.lt_or_ge i w.heap.size with c | c
    · exact c
    · rw [s.none c] at e; cases e

/-! symbolic values and states -/
inductive SV where
  | v (x : Value)
  | k (b : Bool)
  | p (n off : Nat)
structure St where
  t : List (Nat × SV)
  o : List (Nat × TypeId × List SV)
  n : Nat
  h : List HP
  c : Prop
structure Gl where
  P : Program
  R : HP
  w0 : World
  N : Nat
  tr : Bool
  B : List Nat
  D : List Deferred := []
  X : List PanicEntry → Prop := fun _ => False
  RX : HP := R
  AX : List (Nat × Value) := []

def SV.den (ρ : List Nat) : SV → Option Value
  | .v x => some x
  | .k b => some (.bool b)
  | .p n o => (ρ[n]?).map fun b => .pointer (some ⟨b, o, none⟩)
def denL (ρ : List Nat) (l : List SV) : Option (List Value) := l.mapM (SV.den ρ)
theorem denL_nil (ρ : List Nat) : denL ρ [] = some [] := rfl
theorem denL_cons {ρ : List Nat} {x : SV} {l : List SV} {r : List Value} : denL ρ (x :: l) = some r ↔ ∃ v vs, x.den ρ = some v ∧ denL ρ l = some vs ∧ r = v :: vs := by
  unfold denL
  rw [List.mapM_cons]
  cases hx : x.den ρ with
  | none => simp
  | some v =>
    cases hl : l.mapM (SV.den ρ) with
    | none => simp
    | some vs =>
      simp
      exact eq_comm
theorem den_ext {ρ : List Nat} {x : SV} {v : Value} (h : x.den ρ = some v) (m : List Nat) : x.den (ρ ++ m) = some v := by
  cases x with
  | v x => exact h
  | k b => exact h
  | p n o =>
    simp only [SV.den, Option.map_eq_some_iff] at h ⊢
    obtain ⟨b, hb, e⟩ := h
    refine ⟨b, ?_, e⟩
    rw [List.getElem?_append_left]
    · exact hb
    · exact (List.getElem?_eq_some_iff.1 hb).1
theorem denL_ext {ρ : List Nat} (m : List Nat) : ∀ {l : List SV} {vs : List Value}, denL ρ l = some vs → denL (ρ ++ m) l = some vs
  | [], vs, h => h
  | x :: l, vs, h => by
    obtain ⟨v, us, h1, h2, h3⟩ := denL_cons.1 h
    exact denL_cons.2 ⟨v, us, den_ext h1 m, denL_ext m h2, h3⟩
theorem denL_length {ρ : List Nat} : ∀ {l : List SV} {vs : List Value}, denL ρ l = some vs → vs.length = l.length
  | [], vs, h => by cases h; rfl
  | x :: l, vs, h => by
    obtain ⟨v, us, h1, h2, rfl⟩ := denL_cons.1 h
    simp [denL_length h2]

def getT : List (Nat × SV) → Nat → Option SV
  | [], _ => none
  | (k, x) :: l, t => match Nat.beq k t with
    | true => some x
    | false => getT l t
def getO : List (Nat × TypeId × List SV) → Nat → Option (TypeId × List SV)
  | [], _ => none
  | (k, x) :: l, t => match Nat.beq k t with
    | true => some x
    | false => getO l t

/-- the temporaries -/
structure Tm (G : Gl) (st : St) (ρ : List Nat) (a : Act) : Prop where
  size : a.tmps.size = G.N
  defs : a.defers = G.D
  get : ∀ t x, getT st.t t = some x → t < G.N ∧ x.den ρ = some (a.tmps.getD t undef)
/-- the memory -/
structure Mem (G : Gl) (st : St) (ρ : List Nat) (w : World) : Prop where
  wd : Wd G.w0 w
  len : ρ.length = st.n
  nd : ρ.Nodup
  lt : ∀ b ∈ ρ, b < w.heap.size
  no : (st.o.map (·.1)).Nodup
  ob : ∀ x ∈ st.o, ∃ b cs, ρ[x.1]? = some b ∧ denL ρ x.2.2 = some cs ∧ Blk w b x.2.1 cs.toArray
  kn : ∃ m, ρ = G.B ++ m
  hp : ∃ h, Sub h w ∧ sepL st.h G.R h ∧ ∀ x ∈ st.o, ∀ b, ρ[x.1]? = some b → h b = none

theorem beq_of {a b : Nat} (h : Nat.beq a b = true) : a = b := Nat.eq_of_beq_eq_true h
theorem getO_mem : ∀ {l : List (Nat × TypeId × List SV)} {n : Nat} {x : TypeId × List SV}, getO l n = some x → (n, x) ∈ l
  | [], _, _, h => by cases h
  | (k, y) :: l, n, x, h => by
    unfold getO at h
    split at h
    · rename_i e
      have := beq_of e
      subst this
      injection h with h
      subst h
      exact List.mem_cons_self
    · exact List.mem_cons_of_mem _ (getO_mem h)

theorem Mem.same {G : Gl} {st st' : St} {ρ : List Nat} {w : World} (m : Mem G st ρ w) (ho : st'.o = st.o) (hn : st'.n = st.n) (hh : st'.h = st.h) : Mem G st' ρ w := by
  obtain ⟨m1, m2, m3, m4, m5, m6, mk, m7⟩ := m
  exact ⟨m1, by rw [hn]; exact m2, m3, m4, by rw [ho]; exact m5, by rw [ho]; exact m6, mk, by rw [ho, hh]; exact m7⟩
/-- nothing that is there turns -/
theorem Mem.below {G : Gl} {st : St} {ρ : List Nat} {w w' : World} (m : Mem G st ρ w) (hb : Below w.heap.size w w') : Mem G st ρ w' := by
  obtain ⟨m1, m2, m3, m4, m5, m6, mk, h, m7, m8, m9⟩ := m
  refine ⟨m1.trans (.of_below hb), m2, m3, fun b hb' => Nat.lt_of_lt_of_le (m4 b hb') hb.size, m5, fun x hx => ?_, mk, h, m7.below hb, m8, m9⟩
  obtain ⟨b, cs, e1, e2, e3⟩ := m6 x hx
  exact ⟨b, cs, e1, e2, e3.kept hb⟩
theorem Mem.drew {G : Gl} {st : St} {ρ : List Nat} {w : World} (m : Mem G st ρ w) : Mem G st ρ { w with drawn := w.drawn + 1 } := m.below ((Below.refl _ _).drew)

/-- a new block -/
theorem Mem.new {G : Gl} {st : St} {ρ : List Nat} {w : World} (m : Mem G st ρ w) (t : TypeId) (cs : List SV) (vs : List Value) (hv : denL ρ cs = some vs) :
    Mem G { st with o := (st.n, t, cs) :: st.o, n := st.n + 1 } (ρ ++ [w.heap.size]) (w.alloc (.cells vs.toArray t)) := by
  obtain ⟨m1, m2, m3, m4, m5, m6, mk, h, m7, m8, m9⟩ := m
  have hb : Below w.heap.size w (w.alloc (.cells vs.toArray t)) := (Below.refl _ _).alloc (Nat.le_refl _) _
  have fresh : ∀ x ∈ st.o, x.1 < st.n := fun x hx => by
    obtain ⟨b, cs, e1, _⟩ := m6 x hx
    rw [← m2]
    exact (List.getElem?_eq_some_iff.1 e1).1
  have old : ∀ x ∈ st.o, ∀ b, (ρ ++ [w.heap.size])[x.1]? = some b → ρ[x.1]? = some b := fun x hx b e => by
    rwa [List.getElem?_append_left (by rw [m2]; exact fresh x hx)] at e
  have new : (ρ ++ [w.heap.size])[st.n]? = some w.heap.size := by rw [← m2]; simp
  refine ⟨m1.trans (.of_below hb), by simp [m2], ?_, ?_, ?_, ?_, ?_, h, m7.below hb, m8, ?_⟩
  · rw [List.nodup_append]
    refine ⟨m3, by simp, fun a ha b hb' => ?_⟩
    have : b = w.heap.size := by simpa using hb'
    subst this
    exact Nat.ne_of_lt (m4 a ha)
  · intro b hb'
    have hs : (w.alloc (.cells vs.toArray t)).heap.size = w.heap.size + 1 := by simp
    rw [hs]
    rcases List.mem_append.1 hb' with c | c
    · exact Nat.lt_succ_of_lt (m4 b c)
    · have : b = w.heap.size := by simpa using c
      omega
  · simp only [List.map_cons, List.nodup_cons]
    refine ⟨fun hx => ?_, m5⟩
    obtain ⟨x, hx, e⟩ := List.mem_map.1 hx
    have := fresh x hx
    omega
  · intro x hx
    rcases List.mem_cons.1 hx with rfl | hx
    · exact ⟨_, vs, new, denL_ext _ hv, Blk.new _ _ _⟩
    · obtain ⟨b, us, e1, e2, e3⟩ := m6 x hx
      exact ⟨b, us, by rw [List.getElem?_append_left (by rw [m2]; exact fresh x hx)]; exact e1, denL_ext _ e2, e3.kept hb⟩
  · obtain ⟨q, rfl⟩ := mk
    exact ⟨q ++ [w.heap.size], by rw [List.append_assoc]⟩
  · intro x hx b e
    rcases List.mem_cons.1 hx with rfl | hx
    · rw [new] at e
      injection e with e
      subst e
      exact m7.none (Nat.le_refl _)
    · exact m9 x hx b (old x hx b e)

def setO : List (Nat × TypeId × List SV) → Nat → List SV → List (Nat × TypeId × List SV)
  | [], _, _ => []
  | (k, x) :: l, t, y => match Nat.beq k t with
    | true => (k, x.1, y) :: l
    | false => (k, x) :: setO l t y
theorem setO_names (n : Nat) (y : List SV) : ∀ l : List (Nat × TypeId × List SV), (setO l n y).map (·.1) = l.map (·.1)
  | [] => rfl
  | (k, x) :: l => by
    unfold setO
    split
    · rfl
    · simp [setO_names n y l]
theorem setO_mem {n : Nat} {y : List SV} : ∀ {l : List (Nat × TypeId × List SV)} {x : Nat × TypeId × List SV}, (l.map (·.1)).Nodup → x ∈ setO l n y →
    (x.1 = n ∧ x.2.2 = y ∧ ∃ z, (n, x.2.1, z) ∈ l) ∨ (x.1 ≠ n ∧ x ∈ l)
  | [], x, _, h => by cases h
  | (k, z) :: l, x, hn, h => by
    have hn' := List.nodup_cons.1 hn
    unfold setO at h
    split at h
    · rename_i e
      have := beq_of e
      subst this
      rcases List.mem_cons.1 h with rfl | h
      · exact .inl ⟨rfl, rfl, z.2, List.mem_cons_self⟩
      · refine .inr ⟨fun e => hn'.1 (List.mem_map.2 ⟨x, h, e⟩), List.mem_cons_of_mem _ h⟩
    · rename_i e
      have hk : k ≠ n := fun c => by subst c; rw [Nat.beq_refl] at e; cases e
      rcases List.mem_cons.1 h with rfl | h
      · exact .inr ⟨hk, List.mem_cons_self⟩
      · rcases setO_mem hn'.2 h with ⟨a, b, z, c⟩ | ⟨a, b⟩
        · exact .inl ⟨a, b, z, List.mem_cons_of_mem _ c⟩
        · exact .inr ⟨a, List.mem_cons_of_mem _ b⟩

/-- a block of the call's own is written -/
theorem Mem.set_ {G : Gl} {st : St} {ρ : List Nat} {w : World} (m : Mem G st ρ w) {n b : Nat} {t : TypeId} {cs ys : List SV} {us : List Value} (hx : getO st.o n = some (t, cs)) (hb : ρ[n]? = some b) (hy : denL ρ ys = some us) {cur : Array Value} (hB : Blk w b t cur) :
    Mem G { st with o := setO st.o n ys } ρ (w.setRow b us.toArray) := by
  obtain ⟨m1, m2, m3, m4, m5, m6, mk, h, m7, m8, m9⟩ := m
  have hm := getO_mem hx
  have hh : (w.setRow b us.toArray).heap[b]? = some (.cells us.toArray t (0, 0)) := setRow_heap w b cur us.toArray t (0, 0) hB
  have hs : (w.setRow b us.toArray).heap.size = w.heap.size := by simp [World.setRow]
  have ho : ∀ i, i ≠ b → (w.setRow b us.toArray).heap[i]? = w.heap[i]? := fun i hi => by
    simp only [World.setRow, Array.getElem?_modify]
    rw [if_neg (fun e => hi e.symm)]
  have hbn := m9 _ hm b hb
  have inj : ∀ k, ρ[k]? = some b → k = n := fun k hk => by
    have h1 := (List.getElem?_eq_some_iff.1 hk)
    have h2 := (List.getElem?_eq_some_iff.1 hb)
    exact (List.getElem_inj m3).1 (h1.2.trans h2.2.symm)
  refine ⟨⟨m1.os, m1.tape, m1.output, by rw [hs]; exact m1.size⟩, m2, m3, fun x hx' => by rw [hs]; exact m4 x hx', ?_, ?_, mk, h, ?_, m8, ?_⟩
  · simp only [setO_names]; exact m5
  · intro x hx'
    rcases setO_mem m5 hx' with ⟨e1, e2, z, hz⟩ | ⟨e1, e2⟩
    · refine ⟨b, us, by rw [e1]; exact hb, by rw [e2]; exact hy, ?_⟩
      have : x.2.1 = t := by
        obtain ⟨b1, c1, g1, g2, g3⟩ := m6 _ hz
        simp only at g1 g3
        rw [hb] at g1
        injection g1 with g1
        subst g1
        have hB' : w.heap[b]? = _ := hB
        have g3' : w.heap[b]? = _ := g3
        rw [hB'] at g3'
        injection g3' with q
        injection q with _ q2
        exact q2.symm
      rw [this]
      exact hh
    · obtain ⟨b1, c1, g1, g2, g3⟩ := m6 x e2
      have hne : b1 ≠ b := fun e => e1 (inj _ (by rw [← e]; exact g1))
      exact ⟨b1, c1, g1, g2, (ho b1 hne).trans g3⟩
  · intro i o e
    by_cases hi : i = b
    · subst hi; rw [hbn] at e; cases e
    · rw [ho i hi]; exact m7 i o e
  · intro x hx' b' e
    have : x.1 ∈ (setO st.o n ys).map (·.1) := List.mem_map.2 ⟨x, hx', rfl⟩
    rw [setO_names] at this
    obtain ⟨z, hz, ez⟩ := List.mem_map.1 this
    exact m9 z hz b' (by rw [ez]; exact e)
end Sy
end Go.Proofs.YteplckkoiffnnaaGreatDoor
