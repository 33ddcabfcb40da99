/-
  Texts of the proofs, one behind the other: SyCore, SyOps, SyQ, SyRun, SyStep, SyCode, SyFn, SyRules, SyDraw, SyOwn, SyBox, SyMem, SyPart, SySub.
-/
import Derived.Test.YtgdbdebieghnkaaGreatPartA
import Derived.Deep.MidRow
import Derived.Laws.CopyRow
import Derived.Deep.Quiet
import Derived.IntWalk
import Derived.Tactics
import Derived.StillTail
import Derived.Great.FillDense
import Derived.Great.BuildSlice
import Derived.Laws.MakeOwn
import Derived.Deep.RegionHeld
import Derived.Laws.StructEq
import Derived.ChangeKeysEq
/-
  Symbolic runs, the words: values with names for blocks of the call's own; parts of the heap that are apart; what a symbolic state stands for.
-/
namespace Go.Proofs.YtgdbdebieghnkaaGreat
open Go.RowKit
namespace Sy
set_option linter.unusedVariables false

/-! parts of a heap -/
abbrev Hl := Nat → Option Obj
abbrev HP := Hl → Prop
def Sub (h : Hl) (w : World) : Prop := ∀ i o, h i = some o → w.heap[i]? = some o
def Dj (h g : Hl) : Prop := ∀ i, h i = none ∨ g i = none
def un (h g : Hl) : Hl := fun i => (h i).or (g i)
def sep (A B : HP) : HP := fun h => ∃ h1 h2, Dj h1 h2 ∧ h = un h1 h2 ∧ A h1 ∧ B h2
def sepL (l : List HP) (R : HP) : HP := l.foldr sep R
/-- a block of the heap, known whole -/
def blkH (b : Nat) (t : TypeId) (cs : Array Value) : HP := fun h => ∀ i, h i = if i = b then some (.cells cs t (0, 0)) else none

theorem Dj.symm {h g : Hl} (d : Dj h g) : Dj g h := fun i => (d i).symm
theorem un_comm {h g : Hl} (d : Dj h g) : un h g = un g h := by
  funext i
  unfold un
  rcases d i with e | e <;> rw [e] <;> simp
theorem un_none {h g : Hl} {i : Nat} : un h g i = none ↔ h i = none ∧ g i = none := by
  unfold un; cases h i <;> simp
theorem Dj.un_left {h g k : Hl} (d : Dj (un h g) k) : Dj h k ∧ Dj g k := by
  refine ⟨fun i => ?_, fun i => ?_⟩ <;> rcases d i with e | e
  · exact .inl (un_none.1 e).1
  · exact .inr e
  · exact .inl (un_none.1 e).2
  · exact .inr e
theorem Dj.un_of {h g k : Hl} (d : Dj h k) (e : Dj g k) : Dj (un h g) k := by
  intro i
  rcases d i with a | a
  · rcases e i with b | b
    · exact .inl (un_none.2 ⟨a, b⟩)
    · exact .inr b
  · exact .inr a
theorem un_assoc (h g k : Hl) : un (un h g) k = un h (un g k) := by
  funext i; unfold un; cases h i <;> simp
theorem sep_comm {A B : HP} {h : Hl} (s : sep A B h) : sep B A h := by
  obtain ⟨h1, h2, d, e, a, b⟩ := s
  exact ⟨h2, h1, d.symm, by rw [e, un_comm d], b, a⟩
theorem sep_assoc {A B C : HP} {h : Hl} (s : sep (sep A B) C h) : sep A (sep B C) h := by
  obtain ⟨h12, h3, d, e, ⟨h1, h2, d', e', a, b⟩, c⟩ := s
  subst e'
  obtain ⟨d1, d2⟩ := d.un_left
  exact ⟨h1, un h2 h3, (Dj.un_of d'.symm d1.symm).symm, by rw [e, un_assoc], a, h2, h3, d2, rfl, b, c⟩
theorem sep_assoc' {A B C : HP} {h : Hl} (s : sep A (sep B C) h) : sep (sep A B) C h := by
  obtain ⟨h1, h23, d, e, a, ⟨h2, h3, d', e', b, c⟩⟩ := s
  subst e'
  obtain ⟨d1, d2⟩ := d.symm.un_left
  exact ⟨un h1 h2, h3, Dj.un_of d2.symm d', by rw [e, un_assoc], ⟨h1, h2, d1.symm, rfl, a, b⟩, c⟩
theorem sep_mono {A A' B B' : HP} {h : Hl} (s : sep A B h) (ha : ∀ h, A h → A' h) (hb : ∀ h, B h → B' h) : sep A' B' h := by
  obtain ⟨h1, h2, d, e, a, b⟩ := s
  exact ⟨h1, h2, d, e, ha _ a, hb _ b⟩
theorem sep_swap {A B C : HP} {h : Hl} (s : sep A (sep B C) h) : sep B (sep A C) h := sep_assoc (sep_mono (sep_assoc' s) (fun _ => sep_comm) fun _ x => x)
theorem sepL_perm {l m : List HP} (p : l.Perm m) : ∀ {R : HP} {h : Hl}, sepL l R h → sepL m R h := by
  induction p with
  | nil => exact fun s => s
  | cons A _ ih => exact fun s => sep_mono s (fun _ a => a) fun _ b => ih b
  | swap A B l => exact fun s => sep_swap s
  | trans _ _ i1 i2 => exact fun s => i2 (i1 s)
theorem sepL_append {l m : List HP} {R : HP} : sepL (l ++ m) R = sepL l (sepL m R) := by simp [sepL]
theorem sepL_mono {l : List HP} {R R' : HP} (hr : ∀ h, R h → R' h) : ∀ {h : Hl}, sepL l R h → sepL l R' h := by
  induction l with
  | nil => exact fun s => hr _ s
  | cons A l ih => exact fun s => sep_mono s (fun _ a => a) fun _ b => ih b

structure Wd (w0 w : World) : Prop where
  os : w.os = w0.os
  tape : w.tape = w0.tape
  output : w.output = w0.output
  size : w0.heap.size ≤ w.heap.size
theorem Wd.refl (w : World) : Wd w w := ⟨rfl, rfl, rfl, Nat.le_refl _⟩
theorem Wd.trans {a b c : World} (h : Wd a b) (k : Wd b c) : Wd a c := ⟨k.os.trans h.os, k.tape.trans h.tape, k.output.trans h.output, Nat.le_trans h.size k.size⟩
theorem Wd.of_below {B : Nat} {w w' : World} (h : Below B w w') : Wd w w' := ⟨h.os, h.tape, h.output, h.size⟩

/-- a part of the heap holds A -/
def Sat (A : HP) (w : World) : Prop := ∃ h, Sub h w ∧ A h
theorem Sub.none {h : Hl} {w : World} (s : Sub h w) {i : Nat} (hi : w.heap.size ≤ i) : h i = none := by
  cases e : h i with
  | none => rfl
  | some o =>
    have := s i o e
    rw [Array.getElem?_eq_none hi] at this
    cases this
theorem Sub.un {h g : Hl} {w : World} (s : Sub h w) (t : Sub g w) : Sub (un h g) w := by
  intro i o e
  unfold Sy.un at e
  cases hh : h i with
  | none => rw [hh] at e; exact t i o (by simpa using e)
  | some x => rw [hh] at e; exact s i o (by rw [hh]; simpa using e)
theorem Sub.left {h g : Hl} {w : World} (s : Sub (Sy.un h g) w) : Sub h w := fun i o e => s i o (by unfold Sy.un; rw [e]; rfl)
theorem Sub.right {h g : Hl} {w : World} (d : Dj h g) (s : Sub (Sy.un h g) w) : Sub g w := fun i o e => s i o (by
  unfold Sy.un
  rcases d i with x | x
  · rw [x, e]; rfl
  · rw [x] at e; cases e)
theorem Sub.below {h : Hl} {w w' : World} (s : Sub h w) (hb : Below w.heap.size w w') : Sub h w' := by
  intro i o e
  have := s i o e
  rw [hb.block i _]
  · exact this
  · rcases Nat.lt_or_ge i w.heap.size with c | c
    · exact c
    · rw [s.none c] at e; cases e

/-! symbolic values and states -/
inductive SV where
  | v (x : Value)
  | k (b : Bool)
  | p (n off : Nat)
structure St where
  t : List (Nat × SV)
  o : List (Nat × TypeId × List SV)
  n : Nat
  h : List HP
  c : Prop
structure Gl where
  P : Program
  R : HP
  w0 : World
  N : Nat
  tr : Bool
  B : List Nat
  D : List Deferred := []
  X : List PanicEntry → Prop := fun _ => False

def SV.den (ρ : List Nat) : SV → Option Value
  | .v x => some x
  | .k b => some (.bool b)
  | .p n o => (ρ[n]?).map fun b => .pointer (some ⟨b, o, none⟩)
def denL (ρ : List Nat) (l : List SV) : Option (List Value) := l.mapM (SV.den ρ)
theorem denL_nil (ρ : List Nat) : denL ρ [] = some [] := rfl
theorem denL_cons {ρ : List Nat} {x : SV} {l : List SV} {r : List Value} : denL ρ (x :: l) = some r ↔ ∃ v vs, x.den ρ = some v ∧ denL ρ l = some vs ∧ r = v :: vs := by
  unfold denL
  rw [List.mapM_cons]
  cases hx : x.den ρ with
  | none => simp
  | some v =>
    cases hl : l.mapM (SV.den ρ) with
    | none => simp
    | some vs =>
      simp
      exact eq_comm
theorem den_ext {ρ : List Nat} {x : SV} {v : Value} (h : x.den ρ = some v) (m : List Nat) : x.den (ρ ++ m) = some v := by
  cases x with
  | v x => exact h
  | k b => exact h
  | p n o =>
    simp only [SV.den, Option.map_eq_some_iff] at h ⊢
    obtain ⟨b, hb, e⟩ := h
    refine ⟨b, ?_, e⟩
    rw [List.getElem?_append_left]
    · exact hb
    · exact (List.getElem?_eq_some_iff.1 hb).1
theorem denL_ext {ρ : List Nat} (m : List Nat) : ∀ {l : List SV} {vs : List Value}, denL ρ l = some vs → denL (ρ ++ m) l = some vs
  | [], vs, h => h
  | x :: l, vs, h => by
    obtain ⟨v, us, h1, h2, h3⟩ := denL_cons.1 h
    exact denL_cons.2 ⟨v, us, den_ext h1 m, denL_ext m h2, h3⟩
theorem denL_length {ρ : List Nat} : ∀ {l : List SV} {vs : List Value}, denL ρ l = some vs → vs.length = l.length
  | [], vs, h => by cases h; rfl
  | x :: l, vs, h => by
    obtain ⟨v, us, h1, h2, rfl⟩ := denL_cons.1 h
    simp [denL_length h2]

def getT : List (Nat × SV) → Nat → Option SV
  | [], _ => none
  | (k, x) :: l, t => match Nat.beq k t with
    | true => some x
    | false => getT l t
def getO : List (Nat × TypeId × List SV) → Nat → Option (TypeId × List SV)
  | [], _ => none
  | (k, x) :: l, t => match Nat.beq k t with
    | true => some x
    | false => getO l t

/-- the temporaries -/
structure Tm (G : Gl) (st : St) (ρ : List Nat) (a : Act) : Prop where
  size : a.tmps.size = G.N
  defs : a.defers = G.D
  get : ∀ t x, getT st.t t = some x → t < G.N ∧ x.den ρ = some (a.tmps.getD t undef)
/-- the memory -/
structure Mem (G : Gl) (st : St) (ρ : List Nat) (w : World) : Prop where
  wd : Wd G.w0 w
  len : ρ.length = st.n
  nd : ρ.Nodup
  lt : ∀ b ∈ ρ, b < w.heap.size
  no : (st.o.map (·.1)).Nodup
  ob : ∀ x ∈ st.o, ∃ b cs, ρ[x.1]? = some b ∧ denL ρ x.2.2 = some cs ∧ Blk w b x.2.1 cs.toArray
  kn : ∃ m, ρ = G.B ++ m
  hp : ∃ h, Sub h w ∧ sepL st.h G.R h ∧ ∀ x ∈ st.o, ∀ b, ρ[x.1]? = some b → h b = none

theorem beq_of {a b : Nat} (h : Nat.beq a b = true) : a = b := Nat.eq_of_beq_eq_true h
theorem getO_mem : ∀ {l : List (Nat × TypeId × List SV)} {n : Nat} {x : TypeId × List SV}, getO l n = some x → (n, x) ∈ l
  | [], _, _, h => by cases h
  | (k, y) :: l, n, x, h => by
    unfold getO at h
    split at h
    · rename_i e
      have := beq_of e
      subst this
      injection h with h
      subst h
      exact List.mem_cons_self
    · exact List.mem_cons_of_mem _ (getO_mem h)

theorem Mem.same {G : Gl} {st st' : St} {ρ : List Nat} {w : World} (m : Mem G st ρ w) (ho : st'.o = st.o) (hn : st'.n = st.n) (hh : st'.h = st.h) : Mem G st' ρ w := by
  obtain ⟨m1, m2, m3, m4, m5, m6, mk, m7⟩ := m
  exact ⟨m1, by rw [hn]; exact m2, m3, m4, by rw [ho]; exact m5, by rw [ho]; exact m6, mk, by rw [ho, hh]; exact m7⟩
/-- nothing that is there turns -/
theorem Mem.below {G : Gl} {st : St} {ρ : List Nat} {w w' : World} (m : Mem G st ρ w) (hb : Below w.heap.size w w') : Mem G st ρ w' := by
  obtain ⟨m1, m2, m3, m4, m5, m6, mk, h, m7, m8, m9⟩ := m
  refine ⟨m1.trans (.of_below hb), m2, m3, fun b hb' => Nat.lt_of_lt_of_le (m4 b hb') hb.size, m5, fun x hx => ?_, mk, h, m7.below hb, m8, m9⟩
  obtain ⟨b, cs, e1, e2, e3⟩ := m6 x hx
  exact ⟨b, cs, e1, e2, e3.kept hb⟩
theorem Mem.drew {G : Gl} {st : St} {ρ : List Nat} {w : World} (m : Mem G st ρ w) : Mem G st ρ { w with drawn := w.drawn + 1 } := m.below ((Below.refl _ _).drew)

/-- a new block -/
theorem Mem.new {G : Gl} {st : St} {ρ : List Nat} {w : World} (m : Mem G st ρ w) (t : TypeId) (cs : List SV) (vs : List Value) (hv : denL ρ cs = some vs) :
    Mem G { st with o := (st.n, t, cs) :: st.o, n := st.n + 1 } (ρ ++ [w.heap.size]) (w.alloc (.cells vs.toArray t)) := by
  obtain ⟨m1, m2, m3, m4, m5, m6, mk, h, m7, m8, m9⟩ := m
  have hb : Below w.heap.size w (w.alloc (.cells vs.toArray t)) := (Below.refl _ _).alloc (Nat.le_refl _) _
  have fresh : ∀ x ∈ st.o, x.1 < st.n := fun x hx => by
    obtain ⟨b, cs, e1, _⟩ := m6 x hx
    rw [← m2]
    exact (List.getElem?_eq_some_iff.1 e1).1
  have old : ∀ x ∈ st.o, ∀ b, (ρ ++ [w.heap.size])[x.1]? = some b → ρ[x.1]? = some b := fun x hx b e => by
    rwa [List.getElem?_append_left (by rw [m2]; exact fresh x hx)] at e
  have new : (ρ ++ [w.heap.size])[st.n]? = some w.heap.size := by rw [← m2]; simp
  refine ⟨m1.trans (.of_below hb), by simp [m2], ?_, ?_, ?_, ?_, ?_, h, m7.below hb, m8, ?_⟩
  · rw [List.nodup_append]
    refine ⟨m3, by simp, fun a ha b hb' => ?_⟩
    have : b = w.heap.size := by simpa using hb'
    subst this
    exact Nat.ne_of_lt (m4 a ha)
  · intro b hb'
    have hs : (w.alloc (.cells vs.toArray t)).heap.size = w.heap.size + 1 := by simp
    rw [hs]
    rcases List.mem_append.1 hb' with c | c
    · exact Nat.lt_succ_of_lt (m4 b c)
    · have : b = w.heap.size := by simpa using c
      omega
  · simp only [List.map_cons, List.nodup_cons]
    refine ⟨fun hx => ?_, m5⟩
    obtain ⟨x, hx, e⟩ := List.mem_map.1 hx
    have := fresh x hx
    omega
  · intro x hx
    rcases List.mem_cons.1 hx with rfl | hx
    · exact ⟨_, vs, new, denL_ext _ hv, Blk.new _ _ _⟩
    · obtain ⟨b, us, e1, e2, e3⟩ := m6 x hx
      exact ⟨b, us, by rw [List.getElem?_append_left (by rw [m2]; exact fresh x hx)]; exact e1, denL_ext _ e2, e3.kept hb⟩
  · obtain ⟨q, rfl⟩ := mk
    exact ⟨q ++ [w.heap.size], by rw [List.append_assoc]⟩
  · intro x hx b e
    rcases List.mem_cons.1 hx with rfl | hx
    · rw [new] at e
      injection e with e
      subst e
      exact m7.none (Nat.le_refl _)
    · exact m9 x hx b (old x hx b e)

def setO : List (Nat × TypeId × List SV) → Nat → List SV → List (Nat × TypeId × List SV)
  | [], _, _ => []
  | (k, x) :: l, t, y => match Nat.beq k t with
    | true => (k, x.1, y) :: l
    | false => (k, x) :: setO l t y
theorem setO_names (n : Nat) (y : List SV) : ∀ l : List (Nat × TypeId × List SV), (setO l n y).map (·.1) = l.map (·.1)
  | [] => rfl
  | (k, x) :: l => by
    unfold setO
    split
    · rfl
    · simp [setO_names n y l]
theorem setO_mem {n : Nat} {y : List SV} : ∀ {l : List (Nat × TypeId × List SV)} {x : Nat × TypeId × List SV}, (l.map (·.1)).Nodup → x ∈ setO l n y →
    (x.1 = n ∧ x.2.2 = y ∧ ∃ z, (n, x.2.1, z) ∈ l) ∨ (x.1 ≠ n ∧ x ∈ l)
  | [], x, _, h => by cases h
  | (k, z) :: l, x, hn, h => by
    have hn' := List.nodup_cons.1 hn
    unfold setO at h
    split at h
    · rename_i e
      have := beq_of e
      subst this
      rcases List.mem_cons.1 h with rfl | h
      · exact .inl ⟨rfl, rfl, z.2, List.mem_cons_self⟩
      · refine .inr ⟨fun e => hn'.1 (List.mem_map.2 ⟨x, h, e⟩), List.mem_cons_of_mem _ h⟩
    · rename_i e
      have hk : k ≠ n := fun c => by subst c; rw [Nat.beq_refl] at e; cases e
      rcases List.mem_cons.1 h with rfl | h
      · exact .inr ⟨hk, List.mem_cons_self⟩
      · rcases setO_mem hn'.2 h with ⟨a, b, z, c⟩ | ⟨a, b⟩
        · exact .inl ⟨a, b, z, List.mem_cons_of_mem _ c⟩
        · exact .inr ⟨a, List.mem_cons_of_mem _ b⟩

/-- a block of the call's own is written -/
theorem Mem.set_ {G : Gl} {st : St} {ρ : List Nat} {w : World} (m : Mem G st ρ w) {n b : Nat} {t : TypeId} {cs ys : List SV} {us : List Value} (hx : getO st.o n = some (t, cs)) (hb : ρ[n]? = some b) (hy : denL ρ ys = some us) {cur : Array Value} (hB : Blk w b t cur) :
    Mem G { st with o := setO st.o n ys } ρ (w.setRow b us.toArray) := by
  obtain ⟨m1, m2, m3, m4, m5, m6, mk, h, m7, m8, m9⟩ := m
  have hm := getO_mem hx
  have hh : (w.setRow b us.toArray).heap[b]? = some (.cells us.toArray t (0, 0)) := setRow_heap w b cur us.toArray t (0, 0) hB
  have hs : (w.setRow b us.toArray).heap.size = w.heap.size := by simp [World.setRow]
  have ho : ∀ i, i ≠ b → (w.setRow b us.toArray).heap[i]? = w.heap[i]? := fun i hi => by
    simp only [World.setRow, Array.getElem?_modify]
    rw [if_neg (fun e => hi e.symm)]
  have hbn := m9 _ hm b hb
  have inj : ∀ k, ρ[k]? = some b → k = n := fun k hk => by
    have h1 := (List.getElem?_eq_some_iff.1 hk)
    have h2 := (List.getElem?_eq_some_iff.1 hb)
    exact (List.getElem_inj m3).1 (h1.2.trans h2.2.symm)
  refine ⟨⟨m1.os, m1.tape, m1.output, by rw [hs]; exact m1.size⟩, m2, m3, fun x hx' => by rw [hs]; exact m4 x hx', ?_, ?_, mk, h, ?_, m8, ?_⟩
  · simp only [setO_names]; exact m5
  · intro x hx'
    rcases setO_mem m5 hx' with ⟨e1, e2, z, hz⟩ | ⟨e1, e2⟩
    · refine ⟨b, us, by rw [e1]; exact hb, by rw [e2]; exact hy, ?_⟩
      have : x.2.1 = t := by
        obtain ⟨b1, c1, g1, g2, g3⟩ := m6 _ hz
        simp only at g1 g3
        rw [hb] at g1
        injection g1 with g1
        subst g1
        have hB' : w.heap[b]? = _ := hB
        have g3' : w.heap[b]? = _ := g3
        rw [hB'] at g3'
        injection g3' with q
        injection q with _ q2
        exact q2.symm
      rw [this]
      exact hh
    · obtain ⟨b1, c1, g1, g2, g3⟩ := m6 x e2
      have hne : b1 ≠ b := fun e => e1 (inj _ (by rw [← e]; exact g1))
      exact ⟨b1, c1, g1, g2, (ho b1 hne).trans g3⟩
  · intro i o e
    by_cases hi : i = b
    · subst hi; rw [hbn] at e; cases e
    · rw [ho i hi]; exact m7 i o e
  · intro x hx' b' e
    have : x.1 ∈ (setO st.o n ys).map (·.1) := List.mem_map.2 ⟨x, hx', rfl⟩
    rw [setO_names] at this
    obtain ⟨z, hz, ez⟩ := List.mem_map.1 this
    exact m9 z hz b' (by rw [ez]; exact e)
end Sy
end Go.Proofs.YtgdbdebieghnkaaGreat

/-
  Symbolic runs: the operations that only compute or read, and why they are right.
-/
namespace Go.Proofs.YtgdbdebieghnkaaGreat
open Go.RowKit
namespace Sy
set_option linter.unusedVariables false
set_option linter.unusedSimpArgs false

def rng (k : IntKind) (n : Int) : Prop := match k with
  | .i8 => -128 ≤ n ∧ n ≤ 127
  | .i16 => -32768 ≤ n ∧ n ≤ 32767
  | .i32 => -2147483648 ≤ n ∧ n ≤ 2147483647
  | .i64 => -9223372036854775808 ≤ n ∧ n ≤ 9223372036854775807
  | _ => False
theorem rng_wrap {k : IntKind} {n : Int} (h : rng k n) : k.wrap n = n := by
  cases k <;> first | exact IntWalk.i8_in n h | exact IntWalk.i16_in n h | exact IntWalk.i32_in n h | exact IntWalk.i64_in n h | exact h.elim

def holds : Option Prop → Prop
  | none => True
  | some p => p

def ev (st : St) (x : Operand) (F : Prop) (K : SV → Prop) : Prop :=
  match x with
  | .tmp t => match getT st.t t with
    | some v => K v
    | none => F
  | .const v => match v with
    | .bool b => K (.k b)
    | v => K (.v v)
  | .func f => K (.v (.func (.func f) #[] #[]))
  | .global g => K (.v (.pointer (some ⟨g, 0, none⟩)))
theorem ev_sound {st : St} {x : Operand} {F : Prop} {K : SV → Prop} (h : ev st x F K) : F ∨ ∃ s, K s ∧ ∀ G ρ a, Tm G st ρ a → s.den ρ = some (a.eval x) := by
  unfold ev at h
  split at h
  · split at h
    · rename_i t v e
      exact .inr ⟨v, h, fun G ρ a m => (m.get _ _ e).2⟩
    · exact .inl h
  · split at h
    · exact .inr ⟨_, h, fun G ρ a m => rfl⟩
    · exact .inr ⟨_, h, fun G ρ a m => rfl⟩
  · exact .inr ⟨_, h, fun G ρ a m => rfl⟩
  · exact .inr ⟨_, h, fun G ρ a m => rfl⟩
def evs (st : St) (F : Prop) : List Operand → (List SV → Prop) → Prop
  | [], K => K []
  | x :: l, K => ev st x F fun v => evs st F l fun vs => K (v :: vs)
theorem evs_sound {st : St} {F : Prop} : ∀ {l : List Operand} {K : List SV → Prop}, evs st F l K → F ∨ ∃ ss, K ss ∧ ∀ G ρ a, Tm G st ρ a → denL ρ ss = some (l.map a.eval)
  | [], K, h => .inr ⟨[], h, fun _ _ _ _ => rfl⟩
  | x :: l, K, h => by
    rcases ev_sound h with h | ⟨s, h, e⟩
    · exact .inl h
    · rcases evs_sound h with h | ⟨ss, h, e'⟩
      · exact .inl h
      · exact .inr ⟨_, h, fun G ρ a m => denL_cons.2 ⟨_, _, e G ρ a m, e' G ρ a m, rfl⟩⟩
def reals (F : Prop) : List SV → (List Value → Prop) → Prop
  | [], K => K []
  | .v x :: l, K => reals F l fun r => K (x :: r)
  | .k b :: l, K => reals F l fun r => K (.bool b :: r)
  | .p _ _ :: _, _ => F
theorem reals_sound {F : Prop} : ∀ {l : List SV} {K : List Value → Prop}, reals F l K → F ∨ ∃ vs, K vs ∧ ∀ ρ, denL ρ l = some vs
  | [], K, h => .inr ⟨[], h, fun _ => rfl⟩
  | .v x :: l, K, h => by
    rcases reals_sound (l := l) h with h | ⟨vs, h, e⟩
    · exact .inl h
    · exact .inr ⟨_, h, fun ρ => denL_cons.2 ⟨_, _, rfl, e ρ, rfl⟩⟩
  | .k b :: l, K, h => by
    rcases reals_sound (l := l) h with h | ⟨vs, h, e⟩
    · exact .inl h
    · exact .inr ⟨_, h, fun ρ => denL_cons.2 ⟨_, _, rfl, e ρ, rfl⟩⟩
  | .p _ _ :: _, K, h => .inl h
def asB (x : SV) (F : Prop) (K : Bool → Prop) : Prop := match x with
  | .k b => K b
  | .v (.bool b) => K b
  | _ => F
theorem asB_sound {x : SV} {F : Prop} {K : Bool → Prop} (h : asB x F K) : F ∨ ∃ b, K b ∧ ∀ ρ, x.den ρ = some (.bool b) := by
  unfold asB at h
  split at h
  · exact .inr ⟨_, h, fun _ => rfl⟩
  · exact .inr ⟨_, h, fun _ => rfl⟩
  · exact .inl h

def szT (P : Program) (t : TypeId) : Nat := match P.info? t with
  | some i => i.size
  | none => 0

abbrev Kq := SV → Option Prop → Prop

def arith (k : IntKind) (r : Int) (K : Kq) : Prop := match k.signed with
  | true => K (.v (.int k r)) (some (rng k r))
  | false => K (.v (.int k (k.wrap r))) none
theorem arith_sound {k : IntKind} {r : Int} {K : Kq} (h : arith k r K) : ∃ z q, K (.v (.int k z)) q ∧ (holds q → k.wrap r = z) := by
  unfold arith at h
  split at h
  · exact ⟨_, _, h, fun q => rng_wrap q⟩
  · exact ⟨_, _, h, fun _ => rfl⟩

def binI (tr : Bool) (op : BinOp) (k : IntKind) (a b : Int) (K : Kq) : Prop := match op with
  | .add => arith k (a + b) K
  | .sub => arith k (a - b) K
  | .mul => arith k (a * b) K
  | .lss => K (.v (.bool (decide (a < b)))) none
  | .leq => K (.v (.bool (decide (a ≤ b)))) none
  | .gtr => K (.v (.bool (decide (b < a)))) none
  | .geq => K (.v (.bool (decide (b ≤ a)))) none
  | .eql => K (.v (.bool (decide (a = b)))) none
  | .neq => K (.v (.bool (!decide (a = b)))) none
  | .quo => match tr with
    | true => K (.v (.int k (a.tdiv b))) (some (b ≠ 0 ∧ k.wrap (a.tdiv b) = a.tdiv b))
    | false => K (.v (.int k (a / b))) (some ((0 ≤ a ∧ 0 < b) ∧ rng k (a / b)))
  | .rem => match tr with
    | true => K (.v (.int k (a.tmod b))) (some (b ≠ 0))
    | false => K (.v (.int k (a % b))) (some (0 ≤ a ∧ 0 < b))
  | .shl => match k.signed with
    | true => K (.v (.int k (a * 2 ^ b.toNat))) (some ((0 ≤ b ∧ b ≤ k.bits) ∧ rng k (a * 2 ^ b.toNat)))
    | false => K (.v (.int k (k.wrap (a * 2 ^ b.toNat)))) (some (0 ≤ b ∧ b ≤ k.bits))
  | .shr => K (.v (.int k (a / 2 ^ b.toNat))) (some (0 ≤ b ∧ b ≤ k.bits))
  | .and => K (.v (.int k (bits .and k a b))) none
  | .or => K (.v (.int k (bits .or k a b))) none
  | .xor => K (.v (.int k (bits .xor k a b))) none
  | .andNot => K (.v (.int k (bits .andNot k a b))) none

theorem binI_sound {tr : Bool} {op : BinOp} {k : IntKind} {a b : Int} {K : Kq} (h : binI tr op k a b K) :
    ∃ z q, K (.v z) q ∧ (holds q → ∀ (P : Program) (t : TypeId) (k' : IntKind) (hk : op = .shl ∨ op = .shr ∨ k = k') (w : World), (binOp op t (.int k a) (.int k' b)).run P w = .ok z w) := by
  have key : ∀ {op : BinOp} {z : Value} {q : Option Prop}, op ≠ .shl → op ≠ .shr → (holds q → ∀ (P : Program) (t : TypeId) (w : World), (binOp op t (.int k a) (.int k b)).run P w = .ok z w) →
      (holds q → ∀ (P : Program) (t : TypeId) (k' : IntKind) (hk : op = .shl ∨ op = .shr ∨ k = k') (w : World), (binOp op t (.int k a) (.int k' b)).run P w = .ok z w) := by
    intro op z q h1 h2 h3 hq P t k' hk w
    rcases hk with hk | hk | rfl
    · exact absurd hk h1
    · exact absurd hk h2
    · exact h3 hq P t w
  cases op
  case add => obtain ⟨z, q, h, e⟩ := arith_sound h; exact ⟨_, _, h, key (by simp) (by simp) fun hq P t w => by simp [binOp, Op.intArith, e hq]⟩
  case sub => obtain ⟨z, q, h, e⟩ := arith_sound h; exact ⟨_, _, h, key (by simp) (by simp) fun hq P t w => by simp [binOp, Op.intArith, e hq]⟩
  case mul => obtain ⟨z, q, h, e⟩ := arith_sound h; exact ⟨_, _, h, key (by simp) (by simp) fun hq P t w => by simp [binOp, Op.intArith, e hq]⟩
  case lss => exact ⟨_, _, h, key (by simp) (by simp) fun hq P t w => by simp [binOp, Op.intCmp]⟩
  case leq => exact ⟨_, _, h, key (by simp) (by simp) fun hq P t w => by simp [binOp, Op.intCmp]⟩
  case gtr => exact ⟨_, _, h, key (by simp) (by simp) fun hq P t w => by simp [binOp, Op.intCmp]⟩
  case geq => exact ⟨_, _, h, key (by simp) (by simp) fun hq P t w => by simp [binOp, Op.intCmp]⟩
  case eql => exact ⟨_, _, h, key (by simp) (by simp) fun hq P t w => by simp [binOp, Op.intCmp]; rfl⟩
  case neq => exact ⟨_, _, h, key (by simp) (by simp) fun hq P t w => by simp [binOp, Op.intCmp]; rfl⟩
  case quo =>
    unfold binI at h
    cases tr
    · refine ⟨_, _, h, key (by simp) (by simp) fun hq P t w => ?_⟩
      obtain ⟨⟨h1, h2⟩, h3⟩ := hq
      have hb : b ≠ 0 := by omega
      simp [binOp, Op.intDiv, hb, Int.tdiv_eq_ediv_of_nonneg h1, rng_wrap h3]
    · refine ⟨_, _, h, key (by simp) (by simp) fun hq P t w => ?_⟩
      obtain ⟨h1, h2⟩ := hq
      simp [binOp, Op.intDiv, h1, h2]
  case rem =>
    unfold binI at h
    cases tr
    · refine ⟨_, _, h, key (by simp) (by simp) fun hq P t w => ?_⟩
      obtain ⟨h1, h2⟩ := hq
      have hb : b ≠ 0 := by omega
      simp [binOp, Op.intDiv, hb, Int.tmod_eq_emod_of_nonneg h1]
    · refine ⟨_, _, h, key (by simp) (by simp) fun hq P t w => ?_⟩
      have hb : b ≠ 0 := hq
      simp [binOp, Op.intDiv, hb]
  case shl =>
    simp only [binI] at h
    split at h
    · refine ⟨_, _, h, fun hq P t k' hk w => ?_⟩
      obtain ⟨⟨h1, h2⟩, h3⟩ := hq
      simp only [binOp, shift_shl k k' a b h1 h2, rng_wrap h3, Sem.run_pure]
    · refine ⟨_, _, h, fun hq P t k' hk w => ?_⟩
      obtain ⟨h1, h2⟩ := hq
      simp only [binOp, shift_shl k k' a b h1 h2, Sem.run_pure]
  case shr =>
    refine ⟨_, _, h, fun hq P t k' hk w => ?_⟩
    obtain ⟨h1, h2⟩ := hq
    simp only [binOp, shift_shr k k' a b h1 h2, Sem.run_pure]
  case and => exact ⟨_, _, h, key (by simp) (by simp) fun hq P t w => by simp [binOp, intBits_and]⟩
  case or => exact ⟨_, _, h, key (by simp) (by simp) fun hq P t w => by simp [binOp, intBits_or]⟩
  case xor => exact ⟨_, _, h, key (by simp) (by simp) fun hq P t w => by simp [binOp, intBits_xor]⟩
  case andNot => exact ⟨_, _, h, key (by simp) (by simp) fun hq P t w => by simp [binOp, intBits_andNot]⟩

/-- what a computation that touches no memory comes to -/
def pureVal {α : Type} (P : Program) : Sem α → Option α
  | .pure a => some a
  | .program k => pureVal P (k P)
  | .mark _ k => pureVal P k
  | _ => none
theorem pureVal_sound {α : Type} {P : Program} : ∀ {s : Sem α} {a : α}, pureVal P s = some a → ∀ w, s.run P w = .ok a w
  | .pure a, b, h, w => by
    simp only [pureVal, Option.some.injEq] at h
    subst h; rfl
  | .program k, b, h, w => pureVal_sound (s := k P) h w
  | .mark _ k, b, h, w => pureVal_sound (s := k) h w
  | .load .., _, h, _ => by cases h
  | .store .., _, h, _ => by cases h
  | .new .., _, h, _ => by cases h
  | .shape .., _, h, _ => by cases h
  | .freeze .., _, h, _ => by cases h
  | .frozen .., _, h, _ => by cases h
  | .getObj .., _, h, _ => by cases h
  | .setObj .., _, h, _ => by cases h
  | .choose .., _, h, _ => by cases h
  | .sys .., _, h, _ => by cases h
  | .halt .., _, h, _ => by cases h

/-- what stands in a state, where it is a plain value -/
def evR (st : St) : Operand → Value
  | .tmp t => match getT st.t t with
    | some (.v v) => v
    | some (.k b) => .bool b
    | _ => undef
  | .const v => v
  | .global g => .pointer (some ⟨g, 0, none⟩)
  | .func f => .func (.func f) #[] #[]
def isR (st : St) : Operand → Bool
  | .tmp t => match getT st.t t with
    | some (.v _) => true
    | some (.k _) => true
    | _ => false
  | _ => true
def allR (st : St) : List Operand → Bool
  | [] => true
  | x :: l => match isR st x with
    | true => allR st l
    | false => false
theorem isR_sound {st : St} {x : Operand} (h : isR st x = true) {G : Gl} {ρ : List Nat} {a : Act} (m : Tm G st ρ a) : a.eval x = evR st x := by
  cases x with
  | tmp t =>
    simp only [isR] at h
    simp only [evR, Act.eval]
    split at h
    · rename_i e; have := (m.get _ _ e).2; simpa [SV.den] using this.symm
    · rename_i e; have := (m.get _ _ e).2; simpa [SV.den] using this.symm
    · cases h
  | const v => rfl
  | global g => rfl
  | func f => rfl
theorem allR_sound {st : St} {G : Gl} {ρ : List Nat} {a : Act} (m : Tm G st ρ a) : ∀ {l : List Operand}, allR st l = true → ∀ x ∈ l, a.eval x = evR st x
  | [], _, x, hx => by cases hx
  | y :: l, h, x, hx => by
    unfold allR at h
    split at h
    · rename_i e
      rcases List.mem_cons.1 hx with rfl | hx
      · exact isR_sound e m
      · exact allR_sound m h x hx
    · cases h

def forceL {α : Type} : List α → (List α → Prop) → Prop
  | [], K => K []
  | a :: l, K => forceL l fun r => K (a :: r)
theorem forceL_eq {α : Type} : ∀ {l : List α} {K : List α → Prop}, forceL l K → K l
  | [], K, h => h
  | a :: l, K, h => forceL_eq (l := l) h
/-- an operation on plain values that touches no memory, by the model's own text -/
def notSel (o : Op) : Bool := match o with
  | .select _ _ => false
  | _ => true
/-- those that the model's own text is run for -/
def plainOp (o : Op) : Bool := match o with
  | .nilCheck _ => true
  | .field _ _ _ => true
  | .extract _ _ => true
  | .binOp _ _ _ _ _ => true
  | _ => false
theorem plain_notSel {o : Op} (h : plainOp o = true) : notSel o = true := by cases o <;> first | rfl | cases h
theorem notSel_spec {o : Op} (h : notSel o = true) (cs : Array SelectCase) (b : Bool) : o ≠ .select cs b := by
  rintro rfl; cases h
def qPure (P : Program) (st : St) (o : Oper) (F : Prop) (K : Kq) : Prop :=
  match plainOp o.op with
  | true => match allR st o.op.operands.toList with
    | true => match pureVal P (execOp (evR st) o) with
      | some (.value v) => match v with
        | .agg cs => forceL cs.toList fun l => K (.v (.agg l.toArray)) none
        | v => K (.v v) none
      | _ => F
    | false => F
  | false => F

/-- the objects of a state -/
def Ob (st : St) (ρ : List Nat) (w : World) : Prop := ∀ x ∈ st.o, ∃ b cs, ρ[x.1]? = some b ∧ denL ρ x.2.2 = some cs ∧ Blk w b x.2.1 cs.toArray

/-- in every world in which the objects are as the state says, the operation yields just this -/
def Yl (P : Program) (st : St) (o : Oper) (x : SV) : Prop :=
  ∀ G ρ a w, Tm G st ρ a → Ob st ρ w → ∃ v, x.den ρ = some v ∧ (execOp a.eval o).run P w = .ok (.value v) w

theorem qPure_sound {P : Program} {st : St} {o : Oper} {F : Prop} {K : Kq} (h : qPure P st o F K) : F ∨ ∃ x q, K x q ∧ (holds q → Yl P st o x) := by
  unfold qPure at h
  split at h
  · rename_i hs
    split at h
    · rename_i hr
      split at h
      · rename_i v e
        have key : Yl P st o (.v v) := fun G ρ a w m _ => by
          refine ⟨v, rfl, ?_⟩
          have hc : execOp a.eval o = execOp (evR st) o := execOp_congr o (fun cs b => notSel_spec (plain_notSel hs) cs b) fun x hx => allR_sound m hr x (by simpa using hx)
          rw [hc]
          exact pureVal_sound e w
        split at h
        · have h' := forceL_eq h
          simp only [Array.toArray_toList] at h'
          exact .inr ⟨_, _, h', fun _ => key⟩
        · exact .inr ⟨_, _, h, fun _ => key⟩
      · exact .inl h
    · exact .inl h
  · exact .inl h

def qLoad (P : Program) (t : TypeId) (cs : List SV) (off : Nat) (F : Prop) (K : Kq) : Prop := match P.underlying t with
  | some d => match d.isRow with
    | true => match P.info? t with
      | some i => reals F ((cs.drop off).take i.size) fun vs => match Nat.beq vs.length i.size with
        | true => K (.v (.agg vs.toArray)) none
        | false => F
      | none => F
    | false => match cs[off]? with
      | some x => K x none
      | none => F
  | none => F
theorem denL_at {ρ : List Nat} : ∀ {l : List SV} {vs : List Value} {i : Nat} {x : SV}, denL ρ l = some vs → l[i]? = some x → ∃ v, vs[i]? = some v ∧ x.den ρ = some v
  | [], vs, i, x, _, h => by simp at h
  | y :: l, vs, 0, x, h, hi => by
    obtain ⟨v, us, h1, h2, rfl⟩ := denL_cons.1 h
    simp at hi; subst hi
    exact ⟨v, by simp, h1⟩
  | y :: l, vs, i + 1, x, h, hi => by
    obtain ⟨v, us, h1, h2, rfl⟩ := denL_cons.1 h
    obtain ⟨u, e1, e2⟩ := denL_at (i := i) h2 (by simpa using hi)
    exact ⟨u, by simpa using e1, e2⟩
theorem denL_drop {ρ : List Nat} : ∀ {l : List SV} {vs : List Value} (n : Nat), denL ρ l = some vs → denL ρ (l.drop n) = some (vs.drop n)
  | l, vs, 0, h => by simpa using h
  | [], vs, n + 1, h => by cases h; rfl
  | y :: l, vs, n + 1, h => by
    obtain ⟨v, us, h1, h2, rfl⟩ := denL_cons.1 h
    simpa using denL_drop n h2
theorem denL_take {ρ : List Nat} : ∀ {l : List SV} {vs : List Value} (n : Nat), denL ρ l = some vs → denL ρ (l.take n) = some (vs.take n)
  | l, vs, 0, h => by simp [denL]
  | [], vs, n + 1, h => by cases h; rfl
  | y :: l, vs, n + 1, h => by
    obtain ⟨v, us, h1, h2, rfl⟩ := denL_cons.1 h
    simp only [List.take_succ_cons]
    exact denL_cons.2 ⟨v, _, h1, denL_take n h2, rfl⟩
theorem qLoad_sound {P : Program} {t : TypeId} {cs : List SV} {off : Nat} {F : Prop} {K : Kq} (h : qLoad P t cs off F K) :
    F ∨ ∃ x, K x none ∧ ∀ ρ w b ty us, denL ρ cs = some us → Blk w b ty us.toArray → ∃ v, x.den ρ = some v ∧ (Instr.loadAt t (.pointer (some ⟨b, off, none⟩))).run P w = .ok v w := by
  unfold qLoad at h
  split at h
  · rename_i d hd
    split at h
    · rename_i hrow
      split at h
      · rename_i i hi
        rcases reals_sound h with h | ⟨vs, h, e⟩
        · exact .inl h
        · split at h
          · rename_i hl
            have hl' := beq_of hl
            refine .inr ⟨_, h, fun ρ w b ty us hu hB => ⟨_, rfl, ?_⟩⟩
            have e1 := denL_take i.size (denL_drop off hu)
            rw [e ρ] at e1
            injection e1 with e1
            refine run_loadAt_mid w b off t vs d (fun j v hv => ?_) hd hrow (by simp [hi, hl'])
            rw [hB.cell]
            rw [e1, List.getElem?_take] at hv
            split at hv
            · simpa using hv
            · cases hv
          · exact .inl h
      · exact .inl h
    · rename_i hrow
      split at h
      · rename_i x hx
        refine .inr ⟨x, h, fun ρ w b ty us hu hB => ?_⟩
        obtain ⟨v, hv, hxv⟩ := denL_at hu hx
        refine ⟨v, hxv, ?_⟩
        have hagg : (isAgg t).run P w = .ok false w := by
          unfold isAgg
          rw [Sem.run_bind, run_underlying hd w]
          cases d <;> simp_all
        have hc : w.cell? ⟨b, off, none⟩ = some v := by rw [hB.cell]; simpa using hv
        simp [Instr.loadAt, Instr.sureAddr, loadVar, hagg, load, Sem.run, hc]
      · exact .inl h
  · exact .inl h
end Sy
end Go.Proofs.YtgdbdebieghnkaaGreat

/-
  Symbolic runs: one operation that only computes or reads.
-/
namespace Go.Proofs.YtgdbdebieghnkaaGreat
open Go.RowKit
namespace Sy
set_option linter.unusedVariables false
set_option linter.unusedSimpArgs false

def qField (P : Program) (t : TypeId) (f : Nat) (F : Prop) (K : Nat → Prop) : Prop := match P.underlying t with
  | some (.struct fs) => match fs.toList[f]? with
    | some fd => match P.info? fd.type with
      | some i => match i.size with
        | 0 => F
        | _ + 1 => K fd.offset
      | none => F
    | none => F
  | _ => F
theorem qField_sound {P : Program} {t : TypeId} {f : Nat} {F : Prop} {K : Nat → Prop} (h : qField P t f F K) :
    F ∨ ∃ d, K d ∧ ∀ b off w, (Instr.fieldAt t (.pointer (some ⟨b, off, none⟩)) f).run P w = .ok (.pointer (some ⟨b, off + d, none⟩)) w := by
  unfold qField at h
  split at h
  · rename_i fs hu
    split at h
    · rename_i fd hf
      split at h
      · rename_i i hi
        split at h
        · exact .inl h
        · rename_i m hm
          refine .inr ⟨_, h, fun b off w => ?_⟩
          have hf' : fs[f]? = some fd := by simpa using hf
          simp [Instr.fieldAt, run_underlying hu, hf', Instr.sureAddr, fieldPlace, sizeOf, typeInfo, hi, hm, Addr.add_mid]
      · exact .inl h
    · exact .inl h
  · exact .inl h

theorem equal_nil {P : Program} {t e : TypeId} (hu : P.underlying t = some (.pointer e)) (A : Option Addr) (w : World) : (Op.equal t (.pointer A) (.pointer none)).run P w = .ok A.isNone w := by
  show (Op.equalIn (9999 + 1) t (.pointer A) (.pointer none)).run P w = _
  unfold Op.equalIn
  cases A <;> simp [run_underlying hu]

def sameK (a b : IntKind) : Bool := decide (a = b)

def nilQ (P : Program) (t : TypeId) (op : BinOp) (r : Bool) (F : Prop) (K : Kq) : Prop := match P.underlying t with
  | some (.pointer _) => match op with
    | .eql => K (.k r) none
    | .neq => K (.k (!r)) none
    | _ => F
  | _ => F

/-- where the fields lie -/
def plc (P : Program) : List Field → Option (List (Nat × Nat))
  | [] => some []
  | f :: l => match P.info? f.type with
    | some i => match plc P l with
      | some r => some ((f.offset, i.size) :: r)
      | none => none
    | none => none
def pf (f : Field) : Sem (Nat × Nat) := do pure (f.offset, ← sizeOf f.type)
theorem plc_sound {P : Program} {w : World} : ∀ {l : List Field} {r : List (Nat × Nat)}, plc P l = some r → Sem.run P (l.mapM pf) w = Result.ok r w
  | [], r, h => by cases h; rfl
  | f :: l, r, h => by
    unfold plc at h
    split at h
    · rename_i i hi
      split at h
      · rename_i r' hr
        injection h with h
        subst h
        have h1 := plc_sound (w := w) hr
        have h2 : Sem.run P (pf f) w = .ok (f.offset, i.size) w := by simp [pf, sizeOf, typeInfo, hi]
        rw [List.mapM_cons]
        simp only [Sem.run_bind, h1, h2, Result.andThen_ok, Sem.run_pure]
      · cases h
    · cases h
def zipI : List (Nat × Operand) → List Value → List (Nat × Value)
  | (i, _) :: l, v :: r => (i, v) :: zipI l r
  | _, _ => []
theorem zipI_eq {ev : Operand → Value} : ∀ {l : List (Nat × Operand)}, zipI l ((l.map (·.2)).map ev) = l.map fun (i, x) => (i, ev x)
  | [] => rfl
  | (i, x) :: l => by
    simp only [List.map_cons, zipI]
    rw [zipI_eq (l := l)]
def snds : List (Nat × Operand) → List Operand
  | [] => []
  | (_, x) :: l => x :: snds l
theorem snds_eq : ∀ l : List (Nat × Operand), snds l = l.map (·.2)
  | [] => rfl
  | (_, x) :: l => by simp [snds, snds_eq l]
/-- values written one behind the other -/
def putsL : List Value → Nat → List Value → List Value
  | cs, _, [] => cs
  | cs, off, v :: vs => putsL (cs.set off v) (off + 1) vs
theorem putsL_len : ∀ (vs cs : List Value) (off : Nat), (putsL cs off vs).length = cs.length
  | [], cs, off => rfl
  | v :: vs, cs, off => by rw [putsL, putsL_len vs]; simp
def fillK (pl : List (Nat × Nat)) (F : Prop) : List (Nat × Value) → List Value → (List Value → Prop) → Prop
  | [], cs, K => K cs
  | (i, v) :: rest, cs, K => match pl[i]? with
    | none => F
    | some (off, size) => forceL v.cells.toList fun vl => match Nat.beq vl.length size with
      | true => match Nat.ble (off + vl.length) cs.length with
        | true => forceL (putsL cs off vl) fun cs => fillK pl F rest cs K
        | false => F
      | false => F
theorem putsL_fold : ∀ (vs : List Value) (cs : List Value) (off k : Nat), ((vs.zipIdx k).foldl (fun (cs : Array Value) (x : Value × Nat) => cs.setIfInBounds (off + x.2) x.1) cs.toArray) = (putsL cs (off + k) vs).toArray
  | [], cs, off, k => rfl
  | v :: vs, cs, off, k => by
    rw [List.zipIdx_cons, List.foldl_cons, putsL]
    have e : cs.toArray.setIfInBounds (off + k) v = (cs.set (off + k) v).toArray := by simp
    rw [e, putsL_fold vs _ off (k + 1)]
    rfl
theorem fillK_sound {pl : List (Nat × Nat)} {F : Prop} : ∀ {ps : List (Nat × Value)} {cs : List Value} {K : List Value → Prop}, fillK pl F ps cs K → F ∨ ∃ l, K l ∧ Instr.fill (fun i : Nat => pl[i]?) cs.toArray ps = some l.toArray
  | [], cs, K, h => .inr ⟨cs, h, rfl⟩
  | (i, v) :: rest, cs, K, h => by
    unfold fillK at h
    split at h
    · exact .inl h
    · rename_i off size hi
      have h := forceL_eq h
      split at h
      · rename_i h1
        split at h
        · rename_i h2
          have h := forceL_eq h
          rcases fillK_sound h with h | ⟨l, h, e⟩
          · exact .inl h
          refine .inr ⟨l, h, ?_⟩
          have e1 := beq_of h1
          have e2 := Nat.le_of_ble_eq_true h2
          simp only [Array.length_toList] at e1 e2
          unfold Instr.fill
          simp only [hi]
          rw [if_neg (by simp only [List.size_toArray, Bool.or_eq_true, decide_eq_true_eq]; omega)]
          have hf := putsL_fold v.cells.toList cs off 0
          rw [Nat.add_zero] at hf
          have hz : v.cells.zipIdx.foldl (fun (cs : Array Value) (x : Value × Nat) => cs.setIfInBounds (off + x.2) x.1) cs.toArray = (putsL cs off v.cells.toList).toArray := by
            rw [← hf, ← Array.foldl_toList, Array.toList_zipIdx]
          rw [← e]
          congr 1
        · exact .inl h
      · exact .inl h
def qBuild (P : Program) (st : St) (t : TypeId) (parts : Array (Nat × Operand)) (F : Prop) (K : Kq) : Prop := match P.info? t with
  | some i => match i.zero with
    | some z => match P.underlying t with
      | some (.struct fs) => match plc P fs.toList with
        | some pl => evs st F (snds parts.toList) fun xs => reals F xs fun vs => forceL z.cells.toList fun zl => fillK pl F (zipI parts.toList vs) zl fun l => K (.v (.agg l.toArray)) none
        | none => F
      | _ => F
    | none => F
  | none => F
theorem qBuild_sound {P : Program} {st : St} {t : TypeId} {parts : Array (Nat × Operand)} {o : Oper} (ho : o.op = .build t parts) {F : Prop} {K : Kq} (h : qBuild P st t parts F K) : F ∨ ∃ x q, K x q ∧ (holds q → Yl P st o x) := by
  unfold qBuild at h
  split at h
  · rename_i i hi
    split at h
    · rename_i z hz
      split at h
      · rename_i fs hu
        split at h
        · rename_i pl hpl
          rcases evs_sound h with h | ⟨xs, h, e⟩
          · exact .inl h
          rcases reals_sound h with h | ⟨vs, h, e'⟩
          · exact .inl h
          have h := forceL_eq h
          rcases fillK_sound h with h | ⟨cl, h, hcs⟩
          · exact .inl h
          · obtain ⟨cs, rfl⟩ : ∃ cs : Array Value, cl = cs.toList := ⟨cl.toArray, by simp⟩
            rw [Array.toArray_toList] at hcs
            rw [Array.toArray_toList] at hcs
            refine .inr ⟨_, _, h, fun _ G ρ a w m _ => ⟨_, rfl, ?_⟩⟩
            have h1 := e G ρ a m
            rw [e' ρ] at h1
            injection h1 with h1
            subst h1
            rw [snds_eq, zipI_eq] at hcs
            have hp := plc_sound (w := w) hpl
            have hfun : (fun i : Nat => (pl.toArray)[i]?) = (fun i : Nat => pl[i]?) := by funext i; simp
            have hb : ∀ ps : Array (Nat × Value), ps.toList = parts.toList.map (fun (i, x) => (i, a.eval x)) → (Instr.build t ps).run P w = .ok (.agg cs) w := by
              intro ps hps
              have hz' : (zeroValue t).run P w = .ok z w := by simp [zeroValue, typeInfo, hi, hz]
              have hmm : Sem.run P (fs.mapM pf) w = .ok pl.toArray w := by rw [Array.mapM_eq_mapM_toList, Sem.run_map, hp]; rfl
              unfold Instr.build
              simp only [Sem.run_bind, hz', Result.andThen_ok, run_underlying hu]
              erw [hmm]
              simp only [Result.andThen_ok, hps, hfun, hcs, Sem.run_pure]
            simp only [execOp, ho, Sem.run_bind]
            rw [hb _ (by simp [Array.toList_map])]
            simp
        · exact .inl h
      · exact .inl h
    · exact .inl h
  · exact .inl h

def qLen (P : Program) (c : Call) (vs : List SV) (F : Prop) (K : Kq) : Prop := match c.argTypes.toList with
  | [t] => match P.underlying t, vs with
    | some (.slice _), [.v (.slice _ n _)] => K (.v (.int .i64 (n : Int))) none
    | some .string, [.v (.string s)] => K (.v (.int .i64 (s.size : Int))) none
    | _, _ => F
  | _ => F

def isLen : Builtin → Bool
  | .len => true
  | _ => false
def isMinMax : Builtin → Option Bool
  | .min => some true
  | .max => some false
  | _ => none

/-- a byte of a string -/
def byteAt (s : ByteArray) (i : Nat) : Int := ((s.data.toList[i]?).getD 0).toNat
theorem byteAt_get {s : ByteArray} {i : Nat} (h : i < s.size) : ∃ b : UInt8, s[i]? = some b ∧ byteAt s i = (b.toNat : Int) := by
  have h' : i < s.data.size := h
  refine ⟨s.data[i], ?_, ?_⟩
  · rw [getElem?_pos s i h]; rfl
  · simp only [byteAt, Array.getElem?_toList, getElem?_pos s.data i h', Option.getD_some]
/-- strings: joined, compared -/
def qStr (op : BinOp) (a b : ByteArray) (F : Prop) (K : Kq) : Prop := match op with
  | .add => K (.v (.string (a ++ b))) (some (a.size + b.size ≤ 9223372036854775807))
  | .eql => K (.v (.bool (decide (a = b)))) none
  | .neq => K (.v (.bool (!decide (a = b)))) none
  | .lss => K (.v (.bool (Op.bytesLess a.data.toList b.data.toList))) none
  | .gtr => K (.v (.bool (!(Op.bytesLess a.data.toList b.data.toList || decide (a = b))))) none
  | .leq => K (.v (.bool (Op.bytesLess a.data.toList b.data.toList || decide (a = b)))) none
  | .geq => K (.v (.bool (!Op.bytesLess a.data.toList b.data.toList))) none
  | _ => F
theorem str_toList (a : ByteArray) : a.toList = a.data.toList := ByteArray.toList_eq a
theorem str_beq (a b : ByteArray) : (a.toList == b.toList) = decide (a = b) := by
  rw [str_toList, str_toList]
  have : a.data.toList = b.data.toList ↔ a = b := by
    obtain ⟨⟨x⟩⟩ := a
    obtain ⟨⟨y⟩⟩ := b
    simp
  by_cases c : a = b
  · subst c; simp
  · rw [decide_eq_false c]
    have h : a.data.toList ≠ b.data.toList := fun e => c (this.1 e)
    exact beq_eq_false_iff_ne.2 h
theorem qStr_sound {op : BinOp} {a b : ByteArray} {F : Prop} {K : Kq} (h : qStr op a b F K) :
    F ∨ ∃ z q, K (.v z) q ∧ (holds q → ∀ (P : Program) (t : TypeId) (w : World), (binOp op t (.string a) (.string b)).run P w = .ok z w) := by
  unfold qStr at h
  split at h
  · refine .inr ⟨_, _, h, fun hq P t w => ?_⟩
    have hq' : a.size + b.size ≤ 9223372036854775807 := hq
    have : ¬ (((a.size + b.size : Nat) : Int) > IntKind.i64.max) := by simp [IntKind.max, IntKind.signed, IntKind.bits]; omega
    simp only [binOp, Op.stringOp, if_neg this, Sem.run_pure]
  · exact .inr ⟨_, _, h, fun hq P t w => by simp only [binOp, Op.stringOp, str_beq, Sem.run_pure]⟩
  · exact .inr ⟨_, _, h, fun hq P t w => by simp only [binOp, Op.stringOp, str_beq, Sem.run_pure]⟩
  · exact .inr ⟨_, _, h, fun hq P t w => by simp only [binOp, Op.stringOp, str_toList, Sem.run_pure]⟩
  · exact .inr ⟨_, _, h, fun hq P t w => by simp only [binOp, Op.stringOp, str_beq]; simp only [str_toList, Sem.run_pure]⟩
  · exact .inr ⟨_, _, h, fun hq P t w => by simp only [binOp, Op.stringOp, str_beq]; simp only [str_toList, Sem.run_pure]⟩
  · exact .inr ⟨_, _, h, fun hq P t w => by simp only [binOp, Op.stringOp, str_toList, Sem.run_pure]⟩
  · exact .inl h
def evI (st : St) (x : Option Operand) (d : Int) (F : Prop) (K : Int → Prop) : Prop := match x with
  | none => K d
  | some x => ev st x F fun v => match v with
    | .v (.int _ i) => K i
    | _ => F
theorem evI_sound {st : St} {x : Option Operand} {d : Int} {F : Prop} {K : Int → Prop} (h : evI st x d F K) : F ∨ ∃ i, K i ∧ ((x = none ∧ i = d) ∨ ∃ y k, x = some y ∧ ∀ G ρ a, Tm G st ρ a → a.eval y = .int k i) := by
  unfold evI at h
  split at h
  · exact .inr ⟨_, h, .inl ⟨rfl, rfl⟩⟩
  · rename_i y
    rcases ev_sound h with h | ⟨s, h, e⟩
    · exact .inl h
    split at h
    · rename_i k i
      exact .inr ⟨_, h, .inr ⟨y, k, rfl, fun G ρ a m => by simpa [SV.den] using (e G ρ a m).symm⟩⟩
    · exact .inl h
/-- a part of a string -/
def qSub (P : Program) (st : St) (t : TypeId) (x : Operand) (lo hi mx : Option Operand) (F : Prop) (K : Kq) : Prop := match mx with
  | some _ => F
  | none => ev st x F fun vx => match P.underlying t, vx with
    | some .string, .v (.string s) => evI st lo 0 F fun l => evI st hi (s.size : Int) F fun h => K (.v (.string (s.extract l.toNat h.toNat))) (some (0 ≤ l ∧ l ≤ h ∧ h ≤ (s.size : Int)))
    | some (.slice e), .v (.slice A n c) => match lo with
      | none => match P.info? e with
        | some _ => evI st hi (n : Int) F fun h => K (.v (.slice A h.toNat c)) (some (0 ≤ h ∧ h ≤ (c : Int)))
        | none => F
      | some _ => F
    | _, _ => F
theorem qSub_sound {P : Program} {st : St} {o : Oper} {t : TypeId} {x : Operand} {lo hi' mx : Option Operand} {F : Prop} {K : Kq} (ho : o.op = .slice t x lo hi' mx) (h : qSub P st t x lo hi' mx F K) : F ∨ ∃ x q, K x q ∧ (holds q → Yl P st o x) := by
  unfold qSub at h
  split at h
  · exact .inl h
  rcases ev_sound h with h | ⟨sx, h, ex⟩
  · exact .inl h
  split at h
  · rename_i s hu
    rcases evI_sound h with h | ⟨l, h, el⟩
    · exact .inl h
    rcases evI_sound h with h | ⟨hh, h, eh⟩
    · exact .inl h
    refine .inr ⟨_, _, h, fun hq G ρ a w m _ => ⟨_, rfl, ?_⟩⟩
    obtain ⟨q1, q2, q3⟩ := hq
    have h1 := ex G ρ a m
    simp only [SV.den, Option.some.injEq] at h1
    have bl : ∀ (y : Nat) (code : BoundsCode) (k : IntKind) (i : Int), 0 ≤ i → i ≤ y → (Instr.sliceBound (.int k i) y code).run P w = .ok i.toNat w := fun y code k i c1 c2 => by
      simp [Instr.sliceBound, asIntOf, c1, c2]
    have q4 : l ≤ (hh.toNat : Int) := by omega
    have key : (Instr.sliceBounds false s.size s.size (lo.map a.eval) (hi'.map a.eval) none).run P w = .ok (l.toNat, hh.toNat, s.size) w := by
      rcases el with ⟨rfl, rfl⟩ | ⟨y, k, rfl, ey⟩ <;> rcases eh with ⟨rfl, rfl⟩ | ⟨y', k', rfl, ey'⟩
      · simp [Instr.sliceBounds]
      · simp [Instr.sliceBounds, ey' G ρ a m, bl _ _ _ _ (by omega : (0:Int) ≤ hh) q3]
      · simp [Instr.sliceBounds, ey G ρ a m, bl _ _ _ _ q1 q2]
      · simp [Instr.sliceBounds, ey G ρ a m, ey' G ρ a m, bl _ _ _ _ (by omega : (0:Int) ≤ hh) q3, bl _ _ _ _ q1 q4]
    simp [execOp, ho, Instr.sliceAt, Instr.slice, ← h1, run_underlying hu, key]
  · rename_i e A n c hu
    split at h
    · split at h
      · rename_i i hi
        rcases evI_sound h with h | ⟨hh, h, eh⟩
        · exact .inl h
        refine .inr ⟨_, _, h, fun hq G ρ a w m _ => ⟨_, rfl, ?_⟩⟩
        obtain ⟨q1, q2⟩ := hq
        have h1 := ex G ρ a m
        simp only [SV.den, Option.some.injEq] at h1
        have bl : ∀ (y : Nat) (code : BoundsCode) (k : IntKind) (i : Int), 0 ≤ i → i ≤ y → (Instr.sliceBound (.int k i) y code).run P w = .ok i.toNat w := fun y code k i c1 c2 => by
          simp [Instr.sliceBound, asIntOf, c1, c2]
        have key : (Instr.sliceBounds true n c none (hi'.map a.eval) none).run P w = .ok (0, hh.toNat, c) w := by
          rcases eh with ⟨rfl, rfl⟩ | ⟨y', k', rfl, ey'⟩
          · simp [Instr.sliceBounds]
          · simp [Instr.sliceBounds, ey' G ρ a m, bl _ _ _ _ q1 q2]
        have hA : (if c = 0 then A else A.map (·.add (0 * P.cellsOf e))) = A := by
          split
          · rfl
          · cases A with
            | none => rfl
            | some x => simp [Addr.add]
        have hsz : (sizeOf e).run P w = .ok (P.cellsOf e) w := by simp [sizeOf, typeInfo, hi, Program.cellsOf]
        simp only [execOp, ho, Instr.sliceAt, Instr.slice, ← h1, Sem.run_bind, run_underlying hu, Result.andThen_ok, Option.map_none, key, hsz, hA, Nat.sub_zero, Sem.run_pure]
      · exact .inl h
    · exact .inl h
  · exact .inl h
/-- a byte of a string, read -/
def qIdx (P : Program) (st : St) (t : TypeId) (x ix : Operand) (F : Prop) (K : Kq) : Prop :=
  ev st x F fun vx => ev st ix F fun vi => match P.underlying t, vx, vi with
    | some .string, .v (.string s), .v (.int _ i) => K (.v (.int .u8 (byteAt s i.toNat))) (some (0 ≤ i ∧ i < (s.size : Int)))
    | _, _, _ => F
theorem qIdx_sound {P : Program} {st : St} {o : Oper} {t : TypeId} {x ix : Operand} {F : Prop} {K : Kq} (ho : o.op = .index t x ix) (h : qIdx P st t x ix F K) : F ∨ ∃ x q, K x q ∧ (holds q → Yl P st o x) := by
  unfold qIdx at h
  rcases ev_sound h with h | ⟨sx, h, ex⟩
  · exact .inl h
  rcases ev_sound h with h | ⟨si, h, ei⟩
  · exact .inl h
  split at h
  · rename_i s k i hu _
    refine .inr ⟨_, _, h, fun hq G ρ a w m _ => ⟨_, rfl, ?_⟩⟩
    obtain ⟨q1, q2⟩ := hq
    have h1 := ex G ρ a m
    have h2 := ei G ρ a m
    simp only [SV.den, Option.some.injEq] at h1 h2
    obtain ⟨b, e1, e2⟩ := byteAt_get (s := s) (i := i.toNat) (by omega)
    simp [execOp, ho, Instr.index, ← h1, ← h2, asIntOf, run_underlying hu, q1, e1, e2]
  · exact .inl h

def q1 (P : Program) (tr : Bool) (st : St) (o : Oper) (F : Prop) (K : Kq) : Prop :=
  match o.op with
  | .move x => ev st x F fun v => K v none
  | .assign x => ev st x F fun v => K v none
  | .pick c a b => ev st c F fun vc => ev st a F fun va => ev st b F fun vb => match vc with
    | .k b => match b with
      | true => K va none
      | false => K vb none
    | .v (.bool c) => asB va F fun x => asB vb F fun y => K (.v (.bool (cond c x y))) none
    | _ => F
  | .nilCheck x => ev st x F fun v => match v with
    | .p n off => K (.p n off) none
    | .v (.pointer (some ad)) => K (.v (.pointer (some ad))) none
    | _ => qPure P st o F K
  | .load t a => ev st a F fun v => match v with
    | .p n off => match getO st.o n with
      | some (_, cs) => qLoad P t cs off F K
      | none => F
    | _ => F
  | .fieldAddr t x f => ev st x F fun v => match v with
    | .p n off => qField P t f F fun d => K (.p n (off + d)) none
    | .v (.pointer (some ⟨b, off, none⟩)) => qField P t f F fun d => K (.v (.pointer (some ⟨b, off + d, none⟩))) none
    | _ => F
  | .binOp op t x y _ => ev st x F fun vx => ev st y F fun vy => match vx, vy with
    | .v (.int k a), .v (.int k' b) => match op with
      | .shl => binI tr .shl k a b K
      | .shr => binI tr .shr k a b K
      | op => match sameK k k' with
        | true => binI tr op k a b K
        | false => F
    | .p _ _, .v (.pointer none) => nilQ P t op false F K
    | .v (.pointer (some _)), .v (.pointer none) => nilQ P t op false F K
    | .v (.pointer none), .v (.pointer none) => nilQ P t op true F K
    | .v (.agg _), .v (.agg _) => F
    | .v (.string a), .v (.string b) => qStr op a b F K
    | _, _ => qPure P st o F K
  | .unOp op _ x => ev st x F fun v => match op, v with
    | .not, .k b => K (.k (!b)) none
    | .not, .v (.bool b) => K (.v (.bool (!b))) none
    | .neg, .v (.int k n) => arith k (0 - n) K
    | _, _ => F
  | .convert src dst x => ev st x F fun v => match P.underlying src, P.underlying dst, v with
    | some (.int .u64), some (.int .i64), .v (.int _ n) => K (.v (.int .i64 (IntKind.i64.wrap n))) none
    | some _, some (.int k), .v (.int _ n) => arith k n K
    | _, _, _ => qPure P st o F K
  | .indexAddr t x ix => ev st x F fun vx => ev st ix F fun vi => match P.underlying t, vx, vi with
    | some (.slice e), .v (.slice (some ⟨b, off, none⟩) n _), .v (.int _ i) => match P.info? e with
      | some inf => match inf.size with
        | 0 => F
        | 1 => K (.v (.pointer (some ⟨b, off + i.toNat, none⟩))) (some (0 ≤ i ∧ i < (n : Int)))
        | z + 2 => K (.v (.pointer (some ⟨b, off + i.toNat * (z + 2), none⟩))) (some (0 ≤ i ∧ i < (n : Int)))
      | none => F
    | _, _, _ => F
  | .call c => match c.callee with
    | .builtin bi => match isMinMax bi with
      | some mn => evs st F c.args.toList fun vs => match vs with
        | [.v (.int k a), .v (.int _ b)] => match mn with
          | true => K (.v (.int k (min a b))) none
          | false => K (.v (.int k (max a b))) none
        | _ => F
      | none => match isLen bi with
        | true => evs st F c.args.toList fun vs => qLen P c vs F K
        | false => qPure P st o F K
    | _ => F
  | .build t parts => qBuild P st t parts F K
  | .index t x ix => qIdx P st t x ix F K
  | .slice t x lo hi mx => qSub P st t x lo hi mx F K
  | _ => qPure P st o F K

theorem q1_sound {P : Program} {tr : Bool} {st : St} {o : Oper} {F : Prop} {K : Kq} (h : q1 P tr st o F K) : F ∨ ∃ x q, K x q ∧ (holds q → Yl P st o x) := by
  unfold q1 at h
  split at h
  case h_1 x ho =>
    rcases ev_sound h with h | ⟨s, h, e⟩
    · exact .inl h
    · exact .inr ⟨_, _, h, fun _ G ρ a w m _ => ⟨_, e G ρ a m, by simp [execOp, ho]⟩⟩
  case h_2 x ho =>
    rcases ev_sound h with h | ⟨s, h, e⟩
    · exact .inl h
    · exact .inr ⟨_, _, h, fun _ G ρ a w m _ => ⟨_, e G ρ a m, by simp [execOp, ho]⟩⟩
  case h_3 c x y ho =>
    rcases ev_sound h with h | ⟨sc, h, ec⟩
    · exact .inl h
    rcases ev_sound h with h | ⟨sx, h, ex⟩
    · exact .inl h
    rcases ev_sound h with h | ⟨sy, h, ey⟩
    · exact .inl h
    split at h
    · split at h
      · refine .inr ⟨_, _, h, fun _ G ρ a w m _ => ⟨_, ex G ρ a m, ?_⟩⟩
        have := ec G ρ a m
        simp only [SV.den, Option.some.injEq] at this
        simp [execOp, ho, ← this, asBool]
      · refine .inr ⟨_, _, h, fun _ G ρ a w m _ => ⟨_, ey G ρ a m, ?_⟩⟩
        have := ec G ρ a m
        simp only [SV.den, Option.some.injEq] at this
        simp [execOp, ho, ← this, asBool]
    · rcases asB_sound h with h | ⟨bx, h, hx⟩
      · exact .inl h
      rcases asB_sound h with h | ⟨by', h, hy⟩
      · exact .inl h
      refine .inr ⟨_, _, h, fun _ G ρ a w m _ => ⟨_, rfl, ?_⟩⟩
      have h1 := ec G ρ a m
      have h2 := ex G ρ a m
      have h3 := ey G ρ a m
      rw [hx ρ] at h2
      rw [hy ρ] at h3
      simp only [SV.den, Option.some.injEq] at h1 h2 h3
      simp [execOp, ho, ← h1, ← h2, ← h3, asBool, Bool.cond_eq_ite]
    · exact .inl h
  case h_4 x ho =>
    rcases ev_sound h with h | ⟨s, h, e⟩
    · exact .inl h
    split at h
    · refine .inr ⟨_, _, h, fun _ G ρ a w m _ => ?_⟩
      have := e G ρ a m
      refine ⟨_, this, ?_⟩
      simp only [SV.den, Option.map_eq_some_iff] at this
      obtain ⟨b, _, hb⟩ := this
      simp [execOp, ho, ← hb]
    · refine .inr ⟨_, _, h, fun _ G ρ a w m _ => ?_⟩
      have := e G ρ a m
      refine ⟨_, this, ?_⟩
      simp only [SV.den, Option.some.injEq] at this
      simp [execOp, ho, ← this]
    · exact qPure_sound h
  case h_5 t x ho =>
    rcases ev_sound h with h | ⟨s, h, e⟩
    · exact .inl h
    split at h
    · split at h
      · rename_i ty cs hg
        rcases qLoad_sound h with h | ⟨x', h, hl⟩
        · exact .inl h
        refine .inr ⟨_, _, h, fun _ G ρ a w m hob => ?_⟩
        obtain ⟨b, us, e1, e2, e3⟩ := hob _ (getO_mem hg)
        obtain ⟨v, h1, h2⟩ := hl ρ w b _ us e2 e3
        refine ⟨v, h1, ?_⟩
        have := e G ρ a m
        simp only [SV.den, e1, Option.map_some, Option.some.injEq] at this
        simp [execOp, ho, ← this, h2]
      · exact .inl h
    · exact .inl h
  case h_6 t x f ho =>
    rcases ev_sound h with h | ⟨s, h, e⟩
    · exact .inl h
    split at h
    · rename_i n off
      rcases qField_sound h with h | ⟨d, h, hd⟩
      · exact .inl h
      refine .inr ⟨_, _, h, fun _ G ρ a w m hob => ?_⟩
      have := e G ρ a m
      simp only [SV.den, Option.map_eq_some_iff] at this
      obtain ⟨b, hb, hv⟩ := this
      refine ⟨.pointer (some ⟨b, off + d, none⟩), by simp only [SV.den, hb, Option.map_some], ?_⟩
      simp [execOp, ho, ← hv, hd]
    · rcases qField_sound h with h | ⟨d, h, hd⟩
      · exact .inl h
      refine .inr ⟨_, _, h, fun _ G ρ a w m hob => ⟨_, rfl, ?_⟩⟩
      have := e G ρ a m
      simp only [SV.den, Option.some.injEq] at this
      simp [execOp, ho, ← this, hd]
    · exact .inl h
  case h_7 op t x y ty ho =>
    rcases ev_sound h with h | ⟨sx, h, ex⟩
    · exact .inl h
    rcases ev_sound h with h | ⟨sy, h, ey⟩
    · exact .inl h
    have guardI : ∀ (w : World) (k k' : IntKind) (a b : Int), (eqGuard op t x y (.int k a) (.int k' b)).run P w = .ok () w := by
      intro w k k' a b
      unfold eqGuard; cases op <;> simp
    have guardP : ∀ (w : World) (A B : Option Addr), (eqGuard op t x y (.pointer A) (.pointer B)).run P w = .ok () w := by
      intro w A B
      unfold eqGuard; cases op <;> simp
    have nilK : ∀ (A : Option Addr) (r : Bool), r = A.isNone → (∀ G ρ a, Tm G st ρ a → ∃ A', A'.isNone = A.isNone ∧ a.eval x = .pointer A') → (∀ G ρ a, Tm G st ρ a → a.eval y = .pointer none) → nilQ P t op r F K →
        F ∨ ∃ x q, K x q ∧ (holds q → Yl P st o x) := by
      intro A r hr hx hy h
      unfold nilQ at h
      split at h
      · rename_i e hu
        split at h
        · refine .inr ⟨_, _, h, fun _ G ρ a w m _ => ⟨_, rfl, ?_⟩⟩
          obtain ⟨A', hA', hx'⟩ := hx G ρ a m
          have hn := equal_nil hu A' w
          simp [execOp, ho, hx', hy G ρ a m, guardP, binOp, hn, hA', hr]
        · refine .inr ⟨_, _, h, fun _ G ρ a w m _ => ⟨_, rfl, ?_⟩⟩
          obtain ⟨A', hA', hx'⟩ := hx G ρ a m
          have hn := equal_nil hu A' w
          simp [execOp, ho, hx', hy G ρ a m, guardP, binOp, hn, hA', hr]
        · exact .inl h
      · exact .inl h
    split at h
    · rename_i k a' k' b' _
      have fin : ∀ {tr : Bool}, (op = .shl ∨ op = .shr ∨ k = k') → binI tr op k a' b' K → F ∨ ∃ x q, K x q ∧ (holds q → Yl P st o x) := by
        intro tr hk h
        obtain ⟨z, q, h, hz⟩ := binI_sound h
        refine .inr ⟨_, _, h, fun hq G ρ a w m _ => ⟨_, rfl, ?_⟩⟩
        have h1 := ex G ρ a m
        have h2 := ey G ρ a m
        simp only [SV.den, Option.some.injEq] at h1 h2
        simp [execOp, ho, ← h1, ← h2, guardI, hz hq P t k' hk w]
      split at h
      · exact fin (.inl rfl) h
      · exact fin (.inr (.inl rfl)) h
      · split at h
        · rename_i hk
          exact fin (.inr (.inr (of_decide_eq_true hk))) h
        · exact .inl h
    · exact nilK (some ⟨0, 0, none⟩) false rfl (fun G ρ a m => by
        have := ex G ρ a m
        simp only [SV.den, Option.map_eq_some_iff] at this
        obtain ⟨b, _, hb⟩ := this
        exact ⟨_, (by rfl), hb.symm⟩) (fun G ρ a m => by simpa [SV.den] using (ey G ρ a m).symm) h
    · exact nilK (some ⟨0, 0, none⟩) false rfl (fun G ρ a m => by
        have := ex G ρ a m
        simp only [SV.den, Option.some.injEq] at this
        exact ⟨_, (by rfl), this.symm⟩) (fun G ρ a m => by simpa [SV.den] using (ey G ρ a m).symm) h
    · exact nilK none true rfl (fun G ρ a m => by
        have := ex G ρ a m
        simp only [SV.den, Option.some.injEq] at this
        exact ⟨_, (by rfl), this.symm⟩) (fun G ρ a m => by simpa [SV.den] using (ey G ρ a m).symm) h
    · exact .inl h
    · rename_i a' b' _
      rcases qStr_sound h with h | ⟨z, q, h, hz⟩
      · exact .inl h
      · refine .inr ⟨_, _, h, fun hq G ρ a w m _ => ⟨_, rfl, ?_⟩⟩
        have h1 := ex G ρ a m
        have h2 := ey G ρ a m
        simp only [SV.den, Option.some.injEq] at h1 h2
        have guardS : (eqGuard op t x y (.string a') (.string b')).run P w = .ok () w := by
          unfold eqGuard; cases op <;> simp
        simp [execOp, ho, ← h1, ← h2, guardS, hz hq P t w]
    · exact qPure_sound h
  case h_8 op t x ho =>
    rcases ev_sound h with h | ⟨sx, h, ex⟩
    · exact .inl h
    split at h
    · refine .inr ⟨_, _, h, fun _ G ρ a w m _ => ⟨_, rfl, ?_⟩⟩
      have := ex G ρ a m
      simp only [SV.den, Option.some.injEq] at this
      simp [execOp, ho, ← this, Op.unary]
    · refine .inr ⟨_, _, h, fun _ G ρ a w m _ => ⟨_, rfl, ?_⟩⟩
      have := ex G ρ a m
      simp only [SV.den, Option.some.injEq] at this
      simp [execOp, ho, ← this, Op.unary]
    · obtain ⟨z, q, h, e⟩ := arith_sound h
      refine .inr ⟨_, _, h, fun hq G ρ a w m _ => ⟨_, rfl, ?_⟩⟩
      have := ex G ρ a m
      simp only [SV.den, Option.some.injEq] at this
      simp only [execOp, ho, ← this, Op.unary, Op.intArith, e hq, Sem.run_bind, Sem.run_pure, Result.andThen_ok]
    · exact .inl h
  case h_9 src dst x ho =>
    rcases ev_sound h with h | ⟨sx, h, ex⟩
    · exact .inl h
    split at h
    · rename_i n hs hd
      refine .inr ⟨_, _, h, fun hq G ρ a w m _ => ⟨_, rfl, ?_⟩⟩
      have := ex G ρ a m
      simp only [SV.den, Option.some.injEq] at this
      simp [execOp, ho, ← this, convert, run_underlying hs, run_underlying hd, Conv.intToInt]
    · rename_i d k _ n hs hd
      obtain ⟨z, q, h, e⟩ := arith_sound h
      refine .inr ⟨_, _, h, fun hq G ρ a w m _ => ⟨_, rfl, ?_⟩⟩
      have := ex G ρ a m
      simp only [SV.den, Option.some.injEq] at this
      simp [execOp, ho, ← this, convert, run_underlying hs, run_underlying hd, Conv.intToInt, e hq]
    · exact qPure_sound h
  case h_10 t x ix ho =>
    rcases ev_sound h with h | ⟨sx, h, ex⟩
    · exact .inl h
    rcases ev_sound h with h | ⟨si, h, ei⟩
    · exact .inl h
    split at h
    · rename_i el b off n c k i hu _
      split at h
      · rename_i inf hinf
        have fin : ∀ G ρ a w, Tm G st ρ a → 0 ≤ i ∧ i < (n : Int) → (execOp a.eval o).run P w = .ok (.value (.pointer (some ⟨b, off + i.toNat * inf.size, none⟩))) w := by
          intro G ρ a w m hq'
          have h1 := ex G ρ a m
          have h2 := ei G ρ a m
          simp only [SV.den, Option.some.injEq] at h1 h2
          simp [execOp, ho, ← h1, ← h2, Instr.indexAt, asIntOf, run_underlying hu, hq', sizeOf, typeInfo, hinf, Addr.add_mid]
        split at h
        · exact .inl h
        · rename_i hz
          exact .inr ⟨_, _, h, fun hq G ρ a w m _ => ⟨_, rfl, by rw [fin G ρ a w m hq, hz, Nat.mul_one]⟩⟩
        · rename_i z hz
          exact .inr ⟨_, _, h, fun hq G ρ a w m _ => ⟨_, rfl, by rw [fin G ρ a w m hq, hz]⟩⟩
      · exact .inl h
    · exact .inl h
  case h_11 c ho =>
    split at h
    · rename_i bi hc
      split at h
      · rename_i mn hmn
        rcases evs_sound h with h | ⟨ss, h, e⟩
        · exact .inl h
        split at h
        · rename_i k a' k' b'
          have hm : (bi = .min ∧ mn = true) ∨ (bi = .max ∧ mn = false) := by
            cases bi <;> simp [isMinMax] at hmn <;> simp [← hmn]
          rcases hm with ⟨rfl, rfl⟩ | ⟨rfl, rfl⟩
          · refine .inr ⟨_, _, h, fun hq G ρ a w m _ => ⟨_, rfl, ?_⟩⟩
            have := e G ρ a m
            have e2 : c.args.map a.eval = #[.int k a', .int k' b'] := by
              have h3 : c.args.toList.map a.eval = [.int k a', .int k' b'] := by
                have h4 : denL ρ [.v (.int k a'), .v (.int k' b')] = some [.int k a', .int k' b'] := rfl
                rw [h4] at this
                injection this with this
                exact this.symm
              apply Array.ext'
              simpa using h3
            simp [execOp, ho, resolve, hc, invoke, builtin, e2, Builtin.min_, Builtin.min2]
            omega
          · refine .inr ⟨_, _, h, fun hq G ρ a w m _ => ⟨_, rfl, ?_⟩⟩
            have := e G ρ a m
            have e2 : c.args.map a.eval = #[.int k a', .int k' b'] := by
              have h3 : c.args.toList.map a.eval = [.int k a', .int k' b'] := by
                have h4 : denL ρ [.v (.int k a'), .v (.int k' b')] = some [.int k a', .int k' b'] := rfl
                rw [h4] at this
                injection this with this
                exact this.symm
              apply Array.ext'
              simpa using h3
            simp [execOp, ho, resolve, hc, invoke, builtin, e2, Builtin.max_, Builtin.max2]
            omega
        · exact .inl h
      · split at h
        · rename_i hl
          have hl' : bi = .len := by cases bi <;> simp [isLen] at hl <;> rfl
          subst hl'
          rcases evs_sound h with h | ⟨ss, h, e⟩
          · exact .inl h
          unfold qLen at h
          split at h
          · rename_i t hty
            have hty' : c.argTypes = #[t] := by apply Array.ext'; simpa using hty
            have ha : ∀ {G : Gl} {ρ : List Nat} {a : Act} {u : Value}, Tm G st ρ a → ss = [.v u] → c.args.map a.eval = #[u] := by
              intro G ρ a u m hs
              have := e G ρ a m
              rw [hs] at this
              have h4 : denL ρ [.v u] = some [u] := rfl
              rw [h4] at this
              injection this with this
              apply Array.ext'
              simpa using this.symm
            split at h
            · rename_i hu
              exact .inr ⟨_, _, h, fun _ G ρ a w m _ => ⟨_, rfl, by simp [execOp, ho, resolve, hc, invoke, builtin, ha m rfl, Builtin.len_, hty', run_underlying hu, goInt]⟩⟩
            · rename_i hu
              exact .inr ⟨_, _, h, fun _ G ρ a w m _ => ⟨_, rfl, by simp [execOp, ho, resolve, hc, invoke, builtin, ha m rfl, Builtin.len_, hty', run_underlying hu, goInt]⟩⟩
            · exact .inl h
          · exact .inl h
        · exact qPure_sound h
    · exact .inl h
  case h_12 t parts ho => exact qBuild_sound ho h
  case h_13 t x ix ho => exact qIdx_sound ho h
  case h_14 t x lo hi mx ho => exact qSub_sound ho h
  case h_15 => exact qPure_sound h
end Sy
end Go.Proofs.YtgdbdebieghnkaaGreat

/-
  Symbolic runs: operations that make or write memory of the call's own, calls; lists of operations.
-/
namespace Go.Proofs.YtgdbdebieghnkaaGreat
open Go.RowKit
namespace Sy
set_option linter.unusedVariables false
set_option linter.unusedSimpArgs false

def Good (K : St → Prop) : Prop := ∀ st, K st → st.c

def putK (G : Gl) (st : St) (d : Option Nat) (x : SV) (q : Option Prop) (K : St → Prop) : Prop :=
  match st with
  | ⟨t, o, n, h, c⟩ => match d with
    | some i => match Nat.blt i G.N with
      | true => match q with
        | none => K ⟨(i, x) :: t, o, n, h, c⟩
        | some p => K ⟨(i, x) :: t, o, n, h, c ∧ p⟩
      | false => False
    | none => match q with
      | none => K ⟨t, o, n, h, c⟩
      | some p => K ⟨t, o, n, h, c ∧ p⟩

theorem Tm.put_ {G : Gl} {st : St} {ρ : List Nat} {a : Act} (m : Tm G st ρ a) {i : Nat} {x : SV} {v : Value} (hi : i < G.N) (hx : x.den ρ = some v) (o : List (Nat × TypeId × List SV)) (n : Nat) (h : List HP) (c : Prop) : Tm G ⟨(i, x) :: st.t, o, n, h, c⟩ ρ (a.put (some i) v) := by
  refine ⟨by simp [Act.put, m.size], m.defs, fun t y e => ?_⟩
  simp only [getT] at e
  split at e
  · rename_i hb
    have hb' := beq_of hb
    subst hb'
    injection e with e
    subst e
    refine ⟨hi, ?_⟩
    rw [hx]
    simp [Act.put, m.size, hi]
  · rename_i hb
    have hne : i ≠ t := fun c => by subst c; rw [Nat.beq_refl] at hb; cases hb
    obtain ⟨h1, h2⟩ := m.get t y e
    refine ⟨h1, ?_⟩
    rw [h2]
    simp [Act.put, Array.getElem?_setIfInBounds_ne hne]
theorem Tm.same {G : Gl} {st : St} {ρ : List Nat} {a : Act} (m : Tm G st ρ a) {st' : St} (h : st'.t = st.t) : Tm G st' ρ a := ⟨m.size, m.defs, by rw [h]; exact m.get⟩

theorem putK_sound {G : Gl} {st : St} {d : Option Nat} {x : SV} {q : Option Prop} {K : St → Prop} (h : putK G st d x q K) (hK : Good K) :
    (st.c ∧ holds q) ∧ ∀ ρ a w v, x.den ρ = some v → Tm G st ρ a → Mem G st ρ w → ∃ st', K st' ∧ Tm G st' ρ (a.put d v) ∧ Mem G st' ρ w := by
  obtain ⟨t, o, n, hh, c⟩ := st
  unfold putK at h
  cases d with
  | some i =>
    simp only at h
    split at h
    · rename_i hi
      have hi' : i < G.N := Nat.le_of_ble_eq_true hi
      cases q with
      | none =>
        simp only at h
        have hc := hK _ h
        exact ⟨⟨hc, trivial⟩, fun ρ a w v hx m mm => ⟨_, h, m.put_ hi' hx _ _ _ _, mm.same rfl rfl rfl⟩⟩
      | some p =>
        simp only at h
        have hc := hK _ h
        exact ⟨hc, fun ρ a w v hx m mm => ⟨_, h, m.put_ hi' hx _ _ _ _, mm.same rfl rfl rfl⟩⟩
    · exact h.elim
  | none =>
    cases q with
    | none =>
      simp only at h
      have hc := hK _ h
      exact ⟨⟨hc, trivial⟩, fun ρ a w v hx m mm => ⟨_, h, m, mm⟩⟩
    | some p =>
      simp only at h
      have hc := hK _ h
      exact ⟨hc, fun ρ a w v hx m mm => ⟨_, h, m.same rfl, mm.same rfl rfl rfl⟩⟩

/-- what has been asked for till here; then the stop -/
def stp (st : St) (K : St → Prop) : Prop := match st with
  | ⟨t, o, n, h, c⟩ => c ∧ K ⟨t, o, n, h, True⟩
theorem stp_iff {st : St} {K : St → Prop} : stp st K ↔ st.c ∧ K { st with c := True } := by cases st; exact .rfl

/-! where the run stops and asks -/
inductive LoadAt (G : Gl) (t : TypeId) (ad : Addr) (st : St) (K : SV → Prop) : Prop
  | mk (x : Value) (h : ∀ ρ w, Mem G st ρ w → (Instr.loadAt t (.pointer (some ad))).run G.P w = .ok x w) (k : K (.v x))
inductive RunQ (G : Gl) (o : Oper) (st : St) (K : SV → Prop) : Prop
  | mk (x : Value) (h : ∀ ρ a w, Tm G st ρ a → Mem G st ρ w → (execOp a.eval o).run G.P w = .ok (.value x) w) (k : K (.v x))
inductive CallQ (G : Gl) (f : FuncId) (args : List Value) (st : St) (K : SV → Prop) : Prop
  | mk (x : Value) (h : ∀ ρ w, Mem G st ρ w → Calls G.P f args.toArray w fun e w' => e = .returned x ∧ Mem G st ρ w') (k : K (.v x))
/-- a panic that may leave the call -/
def PX (G : Gl) (ch : List PanicEntry) (w : World) : Prop := G.X ch ∧ Sat G.R w ∧ Wd G.w0 w
def PXE (G : Gl) (e : Exit) (a : Act) (w : World) : Prop := ∃ ch, e = .panic ch ∧ a.defers = G.D ∧ PX G ch w
theorem PXE.put {G : Gl} {d : Option Nat} {v : Value} {c : List PanicEntry} {a : Act} {w : World} (h : PXE G (.panic c) (Act.put a d v) w) : PXE G (.panic c) a w := by
  obtain ⟨ch, e, hd, h⟩ := h
  refine ⟨ch, e, ?_, h⟩
  cases d <;> exact hd
inductive CallAt (G : Gl) (f : FuncId) (args : List Value) (st : St) (K : SV → St → Prop) : Prop
  | mk (h : ∀ ρ w, Mem G st ρ w → Calls G.P f args.toArray w fun e w' => ∃ v hs, e = .returned v ∧ Mem G { st with h := hs } ρ w' ∧ K (.v v) { st with h := hs })
  | px (h : ∀ ρ w, Mem G st ρ w → Calls G.P f args.toArray w fun e w' => ∃ ch, e = .panicked ch ∧ PX G ch w')
/-- the named blocks, and maybe more -/
def Ext (ρ ρ' : List Nat) : Prop := ∃ m, ρ' = ρ ++ m
theorem Ext.refl (ρ : List Nat) : Ext ρ ρ := ⟨[], by simp⟩
inductive OpAt (G : Gl) (o : Oper) (st : St) (K : St → Prop) : Prop
  | mk (h : ∀ ρ a w, Tm G st ρ a → Mem G st ρ w → o.wp G.P a w (fun a' w' => ∃ st' ρ', K st' ∧ Tm G st' ρ' a' ∧ Mem G st' ρ' w' ∧ Ext ρ ρ') fun _ _ _ => False)
  | px (h : ∀ ρ a w, Tm G st ρ a → Mem G st ρ w → o.wp G.P a w (fun _ _ => False) fun e a' w' => PXE G e a' w')

theorem Oper.wp_anyQ {P : Program} {o : Oper} {a : Act} {w : World} {K : Act → World → Prop} {Q : Exit → Act → World → Prop} (h : o.wp P a w K fun _ _ _ => False) : o.wp P a w K Q := by
  unfold Oper.wp at *
  generalize (execOp a.eval o).run P w = r at *
  cases r with
  | ok n w' =>
    cases n <;> simp only [Oper.upon] at h ⊢ <;> first
      | exact h
      | exact Calls.mono h fun e w'' he => by
          cases e with
          | returned v => exact he
          | panicked c => exact he.elim
          | outgrown => obtain ⟨_, _, x⟩ := he; exact x.elim
  | halt x w' => cases x <;> simp only [Oper.upon] at h ⊢

theorem Oper.wp_px {P : Program} {o : Oper} {a : Act} {w : World} {K : Act → World → Prop} {Q Q' : Exit → Act → World → Prop} (h : o.wp P a w (fun _ _ => False) Q) (hq : ∀ e a w, Q e a w → Q' e a w) (hn : ∀ a w, ¬ Q .outgrown a w) : o.wp P a w K Q' := by
  unfold Oper.wp at *
  generalize (execOp a.eval o).run P w = r at *
  cases r with
  | ok n w' =>
    cases n <;> simp only [Oper.upon] at h ⊢ <;> first
      | exact h.elim
      | exact Calls.mono h fun e w'' he => by
          cases e with
          | returned v => exact he.elim
          | panicked c => exact hq _ _ _ he
          | outgrown => obtain ⟨x, y, z⟩ := he; exact absurd z (hn x y)
      | exact Rows.mono h fun v w'' he => he.elim
  | halt x w' =>
    cases x <;> simp only [Oper.upon] at h ⊢
    exact hq _ _ _ h
theorem PXE.no {G : Gl} (a : Act) (w : World) : ¬ PXE G .outgrown a w := by rintro ⟨ch, e, _⟩; cases e

def toSVs : List Value → List SV
  | [] => []
  | x :: l => .v x :: toSVs l
theorem toSVs_den (ρ : List Nat) : ∀ l : List Value, denL ρ (toSVs l) = some l
  | [] => rfl
  | x :: l => denL_cons.2 ⟨_, _, rfl, toSVs_den ρ l, rfl⟩
def cellsK (x : SV) (K : List SV → Prop) : Prop := match x with
  | .v (.agg cs) => forceL (toSVs cs.toList) K
  | x => K [x]
theorem cellsK_sound {x : SV} {K : List SV → Prop} (h : cellsK x K) : ∃ l, K l ∧ ∀ ρ v, x.den ρ = some v → denL ρ l = some v.cells.toList := by
  unfold cellsK at h
  split at h
  · refine ⟨_, forceL_eq h, fun ρ v e => ?_⟩
    simp only [SV.den, Option.some.injEq] at e
    subst e
    exact toSVs_den ρ _
  · rename_i hne
    refine ⟨_, h, fun ρ v e => ?_⟩
    have : v.cells = #[v] := by
      cases x with
      | v y =>
        simp only [SV.den, Option.some.injEq] at e
        subst e
        cases y <;> first | rfl | exact absurd rfl (hne _)
      | k b => simp only [SV.den, Option.some.injEq] at e; subst e; rfl
      | p n o =>
        simp only [SV.den, Option.map_eq_some_iff] at e
        obtain ⟨b, _, rfl⟩ := e
        rfl
    rw [this]
    exact denL_cons.2 ⟨_, _, e, rfl, rfl⟩

def newO (G : Gl) (d : Option Nat) (ty : TypeId) (cs : List SV) (st : St) (K : St → Prop) : Prop :=
  match st with
  | ⟨t, o, n, h, c⟩ => match d with
    | some i => match Nat.blt i G.N with
      | true => K ⟨(i, .p n 0) :: t, (n, ty, cs) :: o, n + 1, h, c⟩
      | false => False
    | none => False
theorem newO_sound {G : Gl} {d : Option Nat} {ty : TypeId} {cs : List SV} {st : St} {K : St → Prop} (h : newO G d ty cs st K) (hK : Good K) :
    st.c ∧ ∀ ρ a w vs, denL ρ cs = some vs → Tm G st ρ a → Mem G st ρ w → ∃ st' ρ', K st' ∧ Tm G st' ρ' (a.put d (.pointer (some ⟨w.heap.size, 0, none⟩))) ∧ Mem G st' ρ' (w.alloc (.cells vs.toArray ty)) ∧ Ext ρ ρ' := by
  obtain ⟨t, o, n, hh, c⟩ := st
  unfold newO at h
  cases d with
  | none => exact h.elim
  | some i =>
    simp only at h
    split at h
    · rename_i hi
      have hi' : i < G.N := Nat.le_of_ble_eq_true hi
      have hc := hK _ h
      refine ⟨hc, fun ρ a w vs hv m mm => ⟨_, ρ ++ [w.heap.size], h, ?_, (mm.new ty cs vs hv).same rfl rfl rfl, ⟨_, rfl⟩⟩⟩
      have m' : Tm G ⟨t, o, n, hh, c⟩ (ρ ++ [w.heap.size]) a := ⟨m.size, m.defs, fun t x e => ⟨(m.get t x e).1, den_ext (m.get t x e).2 _⟩⟩
      refine m'.put_ hi' ?_ _ _ _ _
      have : ρ.length = n := mm.len
      simp [SV.den, ← this]
    · exact h.elim

def oneL : List SV → Bool
  | [] => true
  | .v (.agg _) :: _ => false
  | .v (.tuple _) :: _ => false
  | _ :: l => oneL l
theorem oneL_sound {ρ : List Nat} : ∀ {l : List SV} {vs : List Value}, oneL l = true → denL ρ l = some vs → ∀ v ∈ vs, v.oneCell' = true
  | [], vs, _, h, v, hv => by cases h; cases hv
  | x :: l, vs, ho, h, v, hv => by
    obtain ⟨u, us, h1, h2, rfl⟩ := denL_cons.1 h
    unfold oneL at ho
    split at ho
    · rename_i e; cases e
    · cases ho
    · cases ho
    · rename_i e1 e2 e
      injection e with e3 e4
      subst e4
      rcases List.mem_cons.1 hv with rfl | hv
      · cases x with
        | v y =>
          simp only [SV.den, Option.some.injEq] at h1
          subst h1
          cases y <;> first | rfl | exact absurd e3.symm (e1 _) | exact absurd e3.symm (e2 _)
        | k b => simp only [SV.den, Option.some.injEq] at h1; subst h1; rfl
        | p n o =>
          simp only [SV.den, Option.map_eq_some_iff] at h1
          obtain ⟨b, _, rfl⟩ := h1
          rfl
      · exact oneL_sound ho h2 v hv
def spl (cs : List SV) (off : Nat) (ys : List SV) : List SV := cs.take off ++ (ys ++ cs.drop (off + ys.length))
theorem denL_append {ρ : List Nat} : ∀ {l m : List SV} {vs us : List Value}, denL ρ l = some vs → denL ρ m = some us → denL ρ (l ++ m) = some (vs ++ us)
  | [], m, vs, us, h, h' => by cases h; simpa using h'
  | x :: l, m, vs, us, h, h' => by
    obtain ⟨v, ws, h1, h2, rfl⟩ := denL_cons.1 h
    exact denL_cons.2 ⟨v, _, h1, denL_append h2 h', rfl⟩

def stO (P : Program) (t : TypeId) (n off : Nat) (ys : List SV) (st : St) (F : Prop) (K : St → Prop) : Prop :=
  match getO st.o n with
  | some (ty, cs) => match P.info? t with
    | some i => match Nat.beq ys.length i.size with
      | true => match oneL ys with
        | true => match Nat.ble (off + ys.length) cs.length with
          | true => forceL (spl cs off ys) fun l => forceL (setO st.o n l) fun os => match st with
            | ⟨t, _, m, h, c⟩ => K ⟨t, os, m, h, c⟩
          | false => F
        | false => F
      | false => F
    | none => F
  | none => F
theorem stO_sound {P : Program} {t : TypeId} {n off : Nat} {ys : List SV} {st : St} {F : Prop} {K : St → Prop} (h : stO P t n off ys st F K) (hK : Good K) :
    F ∨ (st.c ∧ ∀ G ρ a w v b, denL ρ ys = some v.cells.toList → ρ[n]? = some b → Tm G st ρ a → Mem G st ρ w → ∃ st' w', K st' ∧ (Instr.storeAt t (.pointer (some ⟨b, off, none⟩)) v).run P w = .ok () w' ∧ Tm G st' ρ a ∧ Mem G st' ρ w') := by
  unfold stO at h
  split at h
  · rename_i ty cs hg
    split at h
    · rename_i i hi
      split at h
      · rename_i h1
        split at h
        · rename_i h2
          split at h
          · rename_i h3
            have h := forceL_eq (forceL_eq h)
            obtain ⟨t', o', m', hh, c⟩ := st
            simp only at h hg
            have hc := hK _ h
            refine .inr ⟨hc, fun G ρ a w v b hv hb m mm => ?_⟩
            obtain ⟨b', us, e1, e2, e3⟩ := mm.ob _ (getO_mem hg)
            simp only at e1 e2 e3
            rw [hb] at e1
            injection e1 with e1
            subst e1
            have l1 := beq_of h1
            have l2 := Nat.le_of_ble_eq_true h3
            have lu := denL_length e2
            have lv := denL_length hv
            have hden : denL ρ (spl cs off ys) = some (us.take off ++ (v.cells.toList ++ us.drop (off + v.cells.toList.length))) := by
              unfold spl
              rw [lv]
              exact denL_append (denL_take _ e2) (denL_append hv (denL_drop _ e2))
            refine ⟨_, _, h, ?_, m.same rfl, (mm.set_ (cs := cs) (t := ty) hg hb hden e3).same rfl rfl rfl⟩
            have hrun := run_storeCells_at (P := P) b off ty v.cells.toList 0 us.toArray w e3 (by simp only [List.size_toArray]; omega) (oneL_sound h2 hv)
            have hsz : v.cells.size = i.size := by rw [← l1, ← lv]; simp
            simp only [Instr.storeAt, Instr.sureAddr, Sem.run_bind, Sem.run_pure, Result.andThen_ok, storeVar, sizeOf, typeInfo]
            simp only [Nat.add_zero] at hrun
            simp [hi, hsz, program, Sem.run, hrun]
          · exact .inl h
        · exact .inl h
      · exact .inl h
    · exact .inl h
  · exact .inl h
end Sy
end Go.Proofs.YtgdbdebieghnkaaGreat

/-
  Symbolic runs: what is handed to a call; one operation; lists of operations.
-/
namespace Go.Proofs.YtgdbdebieghnkaaGreat
open Go.RowKit
namespace Sy
set_option linter.unusedVariables false
set_option linter.unusedSimpArgs false

def subV (n b : Nat) (x : SV) : SV := match x with
  | .p m off => match Nat.beq m n with
    | true => .v (.pointer (some ⟨b, off, none⟩))
    | false => .p m off
  | .v y => .v y
  | .k y => .k y
theorem subV_den {ρ : List Nat} {n b : Nat} (hb : ρ[n]? = some b) (x : SV) : (subV n b x).den ρ = x.den ρ := by
  cases x with
  | v y => rfl
  | k y => rfl
  | p m off =>
    unfold subV
    simp only
    split
    · rename_i e
      have := beq_of e
      subst this
      simp [SV.den, hb]
    · rfl
def subL (n b : Nat) : List SV → List SV
  | [] => []
  | x :: l => subV n b x :: subL n b l
theorem subL_den {ρ : List Nat} {n b : Nat} (hb : ρ[n]? = some b) : ∀ l : List SV, denL ρ (subL n b l) = denL ρ l
  | [] => rfl
  | x :: l => by
    unfold subL denL
    rw [List.mapM_cons, List.mapM_cons, subV_den hb]
    have := subL_den hb l
    unfold denL at this
    rw [this]
def subT (n b : Nat) : List (Nat × SV) → List (Nat × SV)
  | [] => []
  | (t, x) :: l => (t, subV n b x) :: subT n b l
theorem subT_get {n b : Nat} : ∀ {l : List (Nat × SV)} {t : Nat} {y : SV}, getT (subT n b l) t = some y → ∃ x, getT l t = some x ∧ y = subV n b x
  | [], t, y, h => by cases h
  | (k, x) :: l, t, y, h => by
    simp only [subT, getT] at h ⊢
    split at h
    · rename_i e
      injection h with h
      exact ⟨x, rfl, h.symm⟩
    · exact subT_get h
def subO (n b : Nat) : List (Nat × TypeId × List SV) → List (Nat × TypeId × List SV)
  | [] => []
  | (k, t, cs) :: l => match Nat.beq k n with
    | true => subO n b l
    | false => (k, t, subL n b cs) :: subO n b l
theorem subO_mem {n b : Nat} : ∀ {l : List (Nat × TypeId × List SV)} {x : Nat × TypeId × List SV}, x ∈ subO n b l → x.1 ≠ n ∧ ∃ cs, (x.1, x.2.1, cs) ∈ l ∧ x.2.2 = subL n b cs
  | [], x, h => by cases h
  | (k, t, cs) :: l, x, h => by
    unfold subO at h
    split at h
    · obtain ⟨h1, cs', h2, h3⟩ := subO_mem h
      exact ⟨h1, cs', List.mem_cons_of_mem _ h2, h3⟩
    · rename_i e
      rcases List.mem_cons.1 h with rfl | h
      · exact ⟨(fun c => by simp only at c; subst c; rw [Nat.beq_refl] at e; cases e), cs, List.mem_cons_self, rfl⟩
      · obtain ⟨h1, cs', h2, h3⟩ := subO_mem h
        exact ⟨h1, cs', List.mem_cons_of_mem _ h2, h3⟩
theorem subO_nodup {n b : Nat} : ∀ {l : List (Nat × TypeId × List SV)}, (l.map (·.1)).Nodup → ((subO n b l).map (·.1)).Nodup
  | [], _ => by simp [subO]
  | (k, t, cs) :: l, h => by
    have h' := List.nodup_cons.1 h
    unfold subO
    split
    · exact subO_nodup h'.2
    · simp only [List.map_cons, List.nodup_cons]
      refine ⟨fun hx => h'.1 ?_, subO_nodup h'.2⟩
      obtain ⟨x, hx, e⟩ := List.mem_map.1 hx
      obtain ⟨_, cs', h2, _⟩ := subO_mem hx
      exact List.mem_map.2 ⟨_, h2, e⟩

def expose (G : Gl) (st : St) (n : Nat) (F : Prop) (K : Nat → St → Prop) : Prop :=
  match getO st.o n with
  | some (t, cs) => reals F cs fun vs => ∀ b, (∀ b', G.B[n]? = some b' → b = b') → match st with
    | ⟨tm, o, m, h, c⟩ => K b ⟨subT n b tm, subO n b o, m, blkH b t vs.toArray :: h, c⟩
  | none => F
theorem expose_sound {G : Gl} {st : St} {n : Nat} {F : Prop} {K : Nat → St → Prop} (h : expose G st n F K) :
    F ∨ ∃ (t : TypeId) (vs : List Value), (∀ b, (∀ b', G.B[n]? = some b' → b = b') → K b ⟨subT n b st.t, subO n b st.o, st.n, blkH b t vs.toArray :: st.h, st.c⟩) ∧ ∀ ρ a w, Tm G st ρ a → Mem G st ρ w → ∃ b, ρ[n]? = some b ∧ (∀ b', G.B[n]? = some b' → b = b') ∧
      Tm G ⟨subT n b st.t, subO n b st.o, st.n, blkH b t vs.toArray :: st.h, st.c⟩ ρ a ∧ Mem G ⟨subT n b st.t, subO n b st.o, st.n, blkH b t vs.toArray :: st.h, st.c⟩ ρ w := by
  unfold expose at h
  split at h
  · rename_i t cs hg
    rcases reals_sound h with h | ⟨vs, h, e⟩
    · exact .inl h
    refine .inr ⟨t, vs, h, fun ρ a w m mm => ?_⟩
    have hm := getO_mem hg
    obtain ⟨b, us, e1, e2, e3⟩ := mm.ob _ hm
    simp only at e1 e2 e3
    rw [e ρ] at e2
    injection e2 with e2
    subst e2
    refine ⟨b, e1, fun b' hb' => ?_, ⟨m.size, m.defs, fun t y hy => ?_⟩, ?_⟩
    · obtain ⟨q, rfl⟩ := mm.kn
      rw [List.getElem?_append_left (List.getElem?_eq_some_iff.1 hb').1, hb'] at e1
      injection e1 with e1
      exact e1.symm
    · obtain ⟨x, hx, rfl⟩ := subT_get hy
      exact ⟨(m.get _ _ hx).1, by rw [subV_den e1]; exact (m.get _ _ hx).2⟩
    · obtain ⟨m1, m2, m3, m4, m5, m6, mk, h', m7, m8, m9⟩ := mm
      have hbn := m9 _ hm b e1
      refine ⟨m1, m2, m3, m4, subO_nodup m5, fun x hx => ?_, mk, un (fun i => if i = b then some (.cells vs.toArray t (0, 0)) else none) h', ?_, ?_, fun x hx b' hb' => ?_⟩
      · obtain ⟨hne, cs', hx', ec⟩ := subO_mem hx
        obtain ⟨b1, us1, g1, g2, g3⟩ := m6 _ hx'
        exact ⟨b1, us1, g1, by rw [ec, subL_den e1]; exact g2, g3⟩
      · refine Sub.un (fun i o ho => ?_) m7
        split at ho
        · rename_i hi
          subst hi
          rw [← ho]; exact e3
        · cases ho
      · refine ⟨_, h', fun i => ?_, rfl, fun i => rfl, m8⟩
        by_cases hi : i = b
        · subst hi; exact .inr hbn
        · exact .inl (by simp [hi])
      · obtain ⟨hne, cs', hx', ec⟩ := subO_mem hx
        refine un_none.2 ⟨?_, m9 _ hx' b' hb'⟩
        have : b' ≠ b := fun c => by
          subst c
          have h1 := (List.getElem?_eq_some_iff.1 hb')
          have h2 := (List.getElem?_eq_some_iff.1 e1)
          exact hne ((List.getElem_inj m3).1 (h1.2.trans h2.2.symm))
        simp [this]
  · exact .inl h

def look : List (Nat × Nat) → Nat → Option Nat
  | [], _ => none
  | (k, b) :: l, n => match Nat.beq k n with
    | true => some b
    | false => look l n
theorem look_mem : ∀ {l : List (Nat × Nat)} {n b : Nat}, look l n = some b → (n, b) ∈ l
  | [], _, _, h => by cases h
  | (k, c) :: l, n, b, h => by
    unfold look at h
    split at h
    · rename_i e
      have := beq_of e
      subst this
      injection h with h
      subst h
      exact List.mem_cons_self
    · exact List.mem_cons_of_mem _ (look_mem h)
/-- arguments: pointers to objects of the call's own become plain ones -/
def expA (G : Gl) (F : Prop) : List SV → List (Nat × Nat) → St → (List Value → St → Prop) → Prop
  | [], _, st, K => K [] st
  | .v x :: l, σ, st, K => expA G F l σ st fun r st => K (x :: r) st
  | .k b :: l, σ, st, K => expA G F l σ st fun r st => K (.bool b :: r) st
  | .p n off :: l, σ, st, K => match look σ n with
    | some b => expA G F l σ st fun r st => K (.pointer (some ⟨b, off, none⟩) :: r) st
    | none => expose G st n F fun b st => expA G F l ((n, b) :: σ) st fun r st => K (.pointer (some ⟨b, off, none⟩) :: r) st
theorem expA_sound {G : Gl} {F : Prop} : ∀ {l : List SV} {σ : List (Nat × Nat)} {st : St} {K : List Value → St → Prop}, expA G F l σ st K →
    (F ∨ ∃ vs st', st'.c = st.c ∧ K vs st') ∧ ∀ ρ a w, (∀ x ∈ σ, ρ[x.1]? = some x.2) → Tm G st ρ a → Mem G st ρ w → F ∨ ∃ vs st', K vs st' ∧ denL ρ l = some vs ∧ Tm G st' ρ a ∧ Mem G st' ρ w
  | [], σ, st, K, h => ⟨.inr ⟨_, _, rfl, h⟩, fun ρ a w _ m mm => .inr ⟨_, _, h, rfl, m, mm⟩⟩
  | .v x :: l, σ, st, K, h => by
    obtain ⟨h1, h2⟩ := expA_sound (l := l) h
    refine ⟨h1.imp id fun ⟨vs, st', e, k⟩ => ⟨_, _, e, k⟩, fun ρ a w hs m mm => ?_⟩
    refine (h2 ρ a w hs m mm).imp id fun ⟨vs, st', k, e, m', mm'⟩ => ⟨_, _, k, denL_cons.2 ⟨_, _, rfl, e, rfl⟩, m', mm'⟩
  | .k b :: l, σ, st, K, h => by
    obtain ⟨h1, h2⟩ := expA_sound (l := l) h
    refine ⟨h1.imp id fun ⟨vs, st', e, k⟩ => ⟨_, _, e, k⟩, fun ρ a w hs m mm => ?_⟩
    refine (h2 ρ a w hs m mm).imp id fun ⟨vs, st', k, e, m', mm'⟩ => ⟨_, _, k, denL_cons.2 ⟨_, _, rfl, e, rfl⟩, m', mm'⟩
  | .p n off :: l, σ, st, K, h => by
    unfold expA at h
    split at h
    · rename_i b hb
      obtain ⟨h1, h2⟩ := expA_sound (l := l) h
      refine ⟨h1.imp id fun ⟨vs, st', e, k⟩ => ⟨_, _, e, k⟩, fun ρ a w hs m mm => ?_⟩
      refine (h2 ρ a w hs m mm).imp id fun ⟨vs, st', k, e, m', mm'⟩ => ⟨_, _, k, denL_cons.2 ⟨_, _, ?_, e, rfl⟩, m', mm'⟩
      have := hs _ (look_mem hb)
      simp only at this
      simp [SV.den, this]
    · rcases expose_sound h with h | ⟨t, vs, h, he⟩
      · exact ⟨.inl h, fun _ _ _ _ _ _ => .inl h⟩
      refine ⟨?_, fun ρ a w hs m mm => ?_⟩
      · obtain ⟨h1, h2⟩ := expA_sound (l := l) (h ((G.B[n]?).getD 0) fun b' hb' => by rw [hb']; rfl)
        exact h1.imp id fun ⟨vs, st', e, k⟩ => ⟨_, _, e, k⟩
      · obtain ⟨b, e1, eb, m', mm'⟩ := he ρ a w m mm
        obtain ⟨h1, h2⟩ := expA_sound (l := l) (h b eb)
        refine (h2 ρ a w (fun x hx => ?_) m' mm').imp id fun ⟨vs, st', k, e, m', mm'⟩ => ⟨_, _, k, denL_cons.2 ⟨_, _, ?_, e, rfl⟩, m', mm'⟩
        · rcases List.mem_cons.1 hx with rfl | hx
          · exact e1
          · exact hs x hx
        · simp [SV.den, e1]

def canEnter (P : Program) (f : FuncId) : Bool := match P.funcs[f]? with
  | some fn => match fn.body with
    | some _ => !(fn.name == "runtime.NumGoroutine")
    | none => false
  | none => false
theorem canEnter_sound {P : Program} {f : FuncId} (h : canEnter P f = true) {o : Oper} {c : Call} {x : Operand} (ho : o.op = .call c) (hc : c.callee = .value x) (a : Act) {caps : Array Value} (hx : a.eval x = .func (.func f) #[] caps) (w : World) : (execOp a.eval o).run P w = .ok (.enter f (c.args.map a.eval ++ caps)) w := by
  unfold canEnter at h
  split at h
  · rename_i fn hf
    split at h
    · rename_i cd hb
      have hn : fn.name ≠ "runtime.NumGoroutine" := by simpa using h
      simp [execOp, ho, resolve, hc, hx, Deferred.ofValue, invoke, callFunc, program, Sem.run, hf, hb, hn]
    · cases h
  · cases h
def appV : List SV → List Value → List SV
  | [], l => toSVs l
  | x :: r, l => x :: appV r l
theorem appV_den {ρ : List Nat} : ∀ {vs : List SV} {us caps : List Value}, denL ρ vs = some us → denL ρ (appV vs caps) = some (us ++ caps)
  | [], us, caps, h => by cases h; exact toSVs_den ρ caps
  | x :: r, us, caps, h => by
    obtain ⟨v, ws, h1, h2, rfl⟩ := denL_cons.1 h
    exact denL_cons.2 ⟨v, _, h1, appV_den h2, rfl⟩
/-- a function value: which function, what it has caught -/
def fnK (x : SV) (F : Prop) (K : FuncId → List Value → Prop) : Prop := match x with
  | .v (.func (.func f) fs cs) => match fs.toList with
    | [] => forceL cs.toList fun l => K f l
    | _ => F
  | _ => F
theorem fnK_sound {x : SV} {F : Prop} {K : FuncId → List Value → Prop} (h : fnK x F K) : F ∨ ∃ f l, K f l ∧ ∀ ρ, x.den ρ = some (.func (.func f) #[] l.toArray) := by
  unfold fnK at h
  split at h
  · rename_i f fs cs
    split at h
    · rename_i hfs
      refine .inr ⟨_, _, forceL_eq h, fun ρ => ?_⟩
      have : fs = #[] := by apply Array.ext'; simpa using hfs
      subst this
      simp [SV.den]
    · exact .inl h
  · exact .inl h

/-- one operation -/
def op1 (G : Gl) (o : Oper) (st : St) (K : St → Prop) : Prop :=
  match o.op with
  | .alloc t => match G.P.info? t with
    | some i => match i.zero with
      | some z => cellsK (.v z) fun cs => newO G o.dst t cs st K
      | none => False
    | none => False
  | .box t x => ev st x False fun v => cellsK v fun cs => newO G o.dst t cs st K
  | .store t x y => ev st x False fun vx => ev st y False fun vy => match vx with
    | .p n off => cellsK vy fun cs => stO G.P t n off cs st False fun st => putK G st o.dst (.v undef) none K
    | _ => stp st fun st => OpAt G o st K
  | .load t x => ev st x False fun vx => match vx with
    | .v (.pointer (some ad)) => stp st fun st => LoadAt G t ad st fun r => putK G st o.dst r none K
    | _ => q1 G.P G.tr st o (stp st fun st => OpAt G o st K) fun r q => putK G st o.dst r q K
  | .call c => match c.callee with
    | .value x => ev st x False fun vx => fnK vx (stp st fun st => OpAt G o st K) fun f caps => match canEnter G.P f with
      | true => evs st False c.args.toList fun vs => expA G False (appV vs caps) [] st fun rs st => stp st fun st => CallAt G f rs st fun r st => putK G st o.dst r none K
      | false => False
    | _ => q1 G.P G.tr st o (stp st fun st => OpAt G o st K) fun r q => putK G st o.dst r q K
  | .makeFunc fn first captured => match first.toList with
    | [] => evs st False captured.toList fun vs => expA G False vs [] st fun rs st => putK G st o.dst (.v (.func fn #[] rs.toArray)) none K
    | _ => stp st fun st => OpAt G o st K
  | _ => q1 G.P G.tr st o (stp st fun st => OpAt G o st K) fun r q => putK G st o.dst r q K

theorem opAt_sound {G : Gl} {o : Oper} {st : St} {K : St → Prop} (h : stp st fun st => OpAt G o st K) :
    st.c ∧ ∀ ρ a w Q, (∀ e a w, PXE G e a w → Q e a w) → Tm G st ρ a → Mem G st ρ w → o.wp G.P a w (fun a' w' => ∃ st' ρ', K st' ∧ Tm G st' ρ' a' ∧ Mem G st' ρ' w' ∧ Ext ρ ρ') Q :=
  ⟨(stp_iff.1 h).1, fun ρ a w Q hx m mm => by
    obtain ⟨_, k | k⟩ := stp_iff.1 h
    · exact Oper.wp_anyQ (k ρ a w (m.same rfl) (mm.same rfl rfl rfl))
    · exact Oper.wp_px (k ρ a w (m.same rfl) (mm.same rfl rfl rfl)) hx PXE.no⟩
theorem qOp_sound {G : Gl} {o : Oper} {st : St} {K : St → Prop} (hK : Good K) (h : q1 G.P G.tr st o (stp st fun st => OpAt G o st K) fun r q => putK G st o.dst r q K) :
    st.c ∧ ∀ ρ a w Q, (∀ e a w, PXE G e a w → Q e a w) → Tm G st ρ a → Mem G st ρ w → o.wp G.P a w (fun a' w' => ∃ st' ρ', K st' ∧ Tm G st' ρ' a' ∧ Mem G st' ρ' w' ∧ Ext ρ ρ') Q := by
  rcases q1_sound h with h | ⟨x, q, h, hy⟩
  · exact opAt_sound h
  · obtain ⟨⟨hc, hq⟩, hp⟩ := putK_sound h hK
    refine ⟨hc, fun ρ a w Q hx m mm => ?_⟩
    obtain ⟨v, e1, e2⟩ := hy hq G ρ a w m mm.ob
    obtain ⟨st', k, m', mm'⟩ := hp ρ a w v e1 m mm
    unfold Oper.wp
    rw [e2]
    exact ⟨st', ρ, k, m', mm', Ext.refl _⟩

theorem op1_soundX {G : Gl} {o : Oper} {st : St} {K : St → Prop} (h : op1 G o st K) (hK : Good K) :
    st.c ∧ ∀ ρ a w Q, (∀ e a w, PXE G e a w → Q e a w) → Tm G st ρ a → Mem G st ρ w → o.wp G.P a w (fun a' w' => ∃ st' ρ', K st' ∧ Tm G st' ρ' a' ∧ Mem G st' ρ' w' ∧ Ext ρ ρ') Q := by
  unfold op1 at h
  split at h
  case h_1 t ho =>
    split at h
    · rename_i i hi
      split at h
      · rename_i z hz
        obtain ⟨cs, h, hd⟩ := cellsK_sound h
        obtain ⟨hc, hn⟩ := newO_sound h hK
        refine ⟨hc, fun ρ a w Q hx m mm => ?_⟩
        obtain ⟨st', ρ', k, m', mm', ex'⟩ := hn ρ a w z.cells.toList (hd ρ z rfl) m mm
        unfold Oper.wp
        have : (execOp a.eval o).run G.P w = .ok (.value (.pointer (some ⟨w.heap.size, 0, none⟩))) (w.alloc (.cells z.cells t)) := by
          simp [execOp, ho, Instr.alloc, zeroValue, typeInfo, hi, hz, newVar, newRow, newObj]
          rfl
        rw [this]
        exact ⟨st', ρ', k, m', by simpa using mm', ex'⟩
      · exact h.elim
    · exact h.elim
  case h_2 t x ho =>
    rcases ev_sound h with h | ⟨s, h, e⟩
    · exact h.elim
    obtain ⟨cs, h, hd⟩ := cellsK_sound h
    obtain ⟨hc, hn⟩ := newO_sound h hK
    refine ⟨hc, fun ρ a w Q hx m mm => ?_⟩
    obtain ⟨st', ρ', k, m', mm', ex'⟩ := hn ρ a w (a.eval x).cells.toList (hd ρ _ (e G ρ a m)) m mm
    unfold Oper.wp
    have : (execOp a.eval o).run G.P w = .ok (.value (.pointer (some ⟨w.heap.size, 0, none⟩))) (w.alloc (.cells (a.eval x).cells t)) := by
      simp [execOp, ho, Instr.box, newVar, newRow, newObj]
      rfl
    rw [this]
    exact ⟨st', ρ', k, m', by simpa using mm', ex'⟩
  case h_3 t x y ho =>
    rcases ev_sound h with h | ⟨sx, h, ex⟩
    · exact h.elim
    rcases ev_sound h with h | ⟨sy, h, ey⟩
    · exact h.elim
    split at h
    · rename_i n off
      obtain ⟨cs, h, hd⟩ := cellsK_sound h
      rcases stO_sound h (fun st k => (putK_sound k hK).1.1) with h | ⟨hc, hs⟩
      · exact h.elim
      refine ⟨hc, fun ρ a w Q hx m mm => ?_⟩
      have h1 := ex G ρ a m
      simp only [SV.den, Option.map_eq_some_iff] at h1
      obtain ⟨b, hb, hx⟩ := h1
      obtain ⟨st', w', k, hr, m', mm'⟩ := hs G ρ a w (a.eval y) b (hd ρ _ (ey G ρ a m)) hb m mm
      obtain ⟨_, hp⟩ := putK_sound k hK
      obtain ⟨st'', k', m'', mm''⟩ := hp ρ a w' undef rfl m' mm'
      unfold Oper.wp
      have : (execOp a.eval o).run G.P w = .ok .skip w' := by
        simp [execOp, ho, ← hx, hr]
      rw [this]
      exact ⟨st'', ρ, k', m'', mm'', Ext.refl _⟩
    · exact opAt_sound h
  case h_4 t x ho =>
    rcases ev_sound h with h | ⟨sx, h, ex⟩
    · exact h.elim
    split at h
    · rename_i ad
      obtain ⟨hc, ⟨r, hr, h⟩⟩ := stp_iff.1 h
      refine ⟨hc, fun ρ a w Q hx m mm => ?_⟩
      obtain ⟨_, hp⟩ := putK_sound h hK
      obtain ⟨st'', k', m'', mm''⟩ := hp ρ a w r rfl (m.same rfl) (mm.same rfl rfl rfl)
      have h1 := ex G ρ a m
      simp only [SV.den, Option.some.injEq] at h1
      unfold Oper.wp
      have : (execOp a.eval o).run G.P w = .ok (.value r) w := by
        simp [execOp, ho, ← h1, hr ρ w (mm.same rfl rfl rfl)]
      rw [this]
      exact ⟨st'', ρ, k', m'', mm'', Ext.refl _⟩
    · exact qOp_sound hK h
  case h_5 c ho =>
    split at h
    · rename_i x hc
      rcases ev_sound h with h | ⟨sx, h, ex⟩
      · exact h.elim
      rcases fnK_sound h with h | ⟨f, caps, h, efn⟩
      · exact opAt_sound h
      split at h
      · rename_i hen
        rcases evs_sound h with h | ⟨vs, h, e⟩
        · exact h.elim
        obtain ⟨h1, h2⟩ := expA_sound h
        refine ⟨?_, fun ρ a w Q hx m mm => ?_⟩
        · rcases h1 with h1 | ⟨_, st', e', h1⟩
          · exact h1.elim
          · rw [← e']; exact (stp_iff.1 h1).1
        · rcases h2 ρ a w (by simp) m mm with h2 | ⟨rs, st', h2, e2, m', mm'⟩
          · exact h2.elim
          have h2 := (stp_iff.1 h2).2
          have hfx : a.eval x = .func (.func f) #[] caps.toArray := by
            have := ex G ρ a m
            rw [efn ρ] at this
            injection this with this
            exact this.symm
          unfold Oper.wp
          rw [canEnter_sound hen ho hc a hfx w]
          have ha : c.args.map a.eval ++ caps.toArray = rs.toArray := by
            have h3 := appV_den (caps := caps) (e G ρ a m)
            rw [e2] at h3
            injection h3 with h3
            apply Array.ext'
            simpa using h3.symm
          rw [ha]
          rcases h2 with k | k
          · refine (k ρ w (mm'.same rfl rfl rfl)).mono ?_
            rintro e w' ⟨v, hs, rfl, mm2, k'⟩
            obtain ⟨_, hp⟩ := putK_sound k' hK
            obtain ⟨st'', k'', m'', mm''⟩ := hp ρ a w' v rfl (m'.same rfl) mm2
            exact ⟨st'', ρ, k'', m'', mm'', Ext.refl _⟩
          · refine (k ρ w (mm'.same rfl rfl rfl)).mono ?_
            rintro e w' ⟨ch, rfl, hp⟩
            exact hx _ _ _ ⟨ch, rfl, m.defs, hp⟩
      · exact h.elim
    · exact qOp_sound hK h
  case h_6 fn first captured ho =>
    split at h
    · rename_i hf
      rcases evs_sound h with h | ⟨vs, h, e⟩
      · exact h.elim
      obtain ⟨h1, h2⟩ := expA_sound h
      refine ⟨?_, fun ρ a w Q hx m mm => ?_⟩
      · rcases h1 with h1 | ⟨_, st', e', h1⟩
        · exact h1.elim
        · rw [← e']; exact (putK_sound h1 hK).1.1
      · rcases h2 ρ a w (by simp) m mm with h2 | ⟨rs, st', h2, e2, m', mm'⟩
        · exact h2.elim
        obtain ⟨_, hp⟩ := putK_sound h2 hK
        obtain ⟨st'', k'', m'', mm''⟩ := hp ρ a w _ rfl m' mm'
        have ha : captured.map a.eval = rs.toArray := by
          have h3 := e G ρ a m
          rw [e2] at h3
          injection h3 with h3
          apply Array.ext'
          simpa using h3.symm
        have hf' : first = #[] := by apply Array.ext'; simpa using hf
        have : (execOp a.eval o).run G.P w = .ok (.value (.func fn #[] rs.toArray)) w := by
          simp [execOp, ho, hf', Instr.makeFunc, ha]
        unfold Oper.wp
        rw [this]
        exact ⟨st'', ρ, k'', m'', mm'', Ext.refl _⟩
    · exact opAt_sound h
  case h_7 => exact qOp_sound hK h
theorem op1_sound {G : Gl} {o : Oper} {st : St} {K : St → Prop} (h : op1 G o st K) (hK : Good K) :
    st.c ∧ ∀ ρ a w Q, (∀ e a w, PXE G e a w → Q e a w) → Tm G st ρ a → Mem G st ρ w → o.wp G.P a w (fun a' w' => ∃ st' ρ', K st' ∧ Tm G st' ρ' a' ∧ Mem G st' ρ' w') Q :=
  ⟨(op1_soundX h hK).1, fun ρ a w Q hx m mm => Oper.wp_mono (fun a' w' ⟨st', ρ', k, m', mm', _⟩ => ⟨st', ρ', k, m', mm'⟩) ((op1_soundX h hK).2 ρ a w Q hx m mm)⟩
end Sy
end Go.Proofs.YtgdbdebieghnkaaGreat

/-
  Symbolic runs: regions, code, loops; a function.
-/
namespace Go.Proofs.YtgdbdebieghnkaaGreat
open Go.RowKit
namespace Sy
set_option linter.unusedVariables false
set_option linter.unusedSimpArgs false

theorem wanted_eq {G : Gl} {all : List Oper} {o oj : Oper} {j t : Nat} {want b : Bool} {x : SV} {st : St} {ρ : List Nat} {a : Act} (hg : o.guard = some (j, want)) (hj : all[j]? = some oj) (ht : oj.dst = some t) (hx : getT st.t t = some x) (hb : x.den ρ = some (.bool b)) (m : Tm G st ρ a) :
    Region.wanted o (yielded all.toArray a.tmps) = (b == want) := by
  obtain ⟨h1, h2⟩ := m.get t x hx
  rw [hb] at h2
  injection h2 with h2
  have hs : t < a.tmps.size := by rw [m.size]; exact h1
  have h3 : a.tmps[t]? = some (.bool b) := by
    rw [h2]
    simp [hs]
  have h4 : yielded all.toArray a.tmps j = some b := by
    unfold yielded
    simp [hj, ht, h3]
  unfold Region.wanted
  simp only [hg, h4]
  cases b <;> cases want <;> rfl
theorem wanted_undef {G : Gl} {all : List Oper} {o oj : Oper} {j t : Nat} {want : Bool} {xs : Array Value} {st : St} {ρ : List Nat} {a : Act} (hg : o.guard = some (j, want)) (hj : all[j]? = some oj) (ht : oj.dst = some t) (hx : getT st.t t = some (.v (.tuple xs))) (m : Tm G st ρ a) :
    Region.wanted o (yielded all.toArray a.tmps) = false := by
  obtain ⟨h1, h2⟩ := m.get t _ hx
  simp only [SV.den, Option.some.injEq] at h2
  have hs : t < a.tmps.size := by rw [m.size]; exact h1
  have h3 : a.tmps[t]? = some (.tuple xs) := by
    rw [h2]
    simp [hs]
  have h4 : yielded all.toArray a.tmps j = none := by
    unfold yielded
    simp [hj, ht, h3]
  unfold Region.wanted
  simp only [hg, h4]
  rfl
theorem wanted_none {o : Oper} (hg : o.guard = none) (y : Nat → Option Bool) : Region.wanted o y = true := by unfold Region.wanted; rw [hg]

def seen (st : St) (t : Nat) (b : Bool) : St := match st with
  | ⟨tm, o, n, h, c⟩ => ⟨(t, .k b) :: tm, o, n, h, c⟩
theorem seen_tm {G : Gl} {st : St} {t : Nat} {b : Bool} {ρ : List Nat} {a : Act} (m : Tm G st ρ a) (hx : getT st.t t = some (.v (.bool b))) : Tm G (seen st t b) ρ a := by
  refine ⟨m.size, m.defs, fun s y e => ?_⟩
  simp only [seen, getT] at e
  split at e
  · rename_i hb
    have hb' := beq_of hb
    subst hb'
    injection e with e
    subst e
    exact ⟨(m.get _ _ hx).1, (m.get _ _ hx).2⟩
  · exact m.get s y e

/-- operations one by one, guarded ones too -/
def opsG (step : Oper → St → (St → Prop) → Prop) (G : Gl) (all : List Oper) : List Oper → St → (St → Prop) → Prop
  | [], st, K => K st
  | o :: rest, st, K => match o.guard with
    | none => step o st fun st => opsG step G all rest st K
    | some (j, want) => match all[j]? with
      | some oj => match oj.dst with
        | some t => match getT st.t t with
          | some (.k b) => match (b == want) with
            | true => step o st fun st => opsG step G all rest st K
            | false => putK G st o.dst (.v undef) none fun st => opsG step G all rest st K
          | some (.v (.bool b)) => (b = want → step o (seen st t want) fun st => opsG step G all rest st K) ∧ (b = !want → putK G (seen st t (!want)) o.dst (.v undef) none fun st => opsG step G all rest st K)
          | some (.v (.tuple _)) => putK G st o.dst (.v undef) none fun st => opsG step G all rest st K
          | _ => False
        | none => False
      | none => False

/-- what a step must be -/
def Step1 (G : Gl) (step : Oper → St → (St → Prop) → Prop) : Prop := ∀ {o st K}, step o st K → Good K →
  st.c ∧ ∀ ρ a w Q, (∀ e a w, PXE G e a w → Q e a w) → Tm G st ρ a → Mem G st ρ w → o.wp G.P a w (fun a' w' => ∃ st' ρ', K st' ∧ Tm G st' ρ' a' ∧ Mem G st' ρ' w') Q

theorem ops_sound {G : Gl} {step : Oper → St → (St → Prop) → Prop} (hs : Step1 G step) {all : List Oper} : ∀ {l : List Oper} {st : St} {K : St → Prop}, opsG step G all l st K → Good K →
    st.c ∧ ∀ ρ a w Q, (∀ e a w, PXE G e a w → Q e a w) → Tm G st ρ a → Mem G st ρ w → (∀ st ρ a w, K st → Tm G st ρ a → Mem G st ρ w → Q .normal a w) → wpList G.P all.toArray Q l a w
  | [], st, K, h, hK => ⟨hK _ h, fun ρ a w Q hx m mm hq => hq st ρ a w h m mm⟩
  | o :: rest, st, K, h, hK => by
    have good : Good (fun st => opsG step G all rest st K) := fun st h => (ops_sound hs h hK).1
    have yes : ∀ {st0 : St}, (step o st0 fun st => opsG step G all rest st K) → st0.c ∧ ∀ ρ a w Q, (∀ e a w, PXE G e a w → Q e a w) → Tm G st0 ρ a → Mem G st0 ρ w → Region.wanted o (yielded all.toArray a.tmps) = true →
        (∀ st ρ a w, K st → Tm G st ρ a → Mem G st ρ w → Q .normal a w) → wpList G.P all.toArray Q (o :: rest) a w := by
      intro st0 h
      obtain ⟨hc, hw⟩ := hs h good
      refine ⟨hc, fun ρ a w Q hx m mm hwt hq => ?_⟩
      unfold wpList
      rw [if_pos hwt]
      refine .inl (Oper.wp_mono (fun a' w' ⟨st', ρ', k, m', mm'⟩ => ?_) (hw ρ a w Q hx m mm))
      exact (ops_sound hs k hK).2 ρ' a' w' Q hx m' mm' hq
    have no : ∀ {st0 : St}, (putK G st0 o.dst (.v undef) none fun st => opsG step G all rest st K) → st0.c ∧ ∀ ρ a w Q, (∀ e a w, PXE G e a w → Q e a w) → Tm G st0 ρ a → Mem G st0 ρ w → Region.wanted o (yielded all.toArray a.tmps) = false →
        (∀ st ρ a w, K st → Tm G st ρ a → Mem G st ρ w → Q .normal a w) → wpList G.P all.toArray Q (o :: rest) a w := by
      intro st0 h
      obtain ⟨⟨hc, _⟩, hp⟩ := putK_sound h good
      refine ⟨hc, fun ρ a w Q hx m mm hwt hq => ?_⟩
      unfold wpList
      rw [if_neg (by rw [hwt]; simp)]
      obtain ⟨st', k, m', mm'⟩ := hp ρ a w undef rfl m mm
      exact (ops_sound hs k hK).2 ρ _ w Q hx m' mm' hq
    unfold opsG at h
    split at h
    · rename_i hg
      obtain ⟨hc, hw⟩ := yes h
      exact ⟨hc, fun ρ a w Q hX m mm hq => hw ρ a w Q hX m mm (wanted_none hg _) hq⟩
    · rename_i j want hg
      split at h
      · rename_i oj hj
        split at h
        · rename_i t ht
          split at h
          · rename_i b hx
            split at h
            · rename_i hb
              obtain ⟨hc, hw⟩ := yes h
              exact ⟨hc, fun ρ a w Q hX m mm hq => hw ρ a w Q hX m mm (by rw [wanted_eq hg hj ht hx rfl m, hb]) hq⟩
            · rename_i hb
              obtain ⟨hc, hw⟩ := no h
              exact ⟨hc, fun ρ a w Q hX m mm hq => hw ρ a w Q hX m mm (by rw [wanted_eq hg hj ht hx rfl m, hb]) hq⟩
          · rename_i b hx
            by_cases hb : b = want
            · subst hb
              obtain ⟨hc, hw⟩ := yes (h.1 rfl)
              exact ⟨hc, fun ρ a w Q hX m mm hq => hw ρ a w Q hX (seen_tm m hx) (mm.same rfl rfl rfl) (by rw [wanted_eq hg hj ht hx rfl m]; simp) hq⟩
            · have hb' : b = !want := by cases b <;> cases want <;> simp_all
              subst hb'
              obtain ⟨hc, hw⟩ := no (h.2 rfl)
              exact ⟨hc, fun ρ a w Q hX m mm hq => hw ρ a w Q hX (seen_tm m hx) (mm.same rfl rfl rfl) (by rw [wanted_eq hg hj ht hx rfl m]; simp) hq⟩
          · rename_i hx
            obtain ⟨hc, hw⟩ := no h
            exact ⟨hc, fun ρ a w Q hX m mm hq => hw ρ a w Q hX m mm (wanted_undef hg hj ht hx m) hq⟩
          · exact h.elim
        · exact h.elim
      · exact h.elim

/-- an operation of a region that draws its order -/
def opQ (G : Gl) (o : Oper) (st : St) (K : St → Prop) : Prop :=
  match o.op with
  | .load t x => ev st x False fun vx => match vx with
    | .v (.pointer (some ad)) => stp st fun st => LoadAt G t ad st fun r => putK G st o.dst r none K
    | _ => q1 G.P G.tr st o (stp st fun st => RunQ G o st fun r => putK G st o.dst r none K) fun r q => putK G st o.dst r q K
  | .call c => match c.callee with
    | .value x => ev st x False fun vx => fnK vx False fun f caps => match canEnter G.P f with
      | true => evs st False c.args.toList fun vs => reals False (appV vs caps) fun rs => stp st fun st => CallQ G f rs st fun r => putK G st o.dst r none K
      | false => False
    | _ => q1 G.P G.tr st o (stp st fun st => RunQ G o st fun r => putK G st o.dst r none K) fun r q => putK G st o.dst r q K
  | _ => q1 G.P G.tr st o (stp st fun st => RunQ G o st fun r => putK G st o.dst r none K) fun r q => putK G st o.dst r q K

/-- the same memory -/
def SameM (st st' : St) : Prop := st'.o = st.o ∧ st'.n = st.n ∧ st'.h = st.h
theorem SameM.mem {G : Gl} {st st' : St} (h : SameM st st') {ρ : List Nat} {w : World} : Mem G st' ρ w ↔ Mem G st ρ w :=
  ⟨fun m => m.same h.1.symm h.2.1.symm h.2.2.symm, fun m => m.same h.1 h.2.1 h.2.2⟩
theorem putK_same {G : Gl} {st : St} {d : Option Nat} {x : SV} {q : Option Prop} {K : St → Prop} (h : putK G st d x q K) (hK : Good K) :
    (st.c ∧ holds q) ∧ ∀ ρ a v, x.den ρ = some v → Tm G st ρ a → ∃ st', K st' ∧ SameM st st' ∧ Tm G st' ρ (a.put d v) := by
  obtain ⟨t, o, n, hh, c⟩ := st
  unfold putK at h
  cases d with
  | some i =>
    simp only at h
    split at h
    · rename_i hi
      have hi' : i < G.N := Nat.le_of_ble_eq_true hi
      cases q with
      | none =>
        simp only at h
        have hc := hK _ h
        exact ⟨⟨hc, trivial⟩, fun ρ a v hx m => ⟨_, h, ⟨rfl, rfl, rfl⟩, m.put_ hi' hx _ _ _ _⟩⟩
      | some p =>
        simp only at h
        have hc := hK _ h
        exact ⟨hc, fun ρ a v hx m => ⟨_, h, ⟨rfl, rfl, rfl⟩, m.put_ hi' hx _ _ _ _⟩⟩
    · exact h.elim
  | none =>
    cases q with
    | none =>
      simp only at h
      have hc := hK _ h
      exact ⟨⟨hc, trivial⟩, fun ρ a v hx m => ⟨_, h, ⟨rfl, rfl, rfl⟩, m⟩⟩
    | some p =>
      simp only at h
      have hc := hK _ h
      exact ⟨hc, fun ρ a v hx m => ⟨_, h, ⟨rfl, rfl, rfl⟩, m.same rfl⟩⟩

theorem seen_mem {G : Gl} {st : St} (t : Nat) (b : Bool) (ρ : List Nat) : Mem G (seen st t b) ρ = Mem G st ρ := funext fun w => propext ⟨fun m => m.same rfl rfl rfl, fun m => m.same rfl rfl rfl⟩

def Quiet1 (G : Gl) (o : Oper) (st : St) (K : St → Prop) : Prop :=
  st.c ∧ ∀ ρ a w0, Tm G st ρ a → Mem G st ρ w0 → ∃ v st', K st' ∧ SameM st st' ∧ (∀ w, Mem G st ρ w → o.quietAt G.P a (Mem G st ρ) w v) ∧ Tm G st' ρ (a.put o.dst v)

theorem quiet_q1 {G : Gl} {o : Oper} {st : St} {K : St → Prop} (hK : Good K) (h : q1 G.P G.tr st o (stp st fun st => RunQ G o st fun r => putK G st o.dst r none K) fun r q => putK G st o.dst r q K) : Quiet1 G o st K := by
  rcases q1_sound h with h | ⟨x, q, h, hy⟩
  · obtain ⟨hc, ⟨r, hr, h⟩⟩ := stp_iff.1 h
    obtain ⟨_, hp⟩ := putK_same h hK
    refine ⟨hc, fun ρ a w0 m mm0 => ?_⟩
    obtain ⟨st', k, hs, m'⟩ := hp ρ a r rfl (m.same rfl)
    refine ⟨r, st', k, hs, fun w mm => ?_, m'⟩
    unfold Oper.quietAt
    rw [hr ρ a w (m.same rfl) (mm.same rfl rfl rfl)]
    exact ⟨rfl, rfl⟩
  · obtain ⟨⟨hc, hq⟩, hp⟩ := putK_same h hK
    refine ⟨hc, fun ρ a w0 m mm0 => ?_⟩
    have hy := hy hq
    obtain ⟨v, e1, e2⟩ := hy G ρ a w0 m mm0.ob
    obtain ⟨st', k, hs, m'⟩ := hp ρ a v e1 m
    refine ⟨v, st', k, hs, fun w' mm' => ?_, m'⟩
    obtain ⟨v', e3, e4⟩ := hy G ρ a w' m mm'.ob
    rw [e1] at e3
    injection e3 with e3
    subst e3
    unfold Oper.quietAt
    rw [e4]
    exact ⟨rfl, rfl⟩

theorem opQ_sound {G : Gl} {o : Oper} {st : St} {K : St → Prop} (h : opQ G o st K) (hK : Good K) : Quiet1 G o st K := by
  unfold opQ at h
  split at h
  case h_1 t x ho =>
    rcases ev_sound h with h | ⟨sx, h, ex⟩
    · exact h.elim
    split at h
    · rename_i ad
      obtain ⟨hc, ⟨r, hr, h⟩⟩ := stp_iff.1 h
      refine ⟨hc, fun ρ a w0 m mm0 => ?_⟩
      obtain ⟨_, hp⟩ := putK_same h hK
      obtain ⟨st', k, hs, m'⟩ := hp ρ a r rfl (m.same rfl)
      refine ⟨r, st', k, hs, fun w mm => ?_, m'⟩
      have h1 := ex G ρ a m
      simp only [SV.den, Option.some.injEq] at h1
      unfold Oper.quietAt
      have : (execOp a.eval o).run G.P w = .ok (.value r) w := by
        simp [execOp, ho, ← h1, hr ρ w (mm.same rfl rfl rfl)]
      rw [this]
      exact ⟨rfl, rfl⟩
    · exact quiet_q1 hK h
  case h_2 c ho =>
    split at h
    · rename_i x hc
      rcases ev_sound h with h | ⟨sx, h, ex⟩
      · exact h.elim
      rcases fnK_sound h with h | ⟨f, caps, h, efn⟩
      · exact h.elim
      split at h
      · rename_i hen
        rcases evs_sound h with h | ⟨vs, h, e⟩
        · exact h.elim
        rcases reals_sound h with h | ⟨rs, h, er⟩
        · exact h.elim
        obtain ⟨hcc, ⟨r, hr, h⟩⟩ := stp_iff.1 h
        refine ⟨hcc, fun ρ a w0 m mm0 => ?_⟩
        obtain ⟨_, hp⟩ := putK_same h hK
        obtain ⟨st', k, hs, m'⟩ := hp ρ a r rfl (m.same rfl)
        refine ⟨r, st', k, hs, fun w mm => ?_, m'⟩
        have hfx : a.eval x = .func (.func f) #[] caps.toArray := by
          have := ex G ρ a m
          rw [efn ρ] at this
          injection this with this
          exact this.symm
        unfold Oper.quietAt
        rw [canEnter_sound hen ho hc a hfx w]
        have ha : c.args.map a.eval ++ caps.toArray = rs.toArray := by
          have h3 := appV_den (caps := caps) (e G ρ a m)
          rw [er ρ] at h3
          injection h3 with h3
          apply Array.ext'
          simpa using h3.symm
        rw [ha]
        refine ⟨rfl, (hr ρ w (mm.same rfl rfl rfl)).mono ?_⟩
        rintro e w' ⟨rfl, mm'⟩
        exact ⟨rfl, mm'.same rfl rfl rfl⟩
      · exact h.elim
    · exact quiet_q1 hK h
  case h_3 => exact quiet_q1 hK h

theorem opsQ_sound {G : Gl} {all : List Oper} : ∀ {l : List Oper} {st : St} {K : St → Prop}, opsG (opQ G) G all l st K → Good K →
    st.c ∧ ∀ ρ a w0, Tm G st ρ a → Mem G st ρ w0 → wpQuiet G.P all.toArray (Mem G st ρ) (fun a' => ∃ st', K st' ∧ SameM st st' ∧ Tm G st' ρ a') l a
  | [], st, K, h, hK => ⟨hK _ h, fun ρ a w0 m mm => ⟨st, h, ⟨rfl, rfl, rfl⟩, m⟩⟩
  | o :: rest, st, K, h, hK => by
    have good : Good (fun st => opsG (opQ G) G all rest st K) := fun st h => (opsQ_sound h hK).1
    have step : ∀ {st0 st' : St} {ρ : List Nat} {a' : Act} {w0 : World}, SameM st0 st' → opsG (opQ G) G all rest st' K → Tm G st' ρ a' → Mem G st0 ρ w0 →
        wpQuiet G.P all.toArray (Mem G st0 ρ) (fun a' => ∃ st', K st' ∧ SameM st0 st' ∧ Tm G st' ρ a') rest a' := by
      intro st0 st' ρ a' w0 hs k m' mm
      have h1 := (opsQ_sound k hK).2 ρ a' w0 m' (hs.mem.2 mm)
      have e : (Mem G st' ρ) = (Mem G st0 ρ) := funext fun w => propext hs.mem
      rw [e] at h1
      have e2 : (fun a' => ∃ st'', K st'' ∧ SameM st' st'' ∧ Tm G st'' ρ a') = (fun a' => ∃ st'', K st'' ∧ SameM st0 st'' ∧ Tm G st'' ρ a') := by
        funext a''
        apply propext
        constructor <;> rintro ⟨x, k, s, m⟩ <;> refine ⟨x, k, ?_, m⟩
        · exact ⟨s.1.trans hs.1, s.2.1.trans hs.2.1, s.2.2.trans hs.2.2⟩
        · exact ⟨s.1.trans hs.1.symm, s.2.1.trans hs.2.1.symm, s.2.2.trans hs.2.2.symm⟩
      rw [e2] at h1
      exact h1
    have yes : ∀ {st0 : St}, (opQ G o st0 fun st => opsG (opQ G) G all rest st K) → st0.c ∧ ∀ ρ a w0, Tm G st0 ρ a → Mem G st0 ρ w0 → Region.wanted o (yielded all.toArray a.tmps) = true →
        wpQuiet G.P all.toArray (Mem G st0 ρ) (fun a' => ∃ st', K st' ∧ SameM st0 st' ∧ Tm G st' ρ a') (o :: rest) a := by
      intro st0 h
      obtain ⟨hc, hw⟩ := opQ_sound h good
      refine ⟨hc, fun ρ a w0 m mm hwt => ?_⟩
      unfold wpQuiet
      rw [if_pos hwt]
      obtain ⟨v, st', k, hs, hq, m'⟩ := hw ρ a w0 m mm
      exact ⟨v, hq, step hs k m' mm⟩
    have no : ∀ {st0 : St}, (putK G st0 o.dst (.v undef) none fun st => opsG (opQ G) G all rest st K) → st0.c ∧ ∀ ρ a w0, Tm G st0 ρ a → Mem G st0 ρ w0 → Region.wanted o (yielded all.toArray a.tmps) = false →
        wpQuiet G.P all.toArray (Mem G st0 ρ) (fun a' => ∃ st', K st' ∧ SameM st0 st' ∧ Tm G st' ρ a') (o :: rest) a := by
      intro st0 h
      obtain ⟨⟨hc, _⟩, hp⟩ := putK_same h good
      refine ⟨hc, fun ρ a w0 m mm hwt => ?_⟩
      unfold wpQuiet
      rw [if_neg (by rw [hwt]; simp)]
      obtain ⟨st', k, hs, m'⟩ := hp ρ a undef rfl m
      exact step hs k m' mm
    unfold opsG at h
    split at h
    · rename_i hg
      obtain ⟨hc, hw⟩ := yes h
      exact ⟨hc, fun ρ a w0 m mm => hw ρ a w0 m mm (wanted_none hg _)⟩
    · rename_i j want hg
      split at h
      · rename_i oj hj
        split at h
        · rename_i t ht
          split at h
          · rename_i b hx
            split at h
            · rename_i hb
              obtain ⟨hc, hw⟩ := yes h
              exact ⟨hc, fun ρ a w0 m mm => hw ρ a w0 m mm (by rw [wanted_eq hg hj ht hx rfl m, hb])⟩
            · rename_i hb
              obtain ⟨hc, hw⟩ := no h
              exact ⟨hc, fun ρ a w0 m mm => hw ρ a w0 m mm (by rw [wanted_eq hg hj ht hx rfl m, hb])⟩
          · rename_i b hx
            by_cases hb : b = want
            · subst hb
              obtain ⟨hc, hw⟩ := yes (h.1 rfl)
              exact ⟨hc, fun ρ a w0 m mm => (seen_mem (G := G) (st := st) t _ ρ) ▸ hw ρ a w0 (seen_tm m hx) (mm.same rfl rfl rfl) (by rw [wanted_eq hg hj ht hx rfl m]; simp)⟩
            · have hb' : b = !want := by cases b <;> cases want <;> simp_all
              subst hb'
              obtain ⟨hc, hw⟩ := no (h.2 rfl)
              exact ⟨hc, fun ρ a w0 m mm => (seen_mem (G := G) (st := st) t _ ρ) ▸ hw ρ a w0 (seen_tm m hx) (mm.same rfl rfl rfl) (by rw [wanted_eq hg hj ht hx rfl m]; simp)⟩
          · rename_i hx
            obtain ⟨hc, hw⟩ := no h
            exact ⟨hc, fun ρ a w0 m mm => hw ρ a w0 m mm (wanted_undef hg hj ht hx m)⟩
          · exact h.elim
        · exact h.elim
      · exact h.elim

/-! code -/
def Le (G : Gl) (st st' : St) : Prop := ∀ ρ a w, Tm G st ρ a → Mem G st ρ w → ∃ ρ', Tm G st' ρ' a ∧ Mem G st' ρ' w
inductive LoopAt (G : Gl) (body : St → (St → Prop) → Prop) (st : St) : Prop
  | mk (I : Nat → St → Prop) (Kc : Nat → St → Prop) (hk : ∀ m s, Kc m s → s.c ∧ ∃ m' s', m' < m ∧ Le G s s' ∧ I m' s') (h0 : ∀ ρ a w, Tm G st ρ a → Mem G st ρ w → ∃ m st' ρ', I m st' ∧ Tm G st' ρ' a ∧ Mem G st' ρ' w) (round : ∀ m st, I m st → body st (Kc m))
inductive RegAt (G : Gl) (id : Nat) (os : Array Oper) (st : St) (K : St → Prop) : Prop
  | mk (h : ∀ ρ a w, Tm G st ρ a → Mem G st ρ w → (Code.region id os true).wp G.P (fun e a' w' => (e = .normal ∧ ∃ st' ρ', K st' ∧ Tm G st' ρ' a' ∧ Mem G st' ρ' w') ∨ PXE G e a' w') a w)
def iff (b : Bool) (A B : Prop) : Prop := (b = true → A) ∧ (b = false → B)

def run (G : Gl) : Code → St → (St → Prop) → (Nat → St → Prop) → (St → Prop) → Prop
  | .skip, st, K, _, _ => K st
  | .region id os draw, st, K, _, _ => match draw with
    | false => opsG (op1 G) G os.toList os.toList st K
    | true => stp st fun st => RegAt G id os st K
  | .seq a b, st, K, E, R => run G a st (fun st => run G b st K E R) E R
  | .cond c a b, st, K, E, R => ev st c False fun v => match v with
    | .k x => match x with
      | true => run G a st K E R
      | false => run G b st K E R
    | .v (.bool x) => iff x (run G a st K E R) (run G b st K E R)
    | _ => False
  | .block id c, st, K, E, R => run G c st K (fun j st => match Nat.beq j id with | true => K st | false => E j st) R
  | .loop c, st, K, E, R => stp st fun st => LoopAt G (fun st K' => run G c st K' E R) st
  | .exit id, st, _, E, _ => E id st
  | .ret, st, _, _, R => R st
  | _, _, _, _, _ => False

theorem least (p : Nat → Prop) (h : ∃ n, p n) : ∃ n, p n ∧ ∀ m, p m → n ≤ m := by
  obtain ⟨n, hn⟩ := h
  induction n using Nat.strongRecOn with
  | _ n ih =>
    by_cases c : ∃ m, m < n ∧ p m
    · obtain ⟨m, hm, hp⟩ := c
      exact ih m hm hp
    · exact ⟨n, hn, fun m hp => Nat.le_of_not_lt fun hlt => c ⟨m, hlt, hp⟩⟩
theorem wp_loop_rel {P : Program} {c : Code} {Q : Exit → Act → World → Prop} {a : Act} {w : World} (I : Nat → Act → World → Prop) {m : Nat} (h0 : I m a w)
    (round : ∀ m a w, I m a w → c.wp P (Exit.then (fun a' w' => ∃ m', m' < m ∧ I m' a' w') Q) a w) : (Code.loop c).wp P Q a w := by
  classical
  let μ : Act → World → Nat := fun a w => if h : ∃ n, I n a w then Classical.choose (least _ h) else 0
  have hμ : ∀ a w n, I n a w → I (μ a w) a w ∧ μ a w ≤ n := fun a w n h => by
    have he : ∃ n, I n a w := ⟨n, h⟩
    have hs := Classical.choose_spec (least _ he)
    have e : μ a w = Classical.choose (least _ he) := dif_pos he
    rw [e]
    exact ⟨hs.1, hs.2 n h⟩
  refine wp_loop (fun a w => ∃ n, I n a w) μ ⟨m, h0⟩ fun a w ⟨n, h⟩ => ?_
  refine wp_mono (round (μ a w) a w (hμ a w n h).1) ?_
  intro e a' w' hq
  cases e with
  | normal =>
    obtain ⟨m', hlt, hI⟩ := hq
    exact ⟨⟨m', hI⟩, Nat.lt_of_le_of_lt (hμ a' w' m' hI).2 hlt⟩
  | exit _ => exact hq
  | goto _ => exact hq
  | ret => exact hq
  | panic _ => exact hq
  | outgrown => exact hq

theorem run_sound {G : Gl} (hm : G.P.follows .mixedOrders = true) : ∀ (c : Code) {st : St} {K : St → Prop} {E : Nat → St → Prop} {R : St → Prop}, run G c st K E R → Good K → (∀ j, Good (E j)) → Good R →
    st.c ∧ ∀ ρ a w Q, (∀ e a w, PXE G e a w → Q e a w) → Tm G st ρ a → Mem G st ρ w → (∀ st ρ a w, K st → Tm G st ρ a → Mem G st ρ w → Q .normal a w) → (∀ j st ρ a w, E j st → Tm G st ρ a → Mem G st ρ w → Q (.exit j) a w) →
      (∀ st ρ a w, R st → Tm G st ρ a → Mem G st ρ w → Q .ret a w) → c.wp G.P Q a w
  | .skip, st, K, E, R, h, hK, hE, hR => by
    unfold run at h
    exact ⟨hK _ h, fun ρ a w Q hx m mm q1 q2 q3 => wp_skip (q1 _ _ _ _ h m mm)⟩
  | .region id os draw, st, K, E, R, h, hK, hE, hR => by
    unfold run at h
    cases draw with
    | false =>
      simp only at h
      obtain ⟨hc, hw⟩ := ops_sound (G := G) (step := op1 G) (fun h hK => op1_sound h hK) h hK
      refine ⟨hc, fun ρ a w Q hx m mm q1 q2 q3 => wp_region_list ?_⟩
      simpa using hw ρ a w Q hx m mm q1
    | true =>
      simp only at h
      obtain ⟨hc, ⟨h⟩⟩ := stp_iff.1 h
      refine ⟨hc, fun ρ a w Q hx m mm q1 q2 q3 => ?_⟩
      refine wp_mono (h ρ a w (m.same rfl) (mm.same rfl rfl rfl)) ?_
      rintro e a' w' (⟨rfl, st', ρ', k, m', mm'⟩ | hp)
      · exact q1 st' ρ' a' w' k m' mm'
      · exact hx _ _ _ hp
  | .seq x y, st, K, E, R, h, hK, hE, hR => by
    unfold run at h
    obtain ⟨hc, hw⟩ := run_sound hm x h (fun st h => (run_sound hm y h hK hE hR).1) hE hR
    refine ⟨hc, fun ρ a w Q hx m mm q1 q2 q3 => wp_seq ?_⟩
    refine hw ρ a w _ (fun e a w hp => by obtain ⟨ch, e', h'⟩ := hp; subst e'; exact hx _ _ _ ⟨ch, rfl, h'⟩) m mm (fun st ρ a w k m mm => ?_) q2 q3
    exact (run_sound hm y k hK hE hR).2 ρ a w Q hx m mm q1 q2 q3
  | .cond c x y, st, K, E, R, h, hK, hE, hR => by
    unfold run at h
    rcases ev_sound h with h | ⟨s, h, e⟩
    · exact h.elim
    have fin : ∀ b : Bool, (∀ ρ, s.den ρ = some (.bool b)) → run G (if b then x else y) st K E R → st.c ∧ ∀ ρ a w Q, (∀ e a w, PXE G e a w → Q e a w) → Tm G st ρ a → Mem G st ρ w → (∀ st ρ a w, K st → Tm G st ρ a → Mem G st ρ w → Q .normal a w) → (∀ j st ρ a w, E j st → Tm G st ρ a → Mem G st ρ w → Q (.exit j) a w) →
      (∀ st ρ a w, R st → Tm G st ρ a → Mem G st ρ w → Q .ret a w) → (Code.cond c x y).wp G.P Q a w := by
      intro b hb h
      have hev : ∀ ρ a, Tm G st ρ a → a.eval c = .bool b := fun ρ a m => by
        have := e G ρ a m
        rw [hb ρ] at this
        injection this with this
        exact this.symm
      cases b with
      | true =>
        obtain ⟨hc, hw⟩ := run_sound hm x h hK hE hR
        exact ⟨hc, fun ρ a w Q hx m mm q1 q2 q3 => wp_cond (hev ρ a m) (hw ρ a w Q hx m mm q1 q2 q3)⟩
      | false =>
        obtain ⟨hc, hw⟩ := run_sound hm y h hK hE hR
        exact ⟨hc, fun ρ a w Q hx m mm q1 q2 q3 => wp_cond (hev ρ a m) (hw ρ a w Q hx m mm q1 q2 q3)⟩
    split at h
    · split at h
      · exact fin true (fun _ => rfl) h
      · exact fin false (fun _ => rfl) h
    · rename_i b
      cases b with
      | true => exact fin true (fun _ => rfl) (h.1 rfl)
      | false => exact fin false (fun _ => rfl) (h.2 rfl)
    · exact h.elim
  | .block id x, st, K, E, R, h, hK, hE, hR => by
    unfold run at h
    obtain ⟨hc, hw⟩ := run_sound hm x h hK (fun j st h => by
      split at h
      · exact hK _ h
      · exact hE _ _ h) hR
    refine ⟨hc, fun ρ a w Q hx m mm q1 q2 q3 => wp_block ?_⟩
    refine hw ρ a w _ (fun e a w hp => by obtain ⟨ch, e', h'⟩ := hp; subst e'; exact hx _ _ _ ⟨ch, rfl, h'⟩) m mm q1 (fun j st ρ a w k m mm => ?_) q3
    simp only [Exit.inBlock]
    split at k
    · rename_i hb
      rw [if_pos (beq_of hb)]
      exact q1 st ρ a w k m mm
    · rename_i hb
      rw [if_neg (fun c => by subst c; rw [Nat.beq_refl] at hb; cases hb)]
      exact q2 j st ρ a w k m mm
  | .loop x, st, K, E, R, h, hK, hE, hR => by
    unfold run at h
    obtain ⟨hc, ⟨I, Kc, hk, h0, round⟩⟩ := stp_iff.1 h
    refine ⟨hc, fun ρ a w Q hx m mm q1 q2 q3 => ?_⟩
    obtain ⟨m0, st0, ρ0, hI, t0, mm0⟩ := h0 ρ a w (m.same rfl) (mm.same rfl rfl rfl)
    refine wp_loop_rel (fun n a w => ∃ st ρ, I n st ∧ Tm G st ρ a ∧ Mem G st ρ w) (m := m0) ⟨st0, ρ0, hI, t0, mm0⟩ ?_
    rintro n a w ⟨st1, ρ1, hI1, t1, mm1⟩
    have h1 := run_sound hm x (round n st1 hI1) (fun st h => (hk _ _ h).1) hE hR
    refine h1.2 ρ1 a w _ (fun e a w hp => by obtain ⟨ch, e', h'⟩ := hp; subst e'; exact hx _ _ _ ⟨ch, rfl, h'⟩) t1 mm1 (fun st ρ a w k m mm => ?_) q2 q3
    obtain ⟨_, m', st2, hlt, hle2, hI2⟩ := hk _ _ k
    obtain ⟨ρ2, t2, mm2⟩ := hle2 ρ a w m mm
    exact ⟨m', hlt, st2, ρ2, hI2, t2, mm2⟩
  | .exit j, st, K, E, R, h, hK, hE, hR => by
    unfold run at h
    exact ⟨hE _ _ h, fun ρ a w Q hx m mm q1 q2 q3 => wp_exit (q2 _ _ _ _ _ h m mm)⟩
  | .ret, st, K, E, R, h, hK, hE, hR => by
    unfold run at h
    exact ⟨hR _ h, fun ρ a w Q hx m mm q1 q2 q3 => wp_ret (q3 _ _ _ _ h m mm)⟩
  | .rangeFunc .., st, K, E, R, h, hK, hE, hR => by unfold run at h; exact h.elim
  | .scope _, st, K, E, R, h, hK, hE, hR => by unfold run at h; exact h.elim
  | .label _, st, K, E, R, h, hK, hE, hR => by unfold run at h; exact h.elim
  | .goto _, st, K, E, R, h, hK, hE, hR => by unfold run at h; exact h.elim
  | .refuse _, st, K, E, R, h, hK, hE, hR => by unfold run at h; exact h.elim
end Sy
end Go.Proofs.YtgdbdebieghnkaaGreat

/-
  Symbolic runs: what a function keeps to; how a run shows it.
-/
namespace Go.Proofs.YtgdbdebieghnkaaGreat
open Go.RowKit
namespace Sy
set_option linter.unusedVariables false
set_option linter.unusedSimpArgs false

/-- called where 'pre' holds apart from R, the function returns; then 'post' holds apart from R -/
def FnR (P : Program) (R : HP) (f : FuncId) (args : List Value) (pre : List HP) (post : Value → List HP → Prop) : Prop :=
  ∀ w, Sat (sepL pre R) w → Calls P f args.toArray w fun e w' => ∃ v hs, e = .returned v ∧ post v hs ∧ Sat (sepL hs R) w' ∧ Wd w w'

def startT : Nat → List SV → List (Nat × SV)
  | _, [] => []
  | n, x :: l => (n, x) :: startT (n + 1) l
theorem startT_get : ∀ {l : List SV} {n t : Nat} {x : SV}, getT (startT n l) t = some x → n ≤ t ∧ l[t - n]? = some x
  | [], n, t, x, h => by cases h
  | y :: l, n, t, x, h => by
    simp only [startT, getT] at h
    split at h
    · rename_i e
      have := beq_of e
      subst this
      injection h with h
      subst h
      simp
    · obtain ⟨h1, h2⟩ := startT_get h
      refine ⟨by omega, ?_⟩
      have : t - n = (t - (n + 1)) + 1 := by omega
      rw [this]
      simpa using h2

/-- blocks that come in, known whole -/
def adL (l : List (Nat × TypeId × List Value)) : List HP := l.map fun x => blkH x.1 x.2.1 x.2.2.toArray
def adO : Nat → List (Nat × TypeId × List Value) → List (Nat × TypeId × List SV)
  | _, [] => []
  | n, x :: l => (n, x.2.1, toSVs x.2.2) :: adO (n + 1) l
theorem adO_mem : ∀ {l : List (Nat × TypeId × List Value)} {n : Nat} {y : Nat × TypeId × List SV}, y ∈ adO n l → n ≤ y.1 ∧ ∃ x, l[y.1 - n]? = some x ∧ y.2 = (x.2.1, toSVs x.2.2)
  | [], n, y, h => by cases h
  | x :: l, n, y, h => by
    rcases List.mem_cons.1 h with rfl | h
    · exact ⟨Nat.le_refl _, x, by simp, rfl⟩
    · obtain ⟨h1, z, h2, h3⟩ := adO_mem h
      refine ⟨by omega, z, ?_, h3⟩
      have : y.1 - n = (y.1 - (n + 1)) + 1 := by omega
      rw [this]
      simpa using h2
theorem adO_nodup : ∀ {l : List (Nat × TypeId × List Value)} {n : Nat}, ((adO n l).map (·.1)).Nodup
  | [], n => by simp [adO]
  | x :: l, n => by
    simp only [adO, List.map_cons, List.nodup_cons]
    refine ⟨fun h => ?_, adO_nodup⟩
    obtain ⟨y, hy, e⟩ := List.mem_map.1 h
    have := (adO_mem hy).1
    omega
theorem ad_open : ∀ {l : List (Nat × TypeId × List Value)} {A : HP} {h : Hl}, sepL (adL l) A h →
    ∃ h', A h' ∧ (∀ i o, h' i = some o → h i = some o) ∧ (∀ x ∈ l, h x.1 = some (.cells x.2.2.toArray x.2.1 (0, 0)) ∧ h' x.1 = none) ∧ (l.map (·.1)).Nodup
  | [], A, h, s => ⟨h, s, fun _ _ e => e, by simp, by simp⟩
  | x :: l, A, h, s => by
    obtain ⟨h1, h2, d, rfl, hb, s'⟩ := s
    obtain ⟨h', a, sub, hx, nd⟩ := ad_open (l := l) s'
    have h1x : h1 x.1 = some (.cells x.2.2.toArray x.2.1 (0, 0)) := by rw [hb]; simp
    have h2x : h2 x.1 = none := by
      rcases d x.1 with e | e
      · rw [h1x] at e; cases e
      · exact e
    have lift : ∀ i o, h2 i = some o → un h1 h2 i = some o := fun i o e => by
      unfold un
      rcases d i with e' | e'
      · rw [e', e]; rfl
      · rw [e'] at e; cases e
    have hn : h' x.1 = none := by
      cases e : h' x.1 with
      | none => rfl
      | some o => have := sub _ _ e; rw [h2x] at this; cases this
    refine ⟨h', a, fun i o e => lift _ _ (sub i o e), fun y hy => ?_, ?_⟩
    · rcases List.mem_cons.1 hy with rfl | hy
      · exact ⟨by unfold un; rw [h1x]; rfl, hn⟩
      · exact ⟨lift _ _ (hx y hy).1, (hx y hy).2⟩
    · simp only [List.map_cons, List.nodup_cons]
      refine ⟨fun hm => ?_, nd⟩
      obtain ⟨y, hy, e⟩ := List.mem_map.1 hm
      have := (hx y hy).1
      rw [e, h2x] at this
      cases this

def mkRes (vs : List Value) : Value := match vs with
  | [v] => v
  | vs => .tuple vs.toArray
inductive Fin (G : Gl) (v : Value) (st : St) (post : Value → List HP → Prop) : Prop
  | mk (hs : List HP) (h : ∀ w, Sat (sepL st.h G.R) w → Sat (sepL hs G.R) w) (k : post v hs)
def resK (P : Program) (st : St) : List ResultVar → (List SV → Prop) → Prop
  | [], K => K []
  | .tmp t :: l, K => match getT st.t t with
    | some x => resK P st l fun r => K (x :: r)
    | none => False
  | .cell t ty :: l, K => match getT st.t t with
    | some (.p n off) => match getO st.o n with
      | some (_, cs) => qLoad P ty cs off False fun x _ => resK P st l fun r => K (x :: r)
      | none => False
    | _ => False
def retK (G : Gl) (fn : Func) (post : Value → List HP → Prop) (st : St) : Prop :=
  resK G.P st fn.results.toList fun xs => expA G False xs [] st fun vs st => stp st fun st => Fin G (mkRes vs) st post

def rv (tmps : Array Value) : ResultVar → Sem Value
  | .tmp t => pure (tmps.getD t undef)
  | .cell b t => do loadVar t (← asAddr (tmps.getD b undef))
theorem resK_sound {P : Program} {st : St} : ∀ {l : List ResultVar} {K : List SV → Prop}, resK P st l K → ∃ xs, K xs ∧ ∀ G ρ a w, Tm G st ρ a → Ob st ρ w → ∃ vs, denL ρ xs = some vs ∧ Sem.run P (l.mapM (rv a.tmps)) w = Result.ok vs w
  | [], K, h => ⟨[], h, fun G ρ a w m ob => ⟨[], rfl, rfl⟩⟩
  | .tmp t :: l, K, h => by
    simp only [resK] at h
    split at h
    · rename_i x hx
      obtain ⟨xs, h, e⟩ := resK_sound (l := l) h
      refine ⟨_, h, fun G ρ a w m ob => ?_⟩
      obtain ⟨vs, e1, e2⟩ := e G ρ a w m ob
      refine ⟨_, denL_cons.2 ⟨_, _, (m.get _ _ hx).2, e1, rfl⟩, ?_⟩
      rw [List.mapM_cons]
      simp [e2, rv]
    · exact h.elim
  | .cell t ty :: l, K, h => by
    simp only [resK] at h
    split at h
    · rename_i n off hx
      split at h
      · rename_i ty' cs hg
        rcases qLoad_sound h with h | ⟨x, h, hl⟩
        · exact h.elim
        obtain ⟨xs, h, e⟩ := resK_sound (l := l) h
        refine ⟨_, h, fun G ρ a w m ob => ?_⟩
        obtain ⟨vs, e1, e2⟩ := e G ρ a w m ob
        obtain ⟨b, us, g1, g2, g3⟩ := ob _ (getO_mem hg)
        simp only at g1 g2 g3
        obtain ⟨v, k1, k2⟩ := hl ρ w b _ us g2 g3
        refine ⟨_, denL_cons.2 ⟨_, _, k1, e1, rfl⟩, ?_⟩
        have hp := (m.get _ _ hx).2
        simp only [SV.den, g1, Option.map_some, Option.some.injEq] at hp
        have k3 : (loadVar ty ⟨b, off, none⟩).run P w = .ok v w := by simpa [Instr.loadAt, Instr.sureAddr] using k2
        have k4 : (rv a.tmps (.cell t ty)).run P w = .ok v w := by
          simp only [rv, ← hp, asAddr, Sem.run_bind, Sem.run_pure, Result.andThen_ok, k3]
        rw [List.mapM_cons]
        simp [e2, k4]
      · exact h.elim
    · exact h.elim

theorem results_run {P : Program} {fn : Func} {tmps : Array Value} {vs : List Value} {w : World} (h : Sem.run P (fn.results.toList.mapM (rv tmps)) w = Result.ok vs w) : (results fn tmps).run P w = .ok (mkRes vs) w := by
  have e : results fn tmps = (do let vs ← fn.results.mapM (rv tmps); pure (if h : vs.size = 1 then vs[0] else .tuple vs)) := by
    unfold results
    congr 1
  rw [e, Array.mapM_eq_mapM_toList]
  simp only [Sem.run_bind, Sem.run_map, h, Result.andThen_ok, Sem.run_pure, bind_map_left]
  unfold mkRes
  match vs with
  | [] => simp
  | [v] => simp
  | a :: b :: l => simp

def gl (P : Program) (R : HP) (w0 : World) (N : Nat) (tr : Bool) (B : List Nat) : Gl := ⟨P, R, w0, N, tr, B, [], fun _ => False⟩
theorem good_ret {G : Gl} {fn : Func} {post : Value → List HP → Prop} : Good (retK G fn post) := by
  intro st h
  obtain ⟨xs, h, _⟩ := resK_sound h
  rcases (expA_sound h).1 with h | ⟨_, st', e, h⟩
  · exact h.elim
  · rw [← e]; exact (stp_iff.1 h).1
theorem Sub.mono {h h' : Hl} {w : World} (s : Sub h w) (e : ∀ i o, h' i = some o → h i = some o) : Sub h' w := fun i o x => s i o (e i o x)

theorem fn_of_run {P : Program} {R : HP} {f : FuncId} {fn : Func} {c : Code} {args : List Value} {rest : List HP} {post : Value → List HP → Prop} (tr : Bool) (l : List (Nat × TypeId × List Value)) (xs : List SV)
    (hf : P.funcs[f]? = some fn) (hb : fn.body = some c) (hm : P.follows .mixedOrders = true) (hN : Nat.ble args.length fn.ntmps = true) (hd : denL (l.map (·.1)) xs = some args)
    (h : ∀ w0, run (gl P R w0 fn.ntmps tr (l.map (·.1))) c ⟨startT 0 xs, adO 0 l, l.length, rest, True⟩ (retK (gl P R w0 fn.ntmps tr (l.map (·.1))) fn post) (fun _ _ => False) (retK (gl P R w0 fn.ntmps tr (l.map (·.1))) fn post)) :
    FnR P R f args (adL l ++ rest) post := by
  intro w hs
  have hN := Nat.le_of_ble_eq_true hN
  obtain ⟨hp, hsub, hsep⟩ := hs
  rw [sepL_append] at hsep
  obtain ⟨h', hr, sub, hx, nd⟩ := ad_open hsep
  have fin : ∀ e, (e = Exit.normal ∨ e = Exit.ret) → ∀ st ρ a w', retK (gl P R w fn.ntmps tr (l.map (·.1))) fn post st → Tm (gl P R w fn.ntmps tr (l.map (·.1))) st ρ a → Mem (gl P R w fn.ntmps tr (l.map (·.1))) st ρ w' →
      bodyPost P fn (fun e w' => ∃ v hs, e = .returned v ∧ post v hs ∧ Sat (sepL hs R) w' ∧ Wd w w') e a w' := by
    intro e he st ρ a w' k m mm
    obtain ⟨xs, k, hx⟩ := resK_sound k
    obtain ⟨vs, e1, e2⟩ := hx _ ρ a w' m mm.ob
    rcases (expA_sound k).2 ρ a w' (by simp) m mm with k | ⟨vs', st', k, e3, m', mm'⟩
    · exact k.elim
    obtain ⟨_, ⟨hs, hent, k⟩⟩ := stp_iff.1 k
    rw [e1] at e3
    injection e3 with e3
    subst e3
    have hsat : Sat (sepL hs R) w' := by
      obtain ⟨g, g1, g2, _⟩ := mm'.hp
      exact hent w' ⟨g, g1, g2⟩
    rcases he with rfl | rfl
    · exact ⟨m.defs, _, results_run e2, _, hs, rfl, k, hsat, mm.wd⟩
    · exact ⟨m.defs, _, results_run e2, _, hs, rfl, k, hsat, mm.wd⟩
  refine calls_of_wp hf hb ?_
  have hrun := run_sound (G := gl P R w fn.ntmps tr (l.map (·.1))) hm c (h w) good_ret (fun _ _ h => h.elim) good_ret
  refine hrun.2 (l.map (·.1)) _ w _ (fun e a w hp => by obtain ⟨_, _, _, hf, _⟩ := hp; exact hf.elim) ⟨?_, rfl, ?_⟩ ⟨Wd.refl w, by simp, nd, ?_, adO_nodup, ?_, ⟨[], by simp [gl]⟩, h', ?_, hr, ?_⟩ (fin .normal (.inl rfl)) (fun _ _ _ _ _ h => h.elim) (fin .ret (.inr rfl))
  · simp [gl]; omega
  · intro t x ht
    obtain ⟨_, h2⟩ := startT_get ht
    simp only [Nat.sub_zero] at h2
    obtain ⟨v, h3, h4⟩ := denL_at hd h2
    have hlt := (List.getElem?_eq_some_iff.1 h3).1
    refine ⟨by simp only [gl]; omega, ?_⟩
    rw [h4]
    have h3' : args[t] = v := (List.getElem?_eq_some_iff.1 h3).2
    simp [Array.getElem?_append, hlt, h3']
  · intro b hb'
    obtain ⟨x, hx1, rfl⟩ := List.mem_map.1 hb'
    have := hsub _ _ (hx x hx1).1
    exact (Array.getElem?_eq_some_iff.1 this).1
  · intro y hy
    obtain ⟨_, x, h2, h3⟩ := adO_mem hy
    simp only [Nat.sub_zero] at h2
    have hxm : x ∈ l := List.mem_of_getElem? h2
    refine ⟨x.1, x.2.2, by simp [h2], ?_, ?_⟩
    · rw [h3]; exact toSVs_den _ _
    · rw [h3]; exact hsub _ _ (hx x hxm).1
  · exact hsub.mono sub
  · intro y hy b hb'
    obtain ⟨_, x, h2, h3⟩ := adO_mem hy
    simp only [Nat.sub_zero] at h2
    have hxm : x ∈ l := List.mem_of_getElem? h2
    have : b = x.1 := by simpa [h2] using hb'.symm
    rw [this]
    exact (hx x hxm).2
/-- the same, where no block is known whole -/
theorem fn_of_run0 {P : Program} {R : HP} {f : FuncId} {fn : Func} {c : Code} {args : List Value} {pre : List HP} {post : Value → List HP → Prop} (tr : Bool)
    (hf : P.funcs[f]? = some fn) (hb : fn.body = some c) (hm : P.follows .mixedOrders = true) (hN : Nat.ble args.length fn.ntmps = true)
    (h : ∀ w0, run (gl P R w0 fn.ntmps tr []) c ⟨startT 0 (toSVs args), [], 0, pre, True⟩ (retK (gl P R w0 fn.ntmps tr []) fn post) (fun _ _ => False) (retK (gl P R w0 fn.ntmps tr []) fn post)) :
    FnR P R f args pre post := fn_of_run tr [] (toSVs args) hf hb hm hN (toSVs_den _ _) h
end Sy
end Go.Proofs.YtgdbdebieghnkaaGreat

/-
  Symbolic runs: the rules at the places where a run stops.
-/
namespace Go.Proofs.YtgdbdebieghnkaaGreat
open Go.RowKit
namespace Sy
set_option linter.unusedVariables false
set_option linter.unusedSimpArgs false

/-- with a fixed part beside it -/
def plus (g0 : Hl) (A : HP) : HP := fun g => ∃ g1, Dj g0 g1 ∧ g = un g0 g1 ∧ A g1
theorem plus_in {g0 : Hl} {A : HP} : ∀ {l : List HP} {h : Hl}, Dj g0 h → sepL l A h → sepL l (plus g0 A) (un g0 h)
  | [], h, d, s => ⟨h, d, rfl, s⟩
  | B :: l, h, d, s => by
    obtain ⟨h1, h2, d', rfl, b, s⟩ := s
    obtain ⟨d1, d2⟩ := d.symm.un_left
    have := plus_in (g0 := g0) d2.symm s
    refine ⟨h1, un g0 h2, (Dj.un_of d1.symm d'.symm).symm, ?_, b, this⟩
    rw [← un_assoc, ← un_assoc, un_comm d1]
theorem plus_out {g0 : Hl} {A : HP} : ∀ {l : List HP} {g : Hl}, sepL l (plus g0 A) g → plus g0 (sepL l A) g
  | [], g, s => s
  | B :: l, g, s => by
    obtain ⟨h1, h2, d', rfl, b, s⟩ := s
    obtain ⟨g1, d, rfl, s2⟩ := plus_out (l := l) s
    obtain ⟨d1, d2⟩ := d'.symm.un_left
    refine ⟨un h1 g1, (Dj.un_of d1.symm d.symm).symm, ?_, h1, g1, d2.symm, rfl, b, s2⟩
    rw [← un_assoc, ← un_assoc, un_comm d1.symm]

/-- the part of the heap in which the objects are -/
noncomputable def obj (st : St) (ρ : List Nat) (w : World) : Hl := by
  classical
  exact fun i => if ∃ x ∈ st.o, ρ[x.1]? = some i then w.heap[i]? else none

theorem mem_split {G : Gl} {st : St} {ρ : List Nat} {w : World} (m : Mem G st ρ w) : ∃ h, Sub h w ∧ sepL st.h G.R h ∧ Dj (obj st ρ w) h ∧ Sub (obj st ρ w) w := by
  obtain ⟨h, h1, h2, h3⟩ := m.hp
  refine ⟨h, h1, h2, fun i => ?_, fun i o e => ?_⟩
  · by_cases c : ∃ x ∈ st.o, ρ[x.1]? = some i
    · obtain ⟨x, hx, e⟩ := c
      exact .inr (h3 x hx i e)
    · exact .inl (by simp only [obj]; rw [if_neg c])
  · simp only [obj] at e
    split at e
    · exact e
    · cases e
theorem mem_join {G : Gl} {st : St} {ρ : List Nat} {w w' : World} (m : Mem G st ρ w) (hw : Wd w w') {hs : List HP} {g : Hl} (hg : Sub g w') (s : plus (obj st ρ w) (sepL hs G.R) g) : Mem G { st with h := hs } ρ w' := by
  obtain ⟨g1, d, rfl, s⟩ := s
  have hO : ∀ x ∈ st.o, ∀ b, ρ[x.1]? = some b → obj st ρ w b = w.heap[b]? := fun x hx b e => by
    simp only [obj]
    rw [if_pos ⟨x, hx, e⟩]
  refine ⟨m.wd.trans hw, m.len, m.nd, fun b hb => Nat.lt_of_lt_of_le (m.lt b hb) hw.size, m.no, fun x hx => ?_, m.kn, g1, hg.right d, s, fun x hx b e => ?_⟩
  · obtain ⟨b, cs, e1, e2, e3⟩ := m.ob x hx
    exact ⟨b, cs, e1, e2, hg.left b _ ((hO x hx b e1).trans e3)⟩
  · obtain ⟨b', cs, e1, e2, e3⟩ := m.ob x hx
    rw [e] at e1
    injection e1 with e1
    subst e1
    rcases d b with c | c
    · rw [hO x hx b e] at c
      have e3' : w.heap[b]? = _ := e3
      rw [c] at e3'
      cases e3'
    · exact c

section
variable {G : Gl} {f : FuncId} {args : List Value} {st : St}
theorem CallAt.fn {K : SV → St → Prop} {pre : List HP} {post : Value → List HP → Prop} (rest : List HP) (hp : ∀ h, sepL st.h G.R h → sepL (pre ++ rest) G.R h)
    (hf : ∀ R', (∀ w, Sat R' w → Sat (sepL rest G.R) w) → FnR G.P R' f args pre post) (k : ∀ v hs, post v hs → K (.v v) { st with h := hs ++ rest }) : CallAt G f args st K := by
  refine .mk fun ρ w m => ?_
  obtain ⟨h, h1, h2, h3, h4⟩ := mem_split m
  have h2 := hp h h2
  rw [sepL_append] at h2
  refine (hf (plus (obj st ρ w) (sepL rest G.R)) ?_ w ⟨_, h4.un h1, plus_in h3 h2⟩).mono ?_
  · rintro w' ⟨g, g1, ⟨g2, d, rfl, s⟩⟩
    exact ⟨g2, g1.right d, s⟩
  · rintro e w' ⟨v, hs, rfl, hv, ⟨g, g1, s⟩, hw⟩
    refine ⟨v, hs ++ rest, rfl, mem_join m hw g1 ?_, k v hs hv⟩
    have := plus_out s
    rwa [sepL_append]
/-- a function that hands back v, and leaves all as it was -/
def PureR (P : Program) (R : HP) (f : FuncId) (args : List Value) (v : Value) : Prop := FnR P R f args [] fun r hs => r = v ∧ hs = []
theorem PureR.of_below {P : Program} {R : HP} {v : Value} (h : ∀ w, Sat R w → Calls P f args.toArray w fun e w' => e = .returned v ∧ Below w.heap.size w w') : PureR P R f args v := by
  rintro w ⟨g, g1, g2⟩
  refine (h w ⟨g, g1, g2⟩).mono ?_
  rintro e w' ⟨rfl, hb⟩
  exact ⟨v, [], rfl, ⟨rfl, rfl⟩, ⟨g, g1.below hb, g2⟩, .of_below hb⟩
theorem PureR.below {P : Program} {v : Value} {w : World} (h : PureR P (fun g => g = fun i => w.heap[i]?) f args v) : Calls P f args.toArray w fun e w' => e = .returned v ∧ Below w.heap.size w w' := by
  refine (h w ⟨_, fun i o e => e, rfl⟩).mono ?_
  rintro e w' ⟨r, hs, rfl, ⟨rfl, rfl⟩, ⟨g, g1, g2⟩, hw⟩
  have g2 : g = fun i => w.heap[i]? := g2
  subst g2
  refine ⟨rfl, hw.os, hw.tape, hw.output, hw.size, fun i hi => ?_⟩
  have : w.heap[i]? = some w.heap[i] := Array.getElem?_eq_getElem hi
  rw [this]
  exact g1 i _ this
theorem CallAt.pure {K : SV → St → Prop} {v : Value} (hf : ∀ R', (∀ w, Sat R' w → Sat (sepL st.h G.R) w) → PureR G.P R' f args v) (k : K (.v v) st) : CallAt G f args st K := by
  refine CallAt.fn (pre := []) st.h (fun h s => s) hf ?_
  rintro r hs ⟨rfl, rfl⟩
  exact k
theorem CallQ.pure {K : SV → Prop} {v : Value} (hf : ∀ R', (∀ w, Sat R' w → Sat (sepL st.h G.R) w) → PureR G.P R' f args v) (k : K (.v v)) : CallQ G f args st K := by
  refine .mk v (fun ρ w m => ?_) k
  obtain ⟨h, h1, h2, h3, h4⟩ := mem_split m
  refine (hf (plus (obj st ρ w) (sepL st.h G.R)) ?_ w ⟨_, h4.un h1, ⟨h, h3, rfl, h2⟩⟩).mono ?_
  · rintro w' ⟨g, g1, ⟨g2, d, rfl, s⟩⟩
    exact ⟨g2, g1.right d, s⟩
  · rintro e w' ⟨r, hs, rfl, ⟨rfl, rfl⟩, ⟨g, g1, s⟩, hw⟩
    exact ⟨rfl, mem_join m hw g1 s⟩
theorem Mem.sat {ρ : List Nat} {w : World} (m : Mem G st ρ w) : Sat (sepL st.h G.R) w := by
  obtain ⟨h, h1, h2, _⟩ := m.hp
  exact ⟨h, h1, h2⟩
theorem LoadAt.cell {K : SV → Prop} {t : TypeId} {ad : Addr} {d : TypeDesc} (x : Value) (hu : G.P.underlying t = some d) (hd : d.isRow = false) (h : ∀ w, Sat (sepL st.h G.R) w → w.cell? ad = some x) (k : K (.v x)) : LoadAt G t ad st K := by
  refine .mk x (fun ρ w m => ?_) k
  have hc := h w m.sat
  have hagg : (isAgg t).run G.P w = .ok false w := by
    unfold isAgg
    rw [Sem.run_bind, run_underlying hu w]
    cases d <;> simp_all
  simp [Instr.loadAt, Instr.sureAddr, loadVar, hagg, load, Sem.run, hc]
theorem fin_pure {v r : Value} (hh : st.h = []) (e : r = v) : Fin G r st fun r hs => r = v ∧ hs = [] := ⟨st.h, fun w h => h, e, hh⟩
theorem iff_t {b : Bool} {A B : Prop} (h : b = true) (a : A) : iff b A B := ⟨fun _ => a, fun h' => by rw [h] at h'; cases h'⟩
theorem iff_f {b : Bool} {A B : Prop} (h : b = false) (a : B) : iff b A B := ⟨(fun h' => by rw [h] at h'; cases h'), fun _ => a⟩
end

/-! loops -/
def keepT (src : List (Nat × SV)) : List Nat → List (Nat × SV)
  | [] => []
  | t :: r => match getT src t with
    | some x => (t, x) :: keepT src r
    | none => keepT src r
def nmOk (n : Nat) (x : SV) : Bool := match x with
  | .p m _ => Nat.blt m n
  | _ => true
def allNm (n : Nat) : List SV → Bool
  | [] => true
  | x :: l => match nmOk n x with
    | true => allNm n l
    | false => false
def leT (n : Nat) (src : List (Nat × SV)) : List (Nat × SV) → Prop
  | [] => True
  | (t, x) :: r => (getT src t = some x ∧ nmOk n x = true) ∧ leT n src r
def notIn (n : Nat) : List (Nat × TypeId × List SV) → Bool
  | [] => true
  | (k, _) :: l => match Nat.beq k n with
    | true => false
    | false => notIn n l
def leO (n : Nat) (src : List (Nat × TypeId × List SV)) : List (Nat × TypeId × List SV) → Prop
  | [] => True
  | (k, x) :: r => (getO src k = some x ∧ Nat.blt k n = true ∧ allNm n x.2 = true ∧ notIn k r = true) ∧ leO n src r
theorem leT_get {n : Nat} {src : List (Nat × SV)} : ∀ {l : List (Nat × SV)} {t : Nat} {x : SV}, leT n src l → getT l t = some x → getT src t = some x ∧ nmOk n x = true
  | [], t, x, _, h => by cases h
  | (k, y) :: l, t, x, hl, h => by
    simp only [getT] at h
    split at h
    · rename_i e
      have := beq_of e
      subst this
      injection h with h
      subst h
      exact hl.1
    · exact leT_get hl.2 h
theorem leT_append {n : Nat} {src : List (Nat × SV)} : ∀ {l m : List (Nat × SV)}, leT n src l → leT n src m → leT n src (l ++ m)
  | [], m, _, h => h
  | (k, y) :: l, m, hl, h => ⟨hl.1, leT_append hl.2 h⟩
theorem leO_mem {n : Nat} {src : List (Nat × TypeId × List SV)} : ∀ {l : List (Nat × TypeId × List SV)} {x : Nat × TypeId × List SV}, leO n src l → x ∈ l → x ∈ src ∧ x.1 < n ∧ allNm n x.2.2 = true
  | [], x, _, h => by cases h
  | (k, y) :: l, x, hl, h => by
    rcases List.mem_cons.1 h with rfl | h
    · exact ⟨getO_mem hl.1.1, Nat.le_of_ble_eq_true hl.1.2.1, hl.1.2.2.1⟩
    · exact leO_mem hl.2 h
theorem notIn_spec {k : Nat} : ∀ {l : List (Nat × TypeId × List SV)}, notIn k l = true → k ∉ l.map (·.1)
  | [], _ => by simp
  | (j, y) :: l, h => by
    unfold notIn at h
    split at h
    · cases h
    · rename_i e
      simp only [List.map_cons, List.mem_cons, not_or]
      exact ⟨(fun c => by subst c; rw [Nat.beq_refl] at e; cases e), notIn_spec h⟩
theorem leO_nodup {n : Nat} {src : List (Nat × TypeId × List SV)} : ∀ {l : List (Nat × TypeId × List SV)}, leO n src l → (l.map (·.1)).Nodup
  | [], _ => by simp
  | (j, y) :: l, h => by
    simp only [List.map_cons, List.nodup_cons]
    exact ⟨notIn_spec h.1.2.2.2, leO_nodup h.2⟩
theorem den_cut {ρ : List Nat} {n : Nat} {x : SV} {v : Value} (h : x.den ρ = some v) (hn : nmOk n x = true) : x.den (ρ.take n) = some v := by
  cases x with
  | v y => exact h
  | k b => exact h
  | p m o =>
    have hm : m < n := Nat.le_of_ble_eq_true hn
    simp only [SV.den] at h ⊢
    rw [List.getElem?_take_of_lt hm]
    exact h
theorem denL_cut {ρ : List Nat} {n : Nat} : ∀ {l : List SV} {vs : List Value}, denL ρ l = some vs → allNm n l = true → denL (ρ.take n) l = some vs
  | [], vs, h, _ => h
  | x :: l, vs, h, hn => by
    obtain ⟨v, us, h1, h2, rfl⟩ := denL_cons.1 h
    unfold allNm at hn
    split at hn
    · rename_i e
      exact denL_cons.2 ⟨v, us, den_cut h1 e, denL_cut h2 hn, rfl⟩
    · cases hn
theorem Le.of {G : Gl} {st st' : St} (hn : st'.n ≤ st.n) (hB : G.B.length ≤ st'.n) (ht : leT st'.n st.t st'.t) (ho : leO st'.n st.o st'.o) (hh : ∀ h, sepL st.h G.R h → ∃ h', (∀ i o, h' i = some o → h i = some o) ∧ sepL st'.h G.R h') : Le G st st' := by
  intro ρ a w m mm
  obtain ⟨m1, m2, m3, m4, m5, m6, mk, h, m7, m8, m9⟩ := mm
  obtain ⟨h', hs, hp⟩ := hh h m8
  have at_ : ∀ k b, (ρ.take st'.n)[k]? = some b → ρ[k]? = some b := fun k b e => by
    rw [List.getElem?_take] at e
    split at e
    · exact e
    · cases e
  refine ⟨ρ.take st'.n, ⟨m.size, m.defs, fun t x e => ?_⟩, ⟨m1, by simp; omega, ?_, fun b hb => m4 b (List.mem_of_mem_take hb), leO_nodup ho, fun x hx => ?_, ?_, h', m7.mono hs, hp, fun x hx b e => ?_⟩⟩
  · obtain ⟨e1, e2⟩ := leT_get ht e
    exact ⟨(m.get _ _ e1).1, den_cut (m.get _ _ e1).2 e2⟩
  · exact (List.take_sublist _ _).nodup m3
  · obtain ⟨x1, x2, x3⟩ := leO_mem ho hx
    obtain ⟨b, cs, e1, e2, e3⟩ := m6 x x1
    exact ⟨b, cs, by rw [List.getElem?_take_of_lt x2]; exact e1, denL_cut e2 x3, e3⟩
  · obtain ⟨q, rfl⟩ := mk
    exact ⟨q.take (st'.n - G.B.length), by rw [List.take_append, List.take_of_length_le hB]⟩
  · obtain ⟨x1, x2, x3⟩ := leO_mem ho hx
    have := m9 x x1 b (at_ _ _ e)
    cases e' : h' b with
    | none => rfl
    | some o => rw [hs b o e'] at this; cases this

/-- the state at the head of a round -/
def hd (S : List (Nat × SV)) (Kp : List Nat) (O : List (Nat × TypeId × List SV)) (H : List HP) (st : St) : St := ⟨S ++ keepT st.t Kp, O, st.n, H, True⟩
/-- a round has ended well -/
inductive Next (G : Gl) {α : Type} (pre : α → Prop) (μ : α → Nat) (hdr : α → St) (m : Nat) (st' : St) : Prop
  | mk (a : α) (h : pre a) (hlt : μ a < m) (hle : Le G st' (hdr a))
theorem LoopAt.of {G : Gl} {body : St → (St → Prop) → Prop} {st : St} {α : Type} (Kp : List Nat) (S : α → List (Nat × SV)) (O : α → List (Nat × TypeId × List SV)) (H : α → List HP) (pre : α → Prop) (μ : α → Nat) (a0 : α) (h0 : pre a0)
    (hle : Le G st (hd (S a0) Kp (O a0) (H a0) st))
    (round : ∀ a, pre a → forceL (S a ++ keepT st.t Kp) fun t => body ⟨t, O a, st.n, H a, True⟩ fun st' => stp st' fun st' => Next G pre μ (fun a => hd (S a) Kp (O a) (H a) st) (μ a) st') : LoopAt G body st := by
  refine .mk (fun m s => ∃ a, pre a ∧ μ a = m ∧ s = hd (S a) Kp (O a) (H a) st) (fun m st' => stp st' fun st' => Next G pre μ (fun a => hd (S a) Kp (O a) (H a) st) m st') ?_ (fun ρ a w m mm => by obtain ⟨ρ', m', mm'⟩ := hle ρ a w m mm; exact ⟨_, _, ρ', ⟨a0, h0, rfl, rfl⟩, m', mm'⟩) ?_
  · intro m s hs
    obtain ⟨hc, ⟨a', h1, h2, h3⟩⟩ := stp_iff.1 hs
    exact ⟨hc, _, _, h2, fun ρ a w m mm => h3 ρ a w (m.same rfl) (mm.same rfl rfl rfl), a', h1, rfl, rfl⟩
  · rintro m s ⟨a, ha, rfl, rfl⟩
    exact forceL_eq (round a ha)

/-- what a loop begins with, where objects of the call's own come to be plain blocks first -/
def Begin (G : Gl) (st : St) (Q : St → Prop) : Prop := ∀ ρ a w, Tm G st ρ a → Mem G st ρ w → ∃ st' ρ', Q st' ∧ Tm G st' ρ' a ∧ Mem G st' ρ' w
theorem Begin.le {G : Gl} {st st' : St} {Q : St → Prop} (h : Le G st st') (q : Q st') : Begin G st Q := fun ρ a w m mm => by
  obtain ⟨ρ', m', mm'⟩ := h ρ a w m mm
  exact ⟨st', ρ', q, m', mm'⟩
theorem Begin.expose {G : Gl} {st : St} {Q : St → Prop} (n : Nat) (h : Sy.expose G st n False fun _ st' => Begin G st' Q) : Begin G st Q := fun ρ a w m mm => by
  rcases expose_sound h with h | ⟨t, vs, h, he⟩
  · exact h.elim
  · obtain ⟨b, e1, eb, m', mm'⟩ := he ρ a w m mm
    exact h b eb ρ a w m' mm'
theorem LoopAt.begins {G : Gl} {body : St → (St → Prop) → Prop} {st : St} {α : Type} (Kp : List Nat) (S : α → List (Nat × SV)) (O : α → List (Nat × TypeId × List SV)) (H : α → List HP) (pre : α → Prop) (μ : α → Nat)
    (h0 : Begin G st fun st' => ∃ a, pre a ∧ st' = hd (S a) Kp (O a) (H a) st)
    (round : ∀ a, pre a → forceL (S a ++ keepT st.t Kp) fun t => body ⟨t, O a, st.n, H a, True⟩ fun st' => stp st' fun st' => Next G pre μ (fun a => hd (S a) Kp (O a) (H a) st) (μ a) st') : LoopAt G body st := by
  refine .mk (fun m s => ∃ a, pre a ∧ μ a = m ∧ s = hd (S a) Kp (O a) (H a) st) (fun m st' => stp st' fun st' => Next G pre μ (fun a => hd (S a) Kp (O a) (H a) st) m st') ?_ (fun ρ a w m mm => by
    obtain ⟨st', ρ', ⟨a0, h1, rfl⟩, m', mm'⟩ := h0 ρ a w m mm
    exact ⟨_, _, ρ', ⟨a0, h1, rfl, rfl⟩, m', mm'⟩) ?_
  · intro m s hs
    obtain ⟨hc, ⟨a', h1, h2, h3⟩⟩ := stp_iff.1 hs
    exact ⟨hc, _, _, h2, fun ρ a w m mm => h3 ρ a w (m.same rfl) (mm.same rfl rfl rfl), a', h1, rfl, rfl⟩
  · rintro m s ⟨a, ha, rfl, rfl⟩
    exact forceL_eq (round a ha)

/-- a loop that leaves objects and parts of the heap as they are -/
theorem LoopAt.keep {G : Gl} {body : St → (St → Prop) → Prop} {st : St} {α : Type} (Kp : List Nat) (S : α → List (Nat × SV)) (pre : α → Prop) (μ : α → Nat) (a0 : α) (h0 : pre a0)
    (hB : Nat.ble G.B.length st.n = true) (s0 : leT st.n st.t (S a0)) (kk : leT st.n st.t (keepT st.t Kp)) (ho : leO st.n st.o st.o)
    (round : ∀ a, pre a → forceL (S a ++ keepT st.t Kp) fun t => body ⟨t, st.o, st.n, st.h, True⟩ fun st' => stp st' fun st' => Next G pre μ (fun a => hd (S a) Kp st.o st.h st) (μ a) st') : LoopAt G body st :=
  LoopAt.of Kp S (fun _ => st.o) (fun _ => st.h) pre μ a0 h0 (Le.of (Nat.le_refl _) (Nat.le_of_ble_eq_true hB) (leT_append s0 kk) ho fun h s => ⟨h, fun _ _ e => e, s⟩) round
theorem Next.keep {G : Gl} {st st' : St} {α : Type} {Kp : List Nat} {S : α → List (Nat × SV)} {pre : α → Prop} {μ : α → Nat} {m : Nat} (a : α) (h : pre a) (hlt : μ a < m)
    (s0 : leT st.n st'.t (S a)) (kk : leT st.n st'.t (keepT st.t Kp)) (ho : leO st.n st'.o st.o) (hn : Nat.ble st.n st'.n = true) (hB : Nat.ble G.B.length st.n = true) (hh : st'.h = st.h) :
    Next G pre μ (fun a => hd (S a) Kp st.o st.h st) m st' :=
  ⟨a, h, hlt, Le.of (Nat.le_of_ble_eq_true hn) (Nat.le_of_ble_eq_true hB) (leT_append s0 kk) ho fun h s => ⟨h, fun _ _ e => e, by rw [hh] at s; exact s⟩⟩
end Sy
end Go.Proofs.YtgdbdebieghnkaaGreat

/-
  Symbolic runs: regions that draw their order: all of them quiet, or quiet ones first and then a chain that waits for all of them.
-/
namespace Go.Proofs.YtgdbdebieghnkaaGreat
open Go.RowKit
namespace Sy
set_option linter.unusedVariables false
set_option linter.unusedSimpArgs false

section
variable {P : Program} {ops : Array Oper} {C : World → Prop}
/-- whichever of the first n comes up, it is quiet; behind f of them L holds -/
def Firsts (P : Program) (ops : Array Oper) (C : World → Prop) (n : Nat) (L : Array Bool → Act → Prop) : Nat → Array Bool → Act → Prop
  | 0, ls, a => L ls a
  | f + 1, ls, a => (Region.ready .any ops ls ≠ []) ∧ ∀ i, i ∈ Region.ready .any ops ls → i < n ∧ qOp P ops C i (Firsts P ops C n L f (ls.setIfInBounds i true)) a

theorem Firsts.any {n g : Nat} {L : Array Bool → Act → Prop} {Q : Exit → Act → World → Prop} (hL : ∀ ls a w, C w → L ls a → wpAny P .any ops Q g ls a w) :
    ∀ (f : Nat) (ls : Array Bool) (a : Act) (w : World), C w → Firsts P ops C n L f ls a → wpAny P .any ops Q (f + g) ls a w := by
  intro f
  induction f with
  | zero => intro ls a w hw h; rw [Nat.zero_add]; exact hL ls a w hw h
  | succ f ih =>
    intro ls a w hw h
    have e : f + 1 + g = (f + g) + 1 := by omega
    rw [e]
    exact ⟨fun h0 => absurd h0 h.1, fun i hi => wpOp_of_qOp hw (fun a' w' hw' h' => ih _ a' w' hw' h') (h.2 i hi).2⟩

theorem Firsts.take {n i : Nat} {oi : Oper} {v : Value} {L : Array Bool → Act → Prop} (hi : ops[i]? = some oi) (hsel : Region.noSelect ops = true)
    (hs : Region.sinkB .any ops n = true) (hc : Region.chainB .any ops n = true) (hn : n < ops.size) (hin : i < n) (hdone : ∀ ls a, L ls a → ∀ j ∈ Region.ready .any ops ls, n ≤ j) :
    ∀ (f : Nat) (ls : Array Bool) (a : Act), HeadInv .any ops n ls →
      (∀ j oj, ops[j]? = some oj → j ≠ i → ls.getD j true = false → (∀ e ∈ oj.after, Region.binds .any e = true → e.on ≠ i) → oi.apart ops oj = true) →
      i ∈ Region.ready .any ops ls → YieldsIn P ops C oi v a → Firsts P ops C n L f (ls.setIfInBounds i true) (a.put oi.dst v) → Firsts P ops C n L (f + 1) ls a := by
  have sel := Region.noSelect_spec hsel
  intro f
  induction f with
  | zero =>
    intro ls a inv _ hr hy H
    have hun := (mem_ready.1 hr).1
    refine ⟨List.ne_nil_of_mem hr, fun j hj => ?_⟩
    have hjn : j < n := Nat.lt_of_not_le fun c => tail_waits hs hc hn inv _ i rfl hin hun j c hj
    refine ⟨hjn, ?_⟩
    by_cases hji : j = i
    · subst hji; exact hy.qOp hi H
    · have := hdone _ _ H j (ready_mono hj hji)
      omega
  | succ f ih =>
    intro ls a inv hfree hr hy H
    have hun := (mem_ready.1 hr).1
    refine ⟨List.ne_nil_of_mem hr, fun j hj => ?_⟩
    have hjn : j < n := Nat.lt_of_not_le fun c => tail_waits hs hc hn inv _ i rfl hin hun j c hj
    refine ⟨hjn, ?_⟩
    by_cases hji : j = i
    · subst hji; exact hy.qOp hi H
    · have h1 := (H.2 j (ready_mono hj hji)).2
      obtain ⟨hjun, oj, hoj, hall⟩ := mem_ready.1 hj
      have hnot : ∀ e ∈ oj.after, Region.binds .any e = true → e.on ≠ i := by
        intro e he hb heq
        have h3 := hall e he hb
        rw [heq, getD_both hun] at h3
        cases h3
      have h2 := qOp_put hoj (hfree j oj hoj hji hjun hnot) (fun cs b => sel i oi cs b hi) (fun cs b => sel j oj cs b hoj) hy h1
      refine qOp_mono (fun a' h3 => ih (ls.setIfInBounds j true) a' (inv.set hj hjn) ?_ (ready_mono hr (Ne.symm hji)) h3.1 ?_) h2
      · intro k ok hk hki hunk hno
        refine hfree k ok hk hki ?_ hno
        by_cases hjk : j = k
        · subst hjk; exact hjun
        · rw [getD_set_ne true hjk] at hunk; exact hunk
      · rw [Array.setIfInBounds_comm _ _ hji]
        exact h3.2

theorem Firsts.lex {n g : Nat} {Lq : Act → Prop} (hsel : Region.noSelect ops = true) (hs : Region.sinkB .any ops n = true) (hc : Region.chainB .any ops n = true) (hn : n < ops.size) :
    ∀ (l : List Oper) (k : Nat) (ls : Array Bool) (a : Act), (∀ j, j < l.length → l[j]? = ops[k + j]?) → k + l.length = n → HeadInv .any ops n ls →
      Region.lexHead .any ops g l.length k ls = true → wpQuiet P ops C Lq l a → Firsts P ops C n (fun ls' a' => Region.seqB .any ops g n ls' = true ∧ Lq a') l.length ls a := by
  intro l
  induction l with
  | nil =>
    intro k ls a _ hk _ hB h
    have hk' : k = n := by simpa using hk
    subst hk'
    exact ⟨by simpa [Region.lexHead] using hB, h⟩
  | cons o l ih =>
    intro k ls a hl hk inv hB h
    have h0 : ops[k]? = some o := by simpa using (hl 0 (by simp)).symm
    simp only [List.length_cons, Region.lexHead, Bool.and_eq_true] at hB
    obtain ⟨⟨hr, hf⟩, hB'⟩ := hB
    have hkn : k < n := by simp only [List.length_cons] at hk; omega
    have hr' : k ∈ Region.ready .any ops ls := by simpa using hr
    have hq : qOp P ops C k (wpQuiet P ops C Lq l) a := by unfold qOp; simp only [h0]; exact h
    obtain ⟨v, hy, hK⟩ := yieldsIn_of_qOp h0 hq
    refine Firsts.take h0 hsel hs hc hn hkn (fun ls' a' hL => seqB_ready hL.1) l.length ls a inv (Region.free_spec h0 hf) hr' hy ?_
    refine ih (k + 1) _ _ (fun j hj => ?_) (by simp only [List.length_cons] at hk; omega) (inv.set hr' hkn) hB' hK
    have := hl (j + 1) (by simp; omega)
    simpa [Nat.add_assoc, Nat.add_comm 1 j] using this

/-- quiet operations, in whatever order, and behind them a chain that waits for them all -/
theorem wp_quiet_tail {id : Nat} {Q : Exit → Act → World → Prop} {a : Act} {w : World} {l : List Oper} (n : Nat) (hm : P.follows .mixedOrders = true) (hB : Region.lexTailB .any l.toArray n = true) (hC : C { w with drawn := w.drawn + 1 })
    (h : wpQuiet P l.toArray C (fun a' => ∀ w', C w' → wpList P l.toArray Q (l.drop n) a' w') (l.take n) a) : (Code.region id l.toArray true).wp P Q a w := by
  simp only [Region.lexTailB, Bool.and_eq_true, decide_eq_true_eq] at hB
  obtain ⟨⟨⟨⟨hsel, hn⟩, hs⟩, hc⟩, hlex⟩ := hB
  have hn' : n < l.length := by simpa using hn
  have htl : (l.take n).length = n := by simp; omega
  have hdl : (l.drop n).length = l.toArray.size - n := by simp
  have inv0 : HeadInv .any l.toArray n (Array.replicate l.toArray.size false) :=
    ⟨by simp, fun j oj _ hl => (by rw [getD_replicate_false] at hl; cases hl), fun t _ ht => getD_in (by simpa using ht) (getD_replicate_false _ _)⟩
  have H := Firsts.lex (C := C) (g := l.toArray.size - n) hsel hs hc hn (l.take n) 0 _ a (fun j hj => by
    have hj' : j < n := by rw [htl] at hj; exact hj
    simp [hj']) (by simpa using htl) inv0 (by rw [htl]; exact hlex) h
  refine wp_region_any hm ?_
  have key := Firsts.any (Q := Q) (g := l.toArray.size - n) (fun ls a' w' hw' hL => by
    have := wpAny_of_seq (md := .any) (Q' := Q) (l.drop n) n ls a' w' (fun j => by simp [List.getElem?_drop]) (by rw [hdl]; exact hL.1) (hL.2 w' hw')
    rwa [hdl] at this) _ _ _ _ hC H
  rw [htl] at key
  have e : n + (l.toArray.size - n) = l.toArray.size := by omega
  rw [e] at key
  exact key
end

theorem wpQuiet_mono {P : Program} {ops : Array Oper} {C : World → Prop} {Q Q' : Act → Prop} (h : ∀ a, Q a → Q' a) : ∀ {l : List Oper} {a : Act}, wpQuiet P ops C Q l a → wpQuiet P ops C Q' l a
  | [], a, k => h a k
  | o :: l, a, k => by
    unfold wpQuiet at k ⊢
    split
    · rename_i hw
      rw [if_pos hw] at k
      exact Oper.quiet_mono (fun a => wpQuiet_mono h) k
    · rename_i hw
      rw [if_neg hw] at k
      exact wpQuiet_mono h k

theorem good_stp {K : St → Prop} : Good fun st => stp st K := fun st h => (stp_iff.1 h).1
theorem RegAt.quiet {G : Gl} {id : Nat} {l : List Oper} {st : St} {K : St → Prop} (hm : G.P.follows .mixedOrders = true) (hB : Region.lexB .any l.toArray = true) (h : opsG (opQ G) G l l st fun st => stp st K) : RegAt G id l.toArray st K := by
  refine .mk fun ρ a w m mm => ?_
  refine wp_region_quiet (C := Mem G st ρ) hm hB mm.drew ?_
  refine wpQuiet_mono ?_ ((opsQ_sound h good_stp).2 ρ a w m mm)
  rintro a' ⟨st', k, hs, m'⟩ w' mm'
  exact .inl ⟨rfl, { st' with c := True }, ρ, (stp_iff.1 k).2, m'.same rfl, (hs.mem.2 mm').same rfl rfl rfl⟩
theorem RegAt.tail {G : Gl} {id : Nat} {l : List Oper} {st : St} {K : St → Prop} (n : Nat) (hm : G.P.follows .mixedOrders = true) (hB : Region.lexTailB .any l.toArray n = true) (h : opsG (opQ G) G l (l.take n) st fun st => opsG (op1 G) G l (l.drop n) st fun st => stp st K) : RegAt G id l.toArray st K := by
  refine .mk fun ρ a w m mm => ?_
  refine wp_quiet_tail (C := Mem G st ρ) n hm hB mm.drew ?_
  have s1 : Step1 G (op1 G) := fun h hK => op1_sound h hK
  refine wpQuiet_mono ?_ ((opsQ_sound h fun st h => (ops_sound s1 h good_stp).1).2 ρ a w m mm)
  rintro a' ⟨st', k, hs, m'⟩ w' mm'
  refine (ops_sound s1 k good_stp).2 ρ a' w' _ (fun e a w hp => .inr hp) m' (hs.mem.2 mm') ?_
  intro st2 ρ2 a2 w2 k2 m2 mm2
  exact .inl ⟨rfl, { st2 with c := True }, ρ2, (stp_iff.1 k2).2, m2.same rfl, mm2.same rfl rfl rfl⟩

/-! quiet groups with an operation between them that waits for all ahead of it, and for which all behind it wait -/
def chainW (ops : Array Oper) (n : Nat) : Bool := (List.range ops.size).all fun t => decide (t ≤ n) || (List.range t).any fun j => decide (n ≤ j) && Region.waitsFor .any ops t j
def headW (ops : Array Oper) (n : Nat) (ls : Array Bool) : Bool := decide (ls.size = ops.size) && ((List.range ops.size).all fun j => !ls.getD j false || (match ops[j]? with | some oj => oj.after.all fun e => !Region.binds .any e || ls.getD e.on false | none => true)) && ((List.range ops.size).all fun t => decide (t < n) || !ls.getD t true)
theorem headW_spec {ops : Array Oper} {n : Nat} {ls : Array Bool} (h : headW ops n ls = true) : HeadInv .any ops n ls := by
  simp only [headW, Bool.and_eq_true, decide_eq_true_eq] at h
  obtain ⟨⟨h1, h2⟩, h3⟩ := h
  refine ⟨h1, fun j oj hj hl e he hb => ?_, fun t ht hts => ?_⟩
  · have hlt : j < ops.size := (Array.getElem?_eq_some_iff.1 hj).1
    have := List.all_eq_true.1 h2 j (List.mem_range.2 hlt)
    rw [hl] at this
    simp only [Bool.not_true, Bool.false_or, hj] at this
    have := Array.all_eq_true'.1 this e he
    rw [hb] at this
    simpa using this
  · have := List.all_eq_true.1 h3 t (List.mem_range.2 hts)
    simp only [Bool.or_eq_true, decide_eq_true_eq] at this
    rcases this with c | c
    · omega
    · simpa using c
theorem tail_waitsW {ops : Array Oper} {n : Nat} {ls : Array Bool} (hs : Region.sinkB .any ops n = true) (hc : chainW ops n = true) (hn : n < ops.size) (inv : HeadInv .any ops n ls) :
    ∀ (d i : Nat), n - i = d → i < n → ls.getD i true = false → ∀ t, n ≤ t → t ∉ Region.ready .any ops ls := by
  intro d
  induction d using Nat.strongRecOn with
  | _ d ih =>
    intro i hd hi hun t ht hr
    obtain ⟨_, ot, hot, hall⟩ := mem_ready.1 hr
    have htlt : t < ops.size := (Array.getElem?_eq_some_iff.1 hot).1
    by_cases htn : t = n
    · subst htn
      have h1 := List.all_eq_true.1 hs i (List.mem_range.2 hi)
      obtain ⟨j, hj, hj2⟩ := List.any_eq_true.1 h1
      simp only [Bool.and_eq_true, decide_eq_true_eq] at hj2
      obtain ⟨oj, hoj, e, he, hb, hon⟩ := Region.waitsFor_spec hj2.2
      have hjle : j ≤ t := by have := List.mem_range.1 hj; omega
      by_cases hjt : j = t
      · subst hjt
        have : oj = ot := Option.some.inj (hoj.symm.trans hot)
        subst this
        have h2 := hall e he hb
        rw [hon, getD_both hun] at h2
        cases h2
      · cases hl : ls.getD j false with
        | true =>
          have h2 := inv.closed j oj hoj hl e he hb
          rw [hon, getD_both hun] at h2
          cases h2
        | false =>
          have hjs : j < ls.size := by rw [inv.size]; omega
          exact ih (t - j) (by omega) j rfl (by omega) (getD_in hjs hl) t (Nat.le_refl _) hr
    · have h1 := List.all_eq_true.1 hc t (List.mem_range.2 htlt)
      simp only [Bool.or_eq_true, decide_eq_true_eq] at h1
      rcases h1 with h1 | h1
      · omega
      · obtain ⟨j, hj, hj2⟩ := List.any_eq_true.1 h1
        simp only [Bool.and_eq_true, decide_eq_true_eq] at hj2
        have hjt := List.mem_range.1 hj
        obtain ⟨o', ho', e, he, hb, hon⟩ := Region.waitsFor_spec hj2.2
        have : o' = ot := Option.some.inj (ho'.symm.trans hot)
        subst this
        have h2 := hall e he hb
        rw [hon, getD_both (inv.tail j hj2.1 (by omega))] at h2
        cases h2

section
variable {P : Program} {ops : Array Oper} {C : World → Prop}
theorem Firsts.takeW {n i : Nat} {oi : Oper} {v : Value} {L : Array Bool → Act → Prop} (hi : ops[i]? = some oi) (hsel : Region.noSelect ops = true)
    (hs : Region.sinkB .any ops n = true) (hc : chainW ops n = true) (hn : n < ops.size) (hin : i < n) (hdone : ∀ ls a, L ls a → ∀ j ∈ Region.ready .any ops ls, n ≤ j) :
    ∀ (f : Nat) (ls : Array Bool) (a : Act), HeadInv .any ops n ls →
      (∀ j oj, ops[j]? = some oj → j ≠ i → ls.getD j true = false → (∀ e ∈ oj.after, Region.binds .any e = true → e.on ≠ i) → oi.apart ops oj = true) →
      i ∈ Region.ready .any ops ls → YieldsIn P ops C oi v a → Firsts P ops C n L f (ls.setIfInBounds i true) (a.put oi.dst v) → Firsts P ops C n L (f + 1) ls a := by
  have sel := Region.noSelect_spec hsel
  intro f
  induction f with
  | zero =>
    intro ls a inv _ hr hy H
    have hun := (mem_ready.1 hr).1
    refine ⟨List.ne_nil_of_mem hr, fun j hj => ?_⟩
    have hjn : j < n := Nat.lt_of_not_le fun c => tail_waitsW hs hc hn inv _ i rfl hin hun j c hj
    refine ⟨hjn, ?_⟩
    by_cases hji : j = i
    · subst hji; exact hy.qOp hi H
    · have := hdone _ _ H j (ready_mono hj hji)
      omega
  | succ f ih =>
    intro ls a inv hfree hr hy H
    have hun := (mem_ready.1 hr).1
    refine ⟨List.ne_nil_of_mem hr, fun j hj => ?_⟩
    have hjn : j < n := Nat.lt_of_not_le fun c => tail_waitsW hs hc hn inv _ i rfl hin hun j c hj
    refine ⟨hjn, ?_⟩
    by_cases hji : j = i
    · subst hji; exact hy.qOp hi H
    · have h1 := (H.2 j (ready_mono hj hji)).2
      obtain ⟨hjun, oj, hoj, hall⟩ := mem_ready.1 hj
      have hnot : ∀ e ∈ oj.after, Region.binds .any e = true → e.on ≠ i := by
        intro e he hb heq
        have h3 := hall e he hb
        rw [heq, getD_both hun] at h3
        cases h3
      have h2 := qOp_put hoj (hfree j oj hoj hji hjun hnot) (fun cs b => sel i oi cs b hi) (fun cs b => sel j oj cs b hoj) hy h1
      refine qOp_mono (fun a' h3 => ih (ls.setIfInBounds j true) a' (inv.set hj hjn) ?_ (ready_mono hr (Ne.symm hji)) h3.1 ?_) h2
      · intro k ok hk hki hunk hno
        refine hfree k ok hk hki ?_ hno
        by_cases hjk : j = k
        · subst hjk; exact hjun
        · rw [getD_set_ne true hjk] at hunk; exact hunk
      · rw [Array.setIfInBounds_comm _ _ hji]
        exact h3.2

def lexW (ops : Array Oper) (F : Array Bool → Bool) : Nat → Nat → Array Bool → Bool
  | 0, _, ls => F ls
  | f + 1, k, ls => (Region.ready .any ops ls).contains k && Region.free .any ops ls k && lexW ops F f (k + 1) (ls.setIfInBounds k true)
theorem Firsts.lexW {n : Nat} {Lq : Act → Prop} {F : Array Bool → Bool} (hsel : Region.noSelect ops = true) (hs : Region.sinkB .any ops n = true) (hc : chainW ops n = true) (hn : n < ops.size) (hF : ∀ ls, F ls = true → Region.ready .any ops ls = [n]) :
    ∀ (l : List Oper) (k : Nat) (ls : Array Bool) (a : Act), (∀ j, j < l.length → l[j]? = ops[k + j]?) → k + l.length = n → HeadInv .any ops n ls →
      Sy.lexW ops F l.length k ls = true → wpQuiet P ops C Lq l a → Firsts P ops C n (fun ls' a' => F ls' = true ∧ Lq a') l.length ls a := by
  intro l
  induction l with
  | nil =>
    intro k ls a _ hk _ hB h
    exact ⟨by simpa [Sy.lexW] using hB, h⟩
  | cons o l ih =>
    intro k ls a hl hk inv hB h
    have h0 : ops[k]? = some o := by simpa using (hl 0 (by simp)).symm
    simp only [List.length_cons, Sy.lexW, Bool.and_eq_true] at hB
    obtain ⟨⟨hr, hf⟩, hB'⟩ := hB
    have hkn : k < n := by simp only [List.length_cons] at hk; omega
    have hr' : k ∈ Region.ready .any ops ls := by simpa using hr
    have hq : qOp P ops C k (wpQuiet P ops C Lq l) a := by unfold qOp; simp only [h0]; exact h
    obtain ⟨v, hy, hK⟩ := yieldsIn_of_qOp h0 hq
    refine Firsts.takeW h0 hsel hs hc hn hkn (fun ls' a' hL => ?_) l.length ls a inv (Region.free_spec h0 hf) hr' hy ?_
    · rw [hF _ hL.1]; intro j hj; simp at hj; omega
    refine ih (k + 1) _ _ (fun j hj => ?_) (by simp only [List.length_cons] at hk; omega) (inv.set hr' hkn) hB' hK
    have := hl (j + 1) (by simp; omega)
    simpa [Nat.add_assoc, Nat.add_comm 1 j] using this
end

def segB (ops : Array Oper) : List Nat → Nat → Array Bool → Bool
  | [], k, ls => Region.lexFrom .any ops (ops.size - k) k ls
  | b :: bs, k, ls => decide (k ≤ b) && decide (b < ops.size) && Region.sinkB .any ops b && chainW ops b && headW ops b ls &&
      lexW ops (fun ls' => decide (Region.ready .any ops ls' = [b]) && segB ops bs (b + 1) (ls'.setIfInBounds b true)) (b - k) k ls
def segsB (l : List Oper) (bs : List Nat) : Bool := Region.noSelect l.toArray && segB l.toArray bs 0 (Array.replicate l.toArray.size false)
def segG (G : Gl) (all : List Oper) : List Nat → Nat → St → (St → Prop) → Prop
  | [], k, st, K => opsG (opQ G) G all (all.drop k) st fun st => stp st K
  | b :: bs, k, st, K => opsG (opQ G) G all ((all.drop k).take (b - k)) st fun st => match all[b]? with
    | some o => match o.guard with
      | none => op1 G o st fun st => segG G all bs (b + 1) st K
      | some _ => False
    | none => False
theorem segG_good {G : Gl} {all : List Oper} : ∀ {bs : List Nat} {k : Nat} {K : St → Prop}, Good fun st => segG G all bs k st K
  | [], k, K => fun st h => (opsQ_sound h good_stp).1
  | b :: bs, k, K => fun st h => by
    unfold segG at h
    refine (opsQ_sound h fun st h => ?_).1
    split at h
    · split at h
      · exact (op1_sound h segG_good).1
      · exact h.elim
    · exact h.elim
theorem segG_sound {G : Gl} {all : List Oper} {Q : Exit → Act → World → Prop} {K : St → Prop} (hx : ∀ e a w, PXE G e a w → Q e a w) (hsel : Region.noSelect all.toArray = true) (hQ : ∀ st ρ a w, K st → Tm G st ρ a → Mem G st ρ w → Q .normal a w) :
    ∀ (bs : List Nat) (k : Nat) (ls : Array Bool) (st : St) (ρ : List Nat) (a : Act) (w : World), k ≤ all.length → segB all.toArray bs k ls = true → segG G all bs k st K → Tm G st ρ a → Mem G st ρ w → wpAny G.P .any all.toArray Q (all.toArray.size - k) ls a w
  | [], k, ls, st, ρ, a, w, hk, hB, h, m, mm => by
    have hlen : (all.drop k).length = all.toArray.size - k := by simp
    have hq := (opsQ_sound h good_stp).2 ρ a w m mm
    have := wpAnyQ_lex (C := Mem G st ρ) (md := .any) (Q := fun a' => ∃ st', stp st' K ∧ SameM st st' ∧ Tm G st' ρ a') hsel (all.drop k) k ls a (fun j => by simp [List.getElem?_drop]) (by rw [hlen]; exact hB) hq
    rw [hlen] at this
    refine wpAny_of_quiet ?_ _ _ _ _ mm this
    rintro a' w' mm' ⟨st', hs, hsame, m'⟩
    exact hQ { st' with c := True } ρ a' w' (stp_iff.1 hs).2 (m'.same rfl) ((hsame.mem.2 mm').same rfl rfl rfl)
  | b :: bs, k, ls, st, ρ, a, w, hk, hB, h, m, mm => by
    unfold segG at h
    simp only [segB, Bool.and_eq_true, decide_eq_true_eq] at hB
    obtain ⟨⟨⟨⟨⟨hkb, hbs⟩, hsink⟩, hchain⟩, hhead⟩, hlex⟩ := hB
    have hbs' : b < all.length := by simpa using hbs
    have good : Good fun st => match all[b]? with
      | some o => match o.guard with
        | none => op1 G o st fun st => segG G all bs (b + 1) st K
        | some _ => False
      | none => False := fun st h => by
        split at h
        · split at h
          · exact (op1_sound h segG_good).1
          · exact h.elim
        · exact h.elim
    have hq := (opsQ_sound h good).2 ρ a w m mm
    have htl : ((all.drop k).take (b - k)).length = b - k := by simp; omega
    have key := Firsts.lexW (C := Mem G st ρ) (F := fun ls' => decide (Region.ready .any all.toArray ls' = [b]) && segB all.toArray bs (b + 1) (ls'.setIfInBounds b true)) hsel hsink hchain hbs (fun ls' h => by simp only [Bool.and_eq_true, decide_eq_true_eq] at h; exact h.1)
      ((all.drop k).take (b - k)) k ls a (fun j hj => by
        rw [htl] at hj
        simp [hj, List.getElem?_drop]) (by rw [htl]; omega) (headW_spec hhead) (by rw [htl]; exact hlex) hq
    have key := Firsts.any (Q := Q) (g := all.toArray.size - b) (fun ls' a' w' mm' hL => by
      obtain ⟨hF, st', hs, hsame, m'⟩ := hL
      simp only [Bool.and_eq_true, decide_eq_true_eq] at hF
      have e : all.toArray.size - b = (all.toArray.size - (b + 1)) + 1 := by omega
      rw [e]
      refine ⟨(fun h1 => by rw [hF.1] at h1; cases h1), fun i hi => ?_⟩
      rw [hF.1] at hi
      have hib : i = b := by simpa using hi
      subst hib
      split at hs
      · rename_i o ho
        split at hs
        · rename_i hg
          have ho' : all.toArray[i]? = some o := by simpa using ho
          unfold wpOp
          simp only [ho']
          rw [if_pos (wanted_none hg _)]
          left
          refine Oper.wp_mono (fun a2 w2 ⟨st2, ρ2, k2, m2, mm2⟩ => ?_) ((op1_sound hs segG_good).2 ρ a' w' Q hx m' (hsame.mem.2 mm'))
          exact segG_sound hx hsel hQ bs (i + 1) _ st2 ρ2 a2 w2 (by omega) hF.2 k2 m2 mm2
        · exact hs.elim
      · exact hs.elim) _ _ _ _ mm key
    rw [htl] at key
    have e : b - k + (all.toArray.size - b) = all.toArray.size - k := by omega
    rwa [e] at key
/-- a region that draws its order: quiet groups, with the operations 'bs' between them -/
theorem RegAt.segs {G : Gl} {id : Nat} {l : List Oper} {st : St} {K : St → Prop} (bs : List Nat) (hm : G.P.follows .mixedOrders = true) (hB : segsB l bs = true) (h : segG G l bs 0 st K) : RegAt G id l.toArray st K := by
  simp only [segsB, Bool.and_eq_true] at hB
  refine .mk fun ρ a w m mm => ?_
  refine wp_region_any hm ?_
  exact segG_sound (fun e a w hp => .inr hp) hB.1 (fun st ρ a w k m mm => .inl ⟨rfl, st, ρ, k, m, mm⟩) bs 0 _ st ρ a _ (Nat.zero_le _) hB.2 h m mm.drew
end Sy
end Go.Proofs.YtgdbdebieghnkaaGreat

/-
  Symbolic runs: slices of the call's own: made, appended to, read.
-/
namespace Go.Proofs.YtgdbdebieghnkaaGreat
open Go.RowKit
namespace Sy
set_option linter.unusedVariables false
set_option linter.unusedSimpArgs false

def pull : Nat → List HP → List HP
  | 0, l => l
  | _ + 1, [] => []
  | n + 1, A :: l => match pull n l with
    | [] => [A]
    | B :: r => B :: A :: r
theorem sepL_pull {R : HP} : ∀ (n : Nat) {l : List HP} {h : Hl}, sepL l R h → sepL (pull n l) R h
  | 0, l, h, s => s
  | n + 1, [], h, s => s
  | n + 1, A :: l, h, s => by
    obtain ⟨h1, h2, d, e, a, s⟩ := s
    have s' := sepL_pull n s
    have hp : pull n l = [] ∨ ∃ B r, pull n l = B :: r := by cases pull n l <;> simp
    unfold pull
    rcases hp with hp | ⟨B, r, hp⟩
    · rw [hp] at s' ⊢
      exact ⟨h1, h2, d, e, a, s'⟩
    · rw [hp] at s' ⊢
      exact sep_swap ⟨h1, h2, d, e, a, s'⟩
theorem Sat.left {A B : HP} {w : World} (s : Sat (sep A B) w) : Sat A w := by
  obtain ⟨h, hs, h1, h2, d, rfl, a, b⟩ := s
  exact ⟨h1, hs.left, a⟩
theorem Sat.right {A B : HP} {w : World} (s : Sat (sep A B) w) : Sat B w := by
  obtain ⟨h, hs, h1, h2, d, rfl, a, b⟩ := s
  exact ⟨h2, hs.right d, b⟩
theorem Sat.in_ {R A : HP} {w : World} : ∀ (n : Nat) {l : List HP}, Sat (sepL l R) w → l[n]? = some A → Sat A w
  | n, [], s, h => by simp at h
  | 0, B :: l, s, h => by simp at h; subst h; exact Sat.left s
  | n + 1, B :: l, s, h => Sat.in_ n (l := l) (Sat.right s) (by simpa using h)
theorem Sat.rest {R : HP} {w : World} : ∀ {l : List HP}, Sat (sepL l R) w → Sat R w
  | [], s => s
  | B :: l, s => Sat.rest (l := l) (Sat.right s)

/-- a slice that owns its row -/
def rowH (v : Value) (n : Nat) (e : TypeId) (size : Nat) (xs : List Value) : HP := fun h =>
  xs.length = n * size ∧ ((v = .slice none 0 0 ∧ n = 0 ∧ ∀ i, h i = none) ∨
    ∃ g cap cur, v = .slice (some ⟨g, 0, none⟩) n cap ∧ (∀ i, h i = if i = g then some (.cells cur e (0, 0)) else none) ∧ n ≤ cap ∧ cap ≤ maxLen ∧ cur.size = cap * size ∧ cur.toList.take (n * size) = xs)
theorem rowH_own {v : Value} {n size : Nat} {e : TypeId} {xs : List Value} {h : Hl} {w : World} (r : rowH v n e size xs h) (s : Sub h w) : w.ownsRow 0 e size v n xs := by
  obtain ⟨hl, hr⟩ := r
  refine ⟨hl, ?_⟩
  rcases hr with ⟨h1, h2, _⟩ | ⟨g, cap, cur, h1, h2, h3⟩
  · exact .inl ⟨h1, h2⟩
  · exact .inr ⟨g, cap, cur, h1, Nat.zero_le _, s g _ (by rw [h2]; simp), h3⟩
theorem own_rowH {v : Value} {n size base : Nat} {e : TypeId} {xs : List Value} {w : World} (r : w.ownsRow base e size v n xs) : ∃ h, rowH v n e size xs h ∧ Sub h w ∧ ∀ i, h i ≠ none → v.ownBlock = some i ∧ base ≤ i := by
  obtain ⟨hl, hr⟩ := r
  rcases hr with ⟨h1, h2⟩ | ⟨g, cap, cur, h1, hg, h2, h3⟩
  · exact ⟨fun _ => none, ⟨hl, .inl ⟨h1, h2, fun _ => rfl⟩⟩, (fun i o e => by cases e), fun i c => absurd rfl c⟩
  · refine ⟨fun i => if i = g then some (.cells cur e (0, 0)) else none, ⟨hl, .inr ⟨g, cap, cur, h1, fun _ => rfl, h3⟩⟩, fun i o e => ?_, fun i c => ?_⟩
    · simp only at e
      split at e
      · rename_i hi; subst hi; rw [← e]; exact h2
      · cases e
    · simp only at c
      split at c
      · rename_i hi; subst hi; exact ⟨by rw [h1]; rfl, hg⟩
      · exact absurd rfl c
/-- a row that is new -/
theorem sat_row {A : HP} {w w' : World} {v : Value} {n size : Nat} {e : TypeId} {xs : List Value} (s : Sat A w) (hb : Below w.heap.size w w') (r : w'.ownsRow w.heap.size e size v n xs) : Sat (sep (rowH v n e size xs) A) w' := by
  obtain ⟨h2, s2, a⟩ := s
  obtain ⟨h1, r1, s1, d⟩ := own_rowH r
  refine ⟨un h1 h2, s1.un (s2.below hb), h1, h2, fun i => ?_, rfl, r1, a⟩
  by_cases c : h1 i = none
  · exact .inl c
  · exact .inr (s2.none (d i c).2)

theorem putK_go {G : Gl} {st : St} {d : Option Nat} {x : SV} {K : St → Prop} (h : putK G st d x none K) {ρ : List Nat} {a : Act} {w : World} {v : Value} (hx : x.den ρ = some v) (m : Tm G st ρ a) (mm : Mem G st ρ w) : ∃ st', K st' ∧ Tm G st' ρ (a.put d v) ∧ Mem G st' ρ w := by
  obtain ⟨t, o, n, hh, c⟩ := st
  unfold putK at h
  cases d with
  | some i =>
    simp only at h
    split at h
    · rename_i hi
      have hi' : i < G.N := Nat.le_of_ble_eq_true hi
      exact ⟨_, h, m.put_ hi' hx _ _ _ _, mm.same rfl rfl rfl⟩
    · exact h.elim
  | none => exact ⟨_, h, m, mm⟩
/-- an operation's own law, apart from R -/
def SemR (P : Program) (R : HP) (s : Sem Go.Next) (pre : List HP) (post : Value → List HP → Prop) : Prop :=
  ∀ w, Sat (sepL pre R) w → ∃ v hs w', s.run P w = .ok (.value v) w' ∧ post v hs ∧ Sat (sepL hs R) w' ∧ Wd w w'
theorem OpAt.sem {G : Gl} {o : Oper} {st : St} {K : St → Prop} {pre : List HP} {post : Value → List HP → Prop} (rest : List HP) (hp : ∀ h, sepL st.h G.R h → sepL (pre ++ rest) G.R h) (hsel : notSel o.op = true) (hr : allR st o.op.operands.toList = true)
    (hf : ∀ R', (∀ w, Sat R' w → Sat (sepL rest G.R) w) → SemR G.P R' (execOp (evR st) o) pre post) (k : ∀ v hs, post v hs → putK G { st with h := hs ++ rest } o.dst (.v v) none K) : OpAt G o st K := by
  refine .mk fun ρ a w m mm => ?_
  obtain ⟨h, h1, h2, h3, h4⟩ := mem_split mm
  have h2 := hp h h2
  rw [sepL_append] at h2
  obtain ⟨v, hs, w', hrun, hv, ⟨g, g1, s⟩, hw⟩ := hf (plus (obj st ρ w) (sepL rest G.R)) (by
    rintro w' ⟨g, g1, ⟨g2, d, rfl, s⟩⟩
    exact ⟨g2, g1.right d, s⟩) w ⟨_, h4.un h1, plus_in h3 h2⟩
  have hc : execOp a.eval o = execOp (evR st) o := execOp_congr o (fun cs b => notSel_spec hsel cs b) fun x hx => allR_sound m hr x (by simpa using hx)
  have mm' : Mem G { st with h := hs ++ rest } ρ w' := by
    refine mem_join mm hw g1 ?_
    have := plus_out s
    rwa [sepL_append]
  obtain ⟨st', k', m', mm2⟩ := putK_go (k v hs hv) (ρ := ρ) (v := v) rfl (m.same rfl) mm'
  unfold Oper.wp
  rw [hc, hrun]
  exact ⟨st', ρ, k', m', mm2, Ext.refl _⟩

def dens : Nat → List (Nat × Operand) → Bool
  | _, [] => true
  | n, (i, _) :: l => match Nat.beq i n with
    | true => dens (n + 1) l
    | false => false
theorem dens_eq {ev : Operand → Value} : ∀ {l : List (Nat × Operand)} {n : Nat}, dens n l = true → l.map (fun (i, x) => (i, ev x)) = ((l.map fun p => ev p.2).zipIdx n).map fun x => (x.2, x.1)
  | [], n, _ => rfl
  | (i, x) :: l, n, h => by
    unfold dens at h
    split at h
    · rename_i e
      have := beq_of e
      subst this
      simp [dens_eq h]
    · cases h

/-- what the cells of values are, one behind the other -/
def cellsOf (vs : List Value) : List Value := vs.flatMap fun v => v.cells.toList
theorem fill_all {size : Nat} (hs : 0 < size) (vs : List Value) (cells : Array Value) (hv : ∀ v ∈ vs, v.cells.size = size) (hc : cells.size = vs.length * size) :
    Instr.fill (fun i => some (i * size, size)) cells ((vs.zipIdx 0).map fun x => (x.2, x.1)) = some (cellsOf vs).toArray := by
  obtain ⟨r, h1, h2, h3⟩ := Great.fill_dense hs vs 0 cells hv (by rw [hc]; simp)
  rw [h1]
  congr 1
  apply Array.ext_getElem?
  intro k
  rw [h3 k]
  have hlen : ∀ (l : List Value), (∀ v ∈ l, v.cells.size = size) → (cellsOf l).length = l.length * size := by
    intro l hl
    induction l with
    | nil => simp [cellsOf]
    | cons v l ih =>
      have := ih fun v hv => hl v (List.mem_cons_of_mem _ hv)
      simp only [cellsOf, List.flatMap_cons, List.length_append, Array.length_toList, List.length_cons] at this ⊢
      rw [this, hl v List.mem_cons_self, Nat.add_mul]
      omega
  have hat : ∀ (l : List Value) (k : Nat), (∀ v ∈ l, v.cells.size = size) → k < l.length * size → (cellsOf l)[k]? = (l[k / size]?).bind fun v => v.cells[k % size]? := by
    intro l
    induction l with
    | nil => intro k _ h; simp at h
    | cons v l ih =>
      intro k hl hk
      have hvs := hl v List.mem_cons_self
      have hl' := fun u hu => hl u (List.mem_cons_of_mem _ hu)
      simp only [cellsOf, List.flatMap_cons]
      by_cases c : k < size
      · rw [List.getElem?_append_left (by simp [hvs, c]), Nat.div_eq_of_lt c, Nat.mod_eq_of_lt c]
        simp
      · rw [List.getElem?_append_right (by simp [hvs]; omega)]
        have e1 : k / size = (k - size) / size + 1 := by
          rw [Nat.div_eq k, if_pos ⟨hs, by omega⟩]
        have e2 : k % size = (k - size) % size := by
          rw [Nat.mod_eq k, if_pos ⟨hs, by omega⟩]
        rw [e1, e2]
        have := ih (k - size) hl' (by simp only [List.length_cons, Nat.add_mul] at hk; omega)
        simp only [cellsOf] at this
        simp only [Array.length_toList, hvs, this, List.getElem?_cons_succ]
  by_cases c : k < vs.length * size
  · rw [if_pos ⟨by omega, by simpa using c⟩]
    simp only [List.getElem?_toArray]
    rw [hat vs k hv c]
    simp
  · rw [if_neg (by simp; omega)]
    rw [Array.getElem?_eq_none (by omega)]
    simp only [List.getElem?_toArray]
    rw [List.getElem?_eq_none]
    rw [hlen vs hv]
    omega

theorem cellsOf_len {size : Nat} : ∀ {l : List Value}, (∀ v ∈ l, v.cells.size = size) → (cellsOf l).length = l.length * size
  | [], _ => by simp [cellsOf]
  | v :: l, hl => by
    have := cellsOf_len fun u hu => hl u (List.mem_cons_of_mem _ hu)
    simp only [cellsOf, List.flatMap_cons, List.length_append, Array.length_toList, List.length_cons] at this ⊢
    rw [this, hl v List.mem_cons_self, Nat.add_mul]
    omega
/-- a slice literal -/
theorem OpAt.lit {G : Gl} {o : Oper} {st : St} {K : St → Prop} {t e : TypeId} {len : Nat} {parts : Array (Nat × Operand)} {ie : TypeInfo} {z : Value} (vs : List Value) (size : Nat) (ho : o.op = .buildSlice t len parts) (hu : G.P.underlying t = some (.slice e)) (hie : G.P.info? e = some ie) (hz : ie.zero = some z)
    (hsz : ie.size = size) (hpos : 0 < size) (hd : dens 0 parts.toList = true) (hr : allR st o.op.operands.toList = true) (hvs : vs = parts.toList.map fun p => evR st p.2) (hcs : ∀ v ∈ vs, v.cells.size = size) (hl : len = vs.length) (hsm : len * size ≤ 16777216)
    (k : ∀ g, putK G { st with h := rowH (.slice (some ⟨g, 0, none⟩) len len) len e size (cellsOf vs) :: st.h } o.dst (.v (.slice (some ⟨g, 0, none⟩) len len)) none K) : OpAt G o st K := by
  refine OpAt.sem (pre := []) (post := fun v hs => ∃ g, v = .slice (some ⟨g, 0, none⟩) len len ∧ hs = [rowH (.slice (some ⟨g, 0, none⟩) len len) len e size (cellsOf vs)]) st.h (fun h s => s) (by rw [ho]; rfl) hr ?_ ?_
  · intro R' _ w s
    refine ⟨_, _, w.alloc (.cells (cellsOf vs).toArray e), ?_, ⟨w.heap.size, rfl, rfl⟩, ?_, .of_below ((Below.refl _ _).alloc (Nat.le_refl _) _)⟩
    · have hfill : Instr.fill (fun i => some (i * ie.size, ie.size)) ((Array.range (len * ie.size)).map (z.cells[· % z.cells.size]!)) (parts.map fun (i, x) => (i, evR st x)).toList = some (cellsOf vs).toArray := by
        rw [Array.toList_map, dens_eq hd, ← hvs, hsz]
        exact fill_all hpos vs _ hcs (by simp [hl])
      simp only [execOp, ho, Sem.run_bind]
      by_cases h0 : len = 0
      · have hv0 : vs = [] := List.eq_nil_of_length_eq_zero (by omega)
        have hp0 : parts.toList = [] := by
          rw [hv0] at hvs
          exact List.map_eq_nil_iff.1 hvs.symm
        have hp1 : (parts.map fun (i, x) => (i, evR st x)).toList = [] := by rw [Array.toList_map, hp0]; rfl
        subst h0 hv0
        simp [Instr.buildSlice, run_underlying hu, sizeOf, typeInfo, hie, newRow, newObj, hp0, Instr.fill, cellsOf]
        rw [show Array.map (fun _ => (default : Value)) (Array.range 0) = #[] from by apply Array.ext'; simp]
        rfl
      · rw [run_buildSlice w t e len _ (cellsOf vs).toArray ie z hu hie hz (by rw [hsz]; omega) (by rw [hsz]; exact Nat.mul_ne_zero h0 (by omega)) hfill]
        simp
    · refine sat_row s ((Below.refl _ _).alloc (Nat.le_refl _) _) ⟨?_, .inr ⟨_, len, (cellsOf vs).toArray, rfl, Nat.le_refl _, heap_alloc_new w _, Nat.le_refl _, by simp only [maxLen]; have : len ≤ len * size := Nat.le_mul_of_pos_right _ hpos; omega, ?_, ?_⟩⟩
      all_goals
        have hlen : (cellsOf vs).length = len * size := by rw [hl]; exact cellsOf_len hcs
      · exact hlen
      · simpa using hlen
      · simp only [List.toList_toArray]
        rw [List.take_of_length_le (by omega)]
  · rintro v hs ⟨g, rfl, rfl⟩
    exact k g

theorem rowH_ne {v : Value} {n size : Nat} {e : TypeId} {xs : List Value} {h : Hl} (r : rowH v n e size xs h) {g : Nat} (hg : v.ownBlock = some g) : h g ≠ none := by
  rcases r.2 with ⟨rfl, _, _⟩ | ⟨g', cap, cur, rfl, h2, _⟩
  · cases hg
  · have : g' = g := by simpa [Value.ownBlock] using hg
    subst this
    rw [h2]; simp

/-- append to a slice of the call's own -/
theorem OpAt.append {G : Gl} {o : Oper} {st : St} {K : St → Prop} {t e : TypeId} {s x : Operand} {i : TypeInfo} {z : Value} (v : Value) (n size bytes : Nat) (xs news : List Value) (A : Option Addr) (m c : Nat) (rest : List HP)
    (ho : o.op = .call { callee := .builtin .append, args := #[s, x], argTypes := #[t, t] }) (hp : ∀ h, sepL st.h G.R h → sepL (rowH v n e size xs :: rest) G.R h) (hs : evR st s = v) (hx : evR st x = .slice A m c) (hr : allR st o.op.operands.toList = true)
    (hu : G.P.underlying t = some (.slice e)) (hi : G.P.info? e = some i) (hz : i.zero = some z) (hsize : i.size = size) (hby : i.bytes = bytes) (hzs : z.cells.size = size) (hsz : 0 < size)
    (src : ∀ w, Sat (sepL rest G.R) w → Reads w w.heap.size size A m news) (h1 : ∀ u ∈ news, u.oneCell' = true) (h63 : n + m ≤ maxLen) (hbytes : (n + m) * bytes ≤ 140737488355328)
    (k : ∀ A' c', putK G { st with h := rowH (.slice A' (n + m) c') (n + m) e size (xs ++ news) :: rest } o.dst (.v (.slice A' (n + m) c')) none K) : OpAt G o st K := by
  refine OpAt.sem (pre := [rowH v n e size xs]) (post := fun v' hs => ∃ A' c', v' = .slice A' (n + m) c' ∧ hs = [rowH (.slice A' (n + m) c') (n + m) e size (xs ++ news)]) rest hp (by rw [ho]; rfl) hr ?_ ?_
  · rintro R' hR' w ⟨h, hsub, h1', h2, d, rfl, hrow, hrest⟩
    have hown := rowH_own hrow hsub.left
    have hrd := src w (hR' w ⟨h2, hsub.right d, hrest⟩)
    obtain ⟨v', w', hrun, hown', hB, hg, hat⟩ := run_append_appl (P := G.P) w 0 t o.type e i z size bytes hu hi hz hsize hby hzs hsz v n xs (.inl hown) w.heap.size A m c news hrd h1 (.inr hown) h63 hbytes (Nat.zero_le _)
    obtain ⟨A', c', rfl, _⟩ := own_shape' hown'
    obtain ⟨h1'', r1, s1, dom⟩ := own_rowH hown'
    have s2 : Sub h2 w' := fun j ob e' => by
      have hj := hsub.right d j ob e'
      have hlt := (Array.getElem?_eq_some_iff.1 hj).1
      rw [hg.block j hlt ?_]
      · exact hj
      · intro c0
        rcases d j with c1 | c1
        · exact rowH_ne hrow c0.symm c1
        · rw [c1] at e'; cases e'
    refine ⟨_, _, w', ?_, ⟨A', c', rfl, rfl⟩, ⟨_, s1.un s2, h1'', h2, fun j => ?_, rfl, r1, hrest⟩, ⟨hg.os, hg.tape, hg.output, hg.size⟩⟩
    · have ha : (#[s, x] : Array Operand).map (evR st) = #[v, .slice A m c] := by simp [hs, hx]
      simp only [execOp, ho, resolve, invoke, builtin, Sem.run_bind, Sem.run_pure, Result.andThen_ok, ha, hrun]
    · by_cases c0 : h1'' j = none
      · exact .inl c0
      · right
        have hj := (dom j c0).1
        rcases hat with hat | ⟨g, hat, hge⟩
        · rw [hat] at hj
          rcases d j with c1 | c1
          · exact absurd c1 (rowH_ne hrow hj)
          · exact c1
        · rw [hat] at hj
          injection hj with hj
          subst hj
          exact (hsub.right d).none hge
  · rintro v' hs' ⟨A', c', rfl, rfl⟩
    exact k A' c'

/-- what a row shows -/
theorem rowH_reads {v : Value} {A : Option Addr} {n c size : Nat} {e : TypeId} {xs : List Value} {w : World} (hv : v = .slice A n c) (s : Sat (rowH v n e size xs) w) : Reads w w.heap.size size A n xs := by
  obtain ⟨h, hs, r⟩ := s
  subst hv
  exact Reads.of_own (rowH_own r hs)
/-- where the first cell of a row is -/
theorem rowH_at {A : Option Addr} {n c size : Nat} {e : TypeId} {xs : List Value} {w : World} (s : Sat (rowH (.slice A n c) n e size xs) w) (hn : 0 < n) : ∃ g, A = some ⟨g, 0, none⟩ ∧ ∀ j u, xs[j]? = some u → w.cell? ⟨g, j, none⟩ = some u := by
  obtain ⟨h, hs, hl, r⟩ := s
  rcases r with ⟨h1, h2, _⟩ | ⟨g, cap, cur, h1, h2, h3, h4, h5, h6⟩
  · omega
  · injection h1 with h1 h1' h1''
    refine ⟨g, h1, fun j u hu => ?_⟩
    have hb : Blk w g e cur := hs g _ (by rw [h2]; simp)
    rw [hb.cell]
    rw [← h6, List.getElem?_take] at hu
    split at hu
    · simpa using hu
    · cases hu

/-- a loop that leaves the objects as they are -/
theorem LoopAt.heap {G : Gl} {body : St → (St → Prop) → Prop} {st : St} {α : Type} (Kp : List Nat) (S : α → List (Nat × SV)) (H : α → List HP) (pre : α → Prop) (μ : α → Nat) (a0 : α) (h0 : pre a0)
    (hB : Nat.ble G.B.length st.n = true) (s0 : leT st.n st.t (S a0)) (kk : leT st.n st.t (keepT st.t Kp)) (ho : leO st.n st.o st.o) (hh : ∀ h, sepL st.h G.R h → ∃ h', (∀ i o, h' i = some o → h i = some o) ∧ sepL (H a0) G.R h')
    (round : ∀ a, pre a → forceL (S a ++ keepT st.t Kp) fun t => body ⟨t, st.o, st.n, H a, True⟩ fun st' => stp st' fun st' => Next G pre μ (fun a => hd (S a) Kp st.o (H a) st) (μ a) st') : LoopAt G body st :=
  LoopAt.of Kp S (fun _ => st.o) H pre μ a0 h0 (Le.of (Nat.le_refl _) (Nat.le_of_ble_eq_true hB) (leT_append s0 kk) ho hh) round
theorem Next.heap {G : Gl} {st st' : St} {α : Type} {Kp : List Nat} {S : α → List (Nat × SV)} {H : α → List HP} {pre : α → Prop} {μ : α → Nat} {m : Nat} (a : α) (h : pre a) (hlt : μ a < m)
    (s0 : leT st.n st'.t (S a)) (kk : leT st.n st'.t (keepT st.t Kp)) (ho : leO st.n st'.o st.o) (hn : Nat.ble st.n st'.n = true) (hB : Nat.ble G.B.length st.n = true) (hh : ∀ h, sepL st'.h G.R h → ∃ h', (∀ i o, h' i = some o → h i = some o) ∧ sepL (H a) G.R h') :
    Next G pre μ (fun a => hd (S a) Kp st.o (H a) st) m st' :=
  ⟨a, h, hlt, Le.of (Nat.le_of_ble_eq_true hn) (Nat.le_of_ble_eq_true hB) (leT_append s0 kk) ho hh⟩
theorem sub_tail {A : HP} {l : List HP} {R : HP} {h : Hl} (s : sepL (A :: l) R h) : ∃ h', (∀ i o, h' i = some o → h i = some o) ∧ sepL l R h' := by
  obtain ⟨h1, h2, d, rfl, a, s⟩ := s
  refine ⟨h2, fun i o e => ?_, s⟩
  unfold un
  rcases d i with c | c
  · rw [c, e]; rfl
  · rw [c] at e; cases e
theorem sub_same {l : List HP} {R : HP} {h : Hl} (s : sepL l R h) : ∃ h', (∀ i o, h' i = some o → h i = some o) ∧ sepL l R h' := ⟨h, fun _ _ e => e, s⟩
end Sy
end Go.Proofs.YtgdbdebieghnkaaGreat

/-
  Symbolic runs: a region that draws its order, reads, and at its end makes a variable of what it has read.
-/
namespace Go.Proofs.YtgdbdebieghnkaaGreat
open Go.RowKit
namespace Sy
set_option linter.unusedVariables false
set_option linter.unusedSimpArgs false

/-- an operation that leaves the world alone -/
def opS (G : Gl) (o : Oper) (st : St) (K : St → Prop) : Prop :=
  match o.op with
  | .load t x => ev st x False fun vx => match vx with
    | .v (.pointer (some ad)) => stp st fun st => LoadAt G t ad st fun r => putK G st o.dst r none K
    | _ => q1 G.P G.tr st o False fun r q => putK G st o.dst r q K
  | _ => q1 G.P G.tr st o False fun r q => putK G st o.dst r q K
def Still1 (G : Gl) (o : Oper) (st : St) (K : St → Prop) : Prop :=
  st.c ∧ ∀ ρ a w0, Tm G st ρ a → Mem G st ρ w0 → ∃ v st', K st' ∧ SameM st st' ∧ (∀ w, Mem G st ρ w → (execOp a.eval o).run G.P w = .ok (.value v) w) ∧ Tm G st' ρ (a.put o.dst v)
theorem still_q1 {G : Gl} {o : Oper} {st : St} {K : St → Prop} (hK : Good K) (h : q1 G.P G.tr st o False fun r q => putK G st o.dst r q K) : Still1 G o st K := by
  rcases q1_sound h with h | ⟨x, q, h, hy⟩
  · exact h.elim
  · obtain ⟨⟨hc, hq⟩, hp⟩ := putK_same h hK
    refine ⟨hc, fun ρ a w0 m mm0 => ?_⟩
    have hy := hy hq
    obtain ⟨v, e1, e2⟩ := hy G ρ a w0 m mm0.ob
    obtain ⟨st', k, hs, m'⟩ := hp ρ a v e1 m
    refine ⟨v, st', k, hs, fun w' mm' => ?_, m'⟩
    obtain ⟨v', e3, e4⟩ := hy G ρ a w' m mm'.ob
    rw [e1] at e3
    injection e3 with e3
    subst e3
    exact e4
theorem opS_sound {G : Gl} {o : Oper} {st : St} {K : St → Prop} (h : opS G o st K) (hK : Good K) : Still1 G o st K := by
  unfold opS at h
  split at h
  case h_1 t x ho =>
    rcases ev_sound h with h | ⟨sx, h, ex⟩
    · exact h.elim
    split at h
    · rename_i ad
      obtain ⟨hc, ⟨r, hr, h⟩⟩ := stp_iff.1 h
      refine ⟨hc, fun ρ a w0 m mm0 => ?_⟩
      obtain ⟨_, hp⟩ := putK_same h hK
      obtain ⟨st', k, hs, m'⟩ := hp ρ a r rfl (m.same rfl)
      refine ⟨r, st', k, hs, fun w mm => ?_, m'⟩
      have h1 := ex G ρ a m
      simp only [SV.den, Option.some.injEq] at h1
      simp [execOp, ho, ← h1, hr ρ w (mm.same rfl rfl rfl)]
    · exact still_q1 hK h
  case h_2 => exact still_q1 hK h

/-- the operations that are left when the first k are through -/
def restB (ops : Array Oper) : Nat → Nat → Array Bool → Bool
  | 0, k, ls => decide (Region.ready .any ops ls = [k]) && (decide (Region.ready .any ops (ls.setIfInBounds k true) = [k + 1]) && decide (Region.ready .any ops ((ls.setIfInBounds k true).setIfInBounds (k + 1) true) = []))
  | f + 1, k, ls => (Region.ready .any ops ls).contains k && (Region.free .any ops ls k && restB ops f (k + 1) (ls.setIfInBounds k true))
def boxB (l : List Oper) (n : Nat) : Bool := Region.noSelect l.toArray && (decide (l.length = n + 2) && restB l.toArray n 0 (Array.replicate l.toArray.size false))

def chk (cs : List SV) (size : Nat) (A : Prop) : Prop := match Nat.beq cs.length size with
  | true => match oneL cs with
    | true => A
    | false => False
  | false => False
theorem chk_sound {cs : List SV} {size : Nat} {A : Prop} (h : chk cs size A) : cs.length = size ∧ oneL cs = true ∧ A := by
  unfold chk at h
  split at h
  · rename_i e
    split at h
    · rename_i e'; exact ⟨beq_of e, e', h⟩
    · exact h.elim
  · exact h.elim
/-- the variable is made, and takes its value -/
def mkBox (G : Gl) (d : Nat) (t : TypeId) (y : Operand) (size : Nat) (st : St) (K : St → Prop) : Prop := ev st y False fun vy => cellsK vy fun cs => chk cs size (newO G (some d) t cs st K)
theorem mkBox_sound {G : Gl} {d : Nat} {t : TypeId} {y : Operand} {size : Nat} {st : St} {K : St → Prop} (h : mkBox G d t y size st K) : ∃ (vy : SV) (cs : List SV), (∀ G ρ a, Tm G st ρ a → vy.den ρ = some (a.eval y)) ∧ (∀ ρ v, vy.den ρ = some v → denL ρ cs = some v.cells.toList) ∧ cs.length = size ∧ oneL cs = true ∧ newO G (some d) t cs st K := by
  rcases ev_sound h with h | ⟨s, h, e⟩
  · exact h.elim
  obtain ⟨cs, h, hd⟩ := cellsK_sound h
  obtain ⟨h1, h2, h3⟩ := chk_sound h
  exact ⟨s, cs, e, hd, h1, h2, h3⟩

theorem held_ops {G : Gl} {all : List Oper} {ρ : List Nat} {S : World → Prop} {Q : Exit → Act → World → Prop} {F : St → Prop} (hsel : Region.noSelect all.toArray = true) (hF : Good F) (hQ : ∀ d v c a w, Q (.panic c) (Act.put a d v) w → Q (.panic c) a w) :
    ∀ (l : List Oper) (k : Nat) (ls : Array Bool) (st : St) (a : Act) (w : World), (∀ j, j < l.length → l[j]? = all[k + j]?) → (∀ w, S w → Mem G st ρ w) → S w → restB all.toArray l.length k ls = true → opsG (opS G) G all l st F → Tm G st ρ a →
      (∀ st' a' ls', SameM st st' → F st' → Tm G st' ρ a' → restB all.toArray 0 (k + l.length) ls' = true → wpAnyH G.P .any all.toArray Q S 2 ls' a' w) → wpAnyH G.P .any all.toArray Q S (l.length + 2) ls a w := by
  intro l
  induction l with
  | nil =>
    intro k ls st a w _ _ _ hB h m fin
    simp only [List.length_nil, Nat.zero_add]
    exact fin st a ls ⟨rfl, rfl, rfl⟩ h m (by simpa using hB)
  | cons o l ih =>
    intro k ls st a w hl hS hw hB h m fin
    have h0 : all.toArray[k]? = some o := by simpa using (hl 0 (by simp)).symm
    simp only [List.length_cons, restB, Bool.and_eq_true] at hB
    obtain ⟨hr, hf, hB'⟩ := hB
    have good : ∀ l, Good (fun st => opsG (opS G) G all l st F) := by
      intro l
      induction l with
      | nil => exact hF
      | cons o l ihg =>
        intro st h
        unfold opsG at h
        split at h
        · exact (opS_sound h ihg).1
        · rename_i j want hg
          split at h
          · split at h
            · split at h
              · split at h
                · exact (opS_sound h ihg).1
                · exact (putK_same h ihg).1.1
              · rename_i b hx
                by_cases hb : b = want
                · exact (opS_sound (h.1 hb) ihg).1
                · exact (putK_same (h.2 (by cases b <;> cases want <;> simp_all)) ihg).1.1
              · exact (putK_same h ihg).1.1
              · exact h.elim
            · exact h.elim
          · exact h.elim
    have step : ∀ (st1 st' : St) (a1 : Act) (v : Value), SameM st st1 → SameM st1 st' → opsG (opS G) G all l st' F → Tm G st' ρ (a1.put o.dst v) → a1 = a → YieldsIf G.P all.toArray S o v a → wpAnyH G.P .any all.toArray Q S ((o :: l).length + 2) ls a w := by
      rintro st1 st' a1 v s1 s2 k' m' rfl hy
      have s3 : SameM st st' := ⟨s2.1.trans s1.1, s2.2.1.trans s1.2.1, s2.2.2.trans s1.2.2⟩
      have : (o :: l).length + 2 = (l.length + 2) + 1 := by simp only [List.length_cons]
      rw [this]
      refine wpAnyH_take h0 hsel hf hr (fun c a w => hQ _ _ c a w) hy hw ?_
      refine ih (k + 1) _ st' _ w (fun j hj => ?_) (fun w hw => s3.mem.2 (hS w hw)) hw hB' k' m' ?_
      · have := hl (j + 1) (by simp; omega)
        simpa [Nat.add_assoc, Nat.add_comm 1 j] using this
      · intro st2 a2 ls2 s4 f2 m2 hb2
        refine fin st2 a2 ls2 ⟨s4.1.trans s3.1, s4.2.1.trans s3.2.1, s4.2.2.trans s3.2.2⟩ f2 m2 ?_
        have : k + (o :: l).length = k + 1 + l.length := by simp only [List.length_cons]; omega
        rw [this]; exact hb2
    have yes : ∀ st1 : St, SameM st st1 → Tm G st1 ρ a → (opS G o st1 fun st => opsG (opS G) G all l st F) → Region.wanted o (yielded all.toArray a.tmps) = true → wpAnyH G.P .any all.toArray Q S ((o :: l).length + 2) ls a w := by
      intro st1 s1 m1 h hwt
      obtain ⟨_, hq⟩ := opS_sound h (good l)
      obtain ⟨v, st', k', s2, hr', m'⟩ := hq ρ a w m1 (s1.mem.2 (hS w hw))
      exact step st1 st' a v s1 s2 k' m' rfl (.inl ⟨hwt, fun w hw => hr' w (s1.mem.2 (hS w hw))⟩)
    have no : ∀ st1 : St, SameM st st1 → Tm G st1 ρ a → (putK G st1 o.dst (.v undef) none fun st => opsG (opS G) G all l st F) → Region.wanted o (yielded all.toArray a.tmps) = false → wpAnyH G.P .any all.toArray Q S ((o :: l).length + 2) ls a w := by
      intro st1 s1 m1 h hwt
      obtain ⟨_, hp⟩ := putK_same h (good l)
      obtain ⟨st', k', s2, m'⟩ := hp ρ a undef rfl m1
      exact step st1 st' a undef s1 s2 k' m' rfl (.inr ⟨hwt, rfl⟩)
    unfold opsG at h
    split at h
    · rename_i hg
      exact yes st ⟨rfl, rfl, rfl⟩ m h (wanted_none hg _)
    · rename_i j want hg
      split at h
      · rename_i oj hj
        split at h
        · rename_i t ht
          split at h
          · rename_i b hx
            split at h
            · rename_i hb
              exact yes st ⟨rfl, rfl, rfl⟩ m h (by rw [wanted_eq hg hj ht hx rfl m, hb])
            · rename_i hb
              exact no st ⟨rfl, rfl, rfl⟩ m h (by rw [wanted_eq hg hj ht hx rfl m, hb])
          · rename_i b hx
            by_cases hb : b = want
            · subst hb
              exact yes (seen st t b) ⟨rfl, rfl, rfl⟩ (seen_tm m hx) (h.1 rfl) (by rw [wanted_eq hg hj ht hx rfl m]; simp)
            · have hb' : b = !want := by cases b <;> cases want <;> simp_all
              subst hb'
              exact no (seen st t (!want)) ⟨rfl, rfl, rfl⟩ (seen_tm m hx) (h.2 rfl) (by rw [wanted_eq hg hj ht hx rfl m]; simp)
          · rename_i hx
            exact no st ⟨rfl, rfl, rfl⟩ m h (wanted_undef hg hj ht hx m)
          · exact h.elim
        · exact h.elim
      · exact h.elim

theorem RegAt.box {G : Gl} {id : Nat} {l : List Oper} {st : St} {K : St → Prop} (n d : Nat) (t : TypeId) (y : Operand) {i : TypeInfo} {z : Value} {oa os : Oper} (hm : G.P.follows .mixedOrders = true) (hB : boxB l n = true) (ha : l[n]? = some oa) (hs : l[n + 1]? = some os)
    (ho1 : oa.op = .alloc t) (ho2 : oa.dst = some d) (ho3 : oa.guard = none) (hs1 : os.op = .store t (.tmp d) y) (hs2 : os.dst = none) (hs3 : os.guard = none) (hi : G.P.info? t = some i) (hz : i.zero = some z) (hzs : z.cells.size = i.size) (hyd : ∀ s, y = .tmp s → Nat.beq s d = false)
    (h : opsG (opS G) G l (l.take n) st fun st => mkBox G d t y i.size st fun st => stp st K) : RegAt G id l.toArray st K := by
  refine .mk fun ρ a w m mm => ?_
  simp only [boxB, Bool.and_eq_true, decide_eq_true_eq] at hB
  obtain ⟨hsel, hlen, hrest⟩ := hB
  have htl : (l.take n).length = n := by simp; omega
  have good : Good fun st => mkBox G d t y i.size st fun st => stp st K := by
    intro st h
    obtain ⟨_, _, _, _, _, _, h⟩ := mkBox_sound h
    exact (newO_sound h good_stp).1
  refine wp_region_held (S := fun w' => Below w.heap.size w w') hm ?_
  have hsz : l.toArray.size = (l.take n).length + 2 := by rw [htl]; simpa using hlen
  rw [hsz]
  have hw1 : Below w.heap.size w { w with drawn := w.drawn + 1 } := (Below.refl _ _).drew
  refine held_ops (ρ := ρ) (F := fun st => mkBox G d t y i.size st fun st => stp st K) hsel good (fun d v c a w hq => by rcases hq with ⟨hq, _⟩ | hq; cases hq; exact .inr hq.put) (l.take n) 0 _ st a _ (fun j hj => ?_) (fun w' hw' => mm.below hw') hw1 (by rw [htl, (show n + 2 = l.toArray.size from by rw [hsz, htl])]; exact hrest) h m ?_
  · rw [htl] at hj
    simp [hj]
  · intro st1 a1 ls s1 k m1 hb
    rw [htl, Nat.zero_add] at hb
    simp only [restB, Bool.and_eq_true, decide_eq_true_eq] at hb
    obtain ⟨b1, b2, b3⟩ := hb
    obtain ⟨vy, cs, hy1, hy2, hcl, hone, hnew⟩ := mkBox_sound k
    have ea : l.toArray[n]? = some oa := by simpa using ha
    have es : l.toArray[n + 1]? = some os := by simpa using hs
    refine wpAnyH_all b1 (by simp) fun j hj => ?_
    have hjn : n = j := (by simpa using hj : j = n).symm
    subst hjn
    unfold wpOp
    simp only [ea]
    rw [if_pos (wanted_none ho3 _)]
    left
    generalize hW : ({ w with drawn := w.drawn + 1 } : World) = W at *
    have hrun1 : (execOp a1.eval oa).run G.P W = .ok (.value (.pointer (some ⟨W.heap.size, 0, none⟩))) (W.alloc (.cells z.cells t)) := by
      simp [execOp, ho1, Instr.alloc, zeroValue, typeInfo, hi, hz, newVar, newRow, newObj]
      rfl
    unfold Oper.wp
    rw [hrun1]
    simp only [Oper.upon, ho2]
    have hW1 : Below w.heap.size w (W.alloc (.cells z.cells t)) := hw1.alloc hw1.size _
    refine ⟨hW1, wpAnyH_all b2 (by simp) fun j hj => ?_⟩
    have hjn : j = n + 1 := by simpa using hj
    subst hjn
    unfold wpOp
    simp only [es]
    rw [if_pos (wanted_none hs3 _)]
    left
    have mm1 : Mem G st1 ρ W := s1.mem.2 (mm.below hw1)
    have hlt : d < G.N := by
      obtain ⟨t', o', n', hh', c'⟩ := st1
      unfold newO at hnew
      simp only at hnew
      split at hnew
      · rename_i hi'; exact Nat.le_of_ble_eq_true hi'
      · exact hnew.elim
    have e1 : (a1.put (some d) (.pointer (some ⟨W.heap.size, 0, none⟩))).eval (.tmp d) = .pointer (some ⟨W.heap.size, 0, none⟩) := by
      simp [Act.eval, Act.put, m1.size, hlt]
    have e2 : (a1.put (some d) (.pointer (some ⟨W.heap.size, 0, none⟩))).eval y = a1.eval y := by
      refine Act.eval_put fun d' hd' hy' => ?_
      injection hd' with hd'
      subst hd'
      have := hyd _ hy'
      rw [Nat.beq_refl] at this
      cases this
    have hden := hy2 ρ _ (hy1 G ρ a1 m1)
    have hcsz : (a1.eval y).cells.size = i.size := by
      have := denL_length hden
      rw [← hcl, ← this]; simp
    have hblk : Blk (W.alloc (.cells z.cells t)) W.heap.size t z.cells := Blk.new _ _ _
    have hst := run_storeCells_at (P := G.P) W.heap.size 0 t (a1.eval y).cells.toList 0 z.cells (W.alloc (.cells z.cells t)) hblk (by simp; omega) (oneL_sound hone hden)
    have hcut : (z.cells.toList.take (0 + 0) ++ (a1.eval y).cells.toList ++ z.cells.toList.drop (0 + 0 + (a1.eval y).cells.toList.length)).toArray = (a1.eval y).cells := by
      rw [List.drop_eq_nil_of_le (by simp; omega)]
      simp
    rw [hcut] at hst
    have hrun2 : (execOp (a1.put (some d) (.pointer (some ⟨W.heap.size, 0, none⟩))).eval os).run G.P (W.alloc (.cells z.cells t)) = .ok .skip ((W.alloc (.cells z.cells t)).setRow W.heap.size (a1.eval y).cells) := by
      simp only [execOp, hs1, e1, e2, Instr.storeAt, Instr.sureAddr, storeVar, sizeOf, typeInfo, Sem.run_bind, Sem.run_pure, Result.andThen_ok]
      simp [hi, hcsz, hst]
    unfold Oper.wp
    rw [hrun2]
    simp only [Oper.upon, hs2]
    have hWa : (W.alloc (.cells z.cells t)).setRow W.heap.size (a1.eval y).cells = W.alloc (.cells (a1.eval y).cells t) := by
      simp only [World.alloc, World.setRow]
      congr 1
      apply Array.ext_getElem?
      intro q
      rw [Array.getElem?_modify]
      by_cases c : W.heap.size = q
      · subst c; simp
      · rw [if_neg c]
        simp only [Array.getElem?_push]
        rw [if_neg (fun x => c x.symm), if_neg (fun x => c x.symm)]
    rw [hWa]
    obtain ⟨_, hn⟩ := newO_sound hnew good_stp
    obtain ⟨st2, ρ2, k2, m2, mm2, _⟩ := hn ρ a1 W (a1.eval y).cells.toList hden m1 mm1
    refine ⟨hw1.alloc hw1.size _, wpAnyH_done b3 (.inl ⟨rfl, { st2 with c := True }, ρ2, (stp_iff.1 k2).2, ?_, ?_⟩) 0⟩
    · exact m2.same rfl
    · have := mm2.same (st' := { st2 with c := True }) rfl rfl rfl
      simpa using this

/-! groups: operations that only compute or read, in open order with a chain of others; behind a group comes what waits for all of it -/
inductive Stp | T (k : Nat) | H (k : Nat)
def stepsB (ops : Array Oper) (n : Nat) (F : Array Bool → Bool) : List Stp → Array Bool → Bool
  | [], ls => F ls && (Region.ready .any ops ls).all fun j => decide (n ≤ j)
  | .T k :: r, ls => decide (k < n) && ((Region.ready .any ops ls).contains k && (Region.free .any ops ls k && stepsB ops n F r (ls.setIfInBounds k true)))
  | .H k :: r, ls => decide (k < n) && (decide (Region.ready .any ops ls = [k]) && stepsB ops n F r (ls.setIfInBounds k true))
def grpsB (ops : Array Oper) : List (List Stp × Nat) → Array Bool → Bool
  | [], ls => decide (Region.ready .any ops ls = [])
  | (g, n) :: r, ls => (decide (ops.size ≤ n) || (decide (n < ops.size) && (Region.sinkB .any ops n && chainW ops n))) && (headW ops n ls && stepsB ops n (fun ls' => grpsB ops r ls') g ls)
def grpLen : List (List Stp × Nat) → Nat
  | [] => 0
  | (g, _) :: r => g.length + grpLen r
def groupsB (l : List Oper) (gs : List (List Stp × Nat)) : Bool := Region.noSelect l.toArray && (decide (grpLen gs = l.length) && grpsB l.toArray gs (Array.replicate l.toArray.size false))

def HdG (P : Program) (ops : Array Oper) (Q : Exit → Act → World → Prop) (S : World → Prop) (n : Nat) (L : Array Bool → Act → World → Prop) : Nat → Array Bool → Act → World → Prop
  | 0, ls, a, w => L ls a w
  | f + 1, ls, a, w => Region.ready .any ops ls ≠ [] ∧ ∀ i, i ∈ Region.ready .any ops ls → i < n ∧ wpOp P ops Q i (fun a' w' => S w' ∧ HdG P ops Q S n L f (ls.setIfInBounds i true) a' w') a w
theorem HdG.any {P : Program} {ops : Array Oper} {Q : Exit → Act → World → Prop} {S : World → Prop} {n g : Nat} {L : Array Bool → Act → World → Prop} (hL : ∀ ls a w, L ls a w → wpAny P .any ops Q g ls a w) :
    ∀ (f : Nat) (ls : Array Bool) (a : Act) (w : World), HdG P ops Q S n L f ls a w → wpAny P .any ops Q (f + g) ls a w
  | 0, ls, a, w, h => by rw [Nat.zero_add]; exact hL ls a w h
  | f + 1, ls, a, w, h => by
    rw [show f + 1 + g = (f + g) + 1 by omega]
    exact ⟨fun h0 => absurd h0 h.1, fun i hi => wpOp_mono (fun a' w' h' => HdG.any hL f _ a' w' h'.2) (h.2 i hi).2⟩
def wallB (ops : Array Oper) (n : Nat) : Prop := ops.size ≤ n ∨ (n < ops.size ∧ Region.sinkB .any ops n = true ∧ chainW ops n = true)
theorem wall_lt {ops : Array Oper} {n : Nat} (hn : wallB ops n) {ls : Array Bool} (inv : HeadInv .any ops n ls) {i : Nat} (hin : i < n) (hun : ls.getD i true = false) {j : Nat} (hj : j ∈ Region.ready .any ops ls) : j < n := by
  rcases hn with h | ⟨h1, h2, h3⟩
  · obtain ⟨_, oj, hoj, _⟩ := mem_ready.1 hj
    have := (Array.getElem?_eq_some_iff.1 hoj).1
    omega
  · exact Nat.lt_of_not_le fun c => tail_waitsW h2 h3 h1 inv _ i rfl hin hun j c hj
theorem HdG.take {P : Program} {ops : Array Oper} {Q : Exit → Act → World → Prop} {S : World → Prop} {n i : Nat} {oi : Oper} {v : Value} {L : Array Bool → Act → World → Prop} (hi : ops[i]? = some oi) (hsel : Region.noSelect ops = true) (hn : wallB ops n) (hin : i < n)
    (hQ : ∀ c a w, Q (.panic c) (a.put oi.dst v) w → Q (.panic c) a w) (hdone : ∀ ls a w, L ls a w → ∀ j ∈ Region.ready .any ops ls, n ≤ j) :
    ∀ (f : Nat) (ls : Array Bool) (a : Act) (w : World), HeadInv .any ops n ls →
      (∀ j oj, ops[j]? = some oj → j ≠ i → ls.getD j true = false → (∀ e ∈ oj.after, Region.binds .any e = true → e.on ≠ i) → oi.apart ops oj = true) →
      i ∈ Region.ready .any ops ls → YieldsIf P ops S oi v a → S w → HdG P ops Q S n L f (ls.setIfInBounds i true) (a.put oi.dst v) w → HdG P ops Q S n L (f + 1) ls a w := by
  have sel := Region.noSelect_spec hsel
  intro f
  induction f with
  | zero =>
    intro ls a w inv _ hr hy hS H
    have hun := (mem_ready.1 hr).1
    refine ⟨List.ne_nil_of_mem hr, fun j hj => ?_⟩
    have hjn := wall_lt hn inv hin hun hj
    refine ⟨hjn, ?_⟩
    by_cases hji : j = i
    · subst hji; exact hy.wpOp hi hS ⟨hS, H⟩
    · have := hdone _ _ _ H j (ready_mono hj hji)
      omega
  | succ f ih =>
    intro ls a w inv hfree hr hy hS H
    have hun := (mem_ready.1 hr).1
    refine ⟨List.ne_nil_of_mem hr, fun j hj => ?_⟩
    have hjn := wall_lt hn inv hin hun hj
    refine ⟨hjn, ?_⟩
    by_cases hji : j = i
    · subst hji; exact hy.wpOp hi hS ⟨hS, H⟩
    · have h1 := (H.2 j (ready_mono hj hji)).2
      obtain ⟨hjun, oj, hoj, hall⟩ := mem_ready.1 hj
      have hnot : ∀ e ∈ oj.after, Region.binds .any e = true → e.on ≠ i := by
        intro e he hb heq
        have h3 := hall e he hb
        rw [heq, getD_both hun] at h3
        cases h3
      have h2 := wpOp_putIf hoj (hfree j oj hoj hji hjun hnot) (fun cs b => sel i oi cs b hi) (fun cs b => sel j oj cs b hoj) hQ hy h1
      refine wpOp_mono (fun a' w' h3 => ⟨h3.2.1, ih (ls.setIfInBounds j true) a' w' (inv.set hj hjn) ?_ (ready_mono hr (Ne.symm hji)) h3.1 h3.2.1 ?_⟩) h2
      · intro k ok hk hki hunk hno
        refine hfree k ok hk hki ?_ hno
        by_cases hjk : j = k
        · subst hjk; exact hjun
        · rw [getD_set_ne true hjk] at hunk; exact hunk
      · rw [Array.setIfInBounds_comm _ _ hji]
        exact h3.2.2

/-- as opS; what is read stands in the memory at the group's start -/
def opT (G : Gl) (hs : List HP) (o : Oper) (st : St) (K : St → Prop) : Prop :=
  match o.op with
  | .load t x => ev st x False fun vx => match vx with
    | .v (.pointer (some ad)) => stp st fun st => LoadAt G t ad { st with h := hs } fun r => putK G st o.dst r none K
    | _ => q1 G.P G.tr st o False fun r q => putK G st o.dst r q K
  | _ => q1 G.P G.tr st o False fun r q => putK G st o.dst r q K
def TakeT (G : Gl) (hs : List HP) (o : Oper) (st : St) (K : St → Prop) : Prop :=
  st.c ∧ ∀ ρ a w0, Tm G st ρ a → Mem G { st with h := hs } ρ w0 → ∃ v st', K st' ∧ SameM st st' ∧ (∀ w, Mem G { st with h := hs } ρ w → (execOp a.eval o).run G.P w = .ok (.value v) w) ∧ Tm G st' ρ (a.put o.dst v)
theorem take_q1 {G : Gl} {hs : List HP} {o : Oper} {st : St} {K : St → Prop} (hK : Good K) (h : q1 G.P G.tr st o False fun r q => putK G st o.dst r q K) : TakeT G hs o st K := by
  rcases q1_sound h with h | ⟨x, q, h, hy⟩
  · exact h.elim
  · obtain ⟨⟨hc, hq⟩, hp⟩ := putK_same h hK
    refine ⟨hc, fun ρ a w0 m mm0 => ?_⟩
    have hy := hy hq
    obtain ⟨v, e1, e2⟩ := hy G ρ a w0 m mm0.ob
    obtain ⟨st', k, hs, m'⟩ := hp ρ a v e1 m
    refine ⟨v, st', k, hs, fun w' mm' => ?_, m'⟩
    obtain ⟨v', e3, e4⟩ := hy G ρ a w' m mm'.ob
    rw [e1] at e3
    injection e3 with e3
    subst e3
    exact e4
theorem opT_sound {G : Gl} {hs : List HP} {o : Oper} {st : St} {K : St → Prop} (h : opT G hs o st K) (hK : Good K) : TakeT G hs o st K := by
  unfold opT at h
  split at h
  case h_1 t x ho =>
    rcases ev_sound h with h | ⟨sx, h, ex⟩
    · exact h.elim
    split at h
    · rename_i ad
      obtain ⟨hc, ⟨r, hr, h⟩⟩ := stp_iff.1 h
      refine ⟨hc, fun ρ a w0 m mm0 => ?_⟩
      obtain ⟨_, hp⟩ := putK_same h hK
      obtain ⟨st', k, hs, m'⟩ := hp ρ a r rfl (m.same rfl)
      refine ⟨r, st', k, hs, fun w mm => ?_, m'⟩
      have h1 := ex G ρ a m
      simp only [SV.den, Option.some.injEq] at h1
      simp [execOp, ho, ← h1, hr ρ w (mm.same rfl rfl rfl)]
    · exact take_q1 hK h
  case h_2 => exact take_q1 hK h

/-- what a group leaves as it was -/
def Kept (G : Gl) (st0 st : St) : Prop := (st.o = st0.o ∧ st.n = st0.n) ∧ ∀ h, sepL st.h G.R h → ∃ h', (∀ i o, h' i = some o → h i = some o) ∧ sepL st0.h G.R h'
def grpG (G : Gl) (all : List Oper) (kp : Bool) (st0 : St) : List Stp → St → (St → Prop) → Prop
  | [], st, K => K st
  | .T k :: r, st, K => match kp with
    | true => match all[k]? with
      | some o => opsG (opT G st0.h) G all [o] st fun st => grpG G all kp st0 r st K
      | none => False
    | false => False
  | .H k :: r, st, K => match all[k]? with
    | some o => match o.guard with
      | none => op1 G o st fun st => match kp with
        | true => stp st fun st => Kept G st0 st ∧ grpG G all kp st0 r st K
        | false => grpG G all kp st0 r st K
      | some _ => False
    | none => False
def hasT : List Stp → Bool
  | [] => false
  | .T _ :: _ => true
  | .H _ :: r => hasT r
def grpsG (G : Gl) (all : List Oper) : List (List Stp × Nat) → St → (St → Prop) → Prop
  | [], st, K => stp st K
  | (g, _) :: r, st, K => grpG G all (hasT g) st g st fun st => grpsG G all r st K

theorem optT_good {G : Gl} {hs : List HP} {all : List Oper} {o : Oper} {F : St → Prop} (hF : Good F) : Good fun st => opsG (opT G hs) G all [o] st F := by
  intro st h
  unfold opsG at h
  have e : ∀ st, opsG (opT G hs) G all [] st F = F st := fun st => rfl
  simp only [e] at h
  split at h
  · exact (opT_sound h hF).1
  · rename_i j want hg
    split at h
    · split at h
      · split at h
        · split at h
          · exact (opT_sound h hF).1
          · exact (putK_same h hF).1.1
        · rename_i b hx
          by_cases hb : b = want
          · exact (opT_sound (h.1 hb) hF).1
          · exact (putK_same (h.2 (by cases b <;> cases want <;> simp_all)) hF).1.1
        · exact (putK_same h hF).1.1
        · exact h.elim
      · exact h.elim
    · exact h.elim
theorem takeG {G : Gl} {hs : List HP} {all : List Oper} {o : Oper} {st : St} {F : St → Prop} (h : opsG (opT G hs) G all [o] st F) (hF : Good F) {ρ : List Nat} {a : Act} {w0 : World} (m : Tm G st ρ a) (mm : Mem G { st with h := hs } ρ w0) :
    ∃ v st', F st' ∧ SameM st st' ∧ Tm G st' ρ (a.put o.dst v) ∧ YieldsIf G.P all.toArray (Mem G { st with h := hs } ρ) o v a := by
  unfold opsG at h
  have e : ∀ st, opsG (opT G hs) G all [] st F = F st := fun st => rfl
  simp only [e] at h
  have yes : ∀ st1 : St, SameM st st1 → Tm G st1 ρ a → opT G hs o st1 F → Region.wanted o (yielded all.toArray a.tmps) = true → ∃ v st', F st' ∧ SameM st st' ∧ Tm G st' ρ (a.put o.dst v) ∧ YieldsIf G.P all.toArray (Mem G { st with h := hs } ρ) o v a := by
    intro st1 s1 m1 h hwt
    obtain ⟨_, hq⟩ := opT_sound h hF
    have sx : SameM { st with h := hs } { st1 with h := hs } := ⟨s1.1, s1.2.1, rfl⟩
    obtain ⟨v, st', k', s2, hr', m'⟩ := hq ρ a w0 m1 (sx.mem.2 mm)
    exact ⟨v, st', k', ⟨s2.1.trans s1.1, s2.2.1.trans s1.2.1, s2.2.2.trans s1.2.2⟩, m', .inl ⟨hwt, fun w hw => hr' w (sx.mem.2 hw)⟩⟩
  have no : ∀ st1 : St, SameM st st1 → Tm G st1 ρ a → putK G st1 o.dst (.v undef) none F → Region.wanted o (yielded all.toArray a.tmps) = false → ∃ v st', F st' ∧ SameM st st' ∧ Tm G st' ρ (a.put o.dst v) ∧ YieldsIf G.P all.toArray (Mem G { st with h := hs } ρ) o v a := by
    intro st1 s1 m1 h hwt
    obtain ⟨_, hp⟩ := putK_same h hF
    obtain ⟨st', k', s2, m'⟩ := hp ρ a undef rfl m1
    exact ⟨undef, st', k', ⟨s2.1.trans s1.1, s2.2.1.trans s1.2.1, s2.2.2.trans s1.2.2⟩, m', .inr ⟨hwt, rfl⟩⟩
  split at h
  · rename_i hg
    exact yes st ⟨rfl, rfl, rfl⟩ m h (wanted_none hg _)
  · rename_i j want hg
    split at h
    · rename_i oj hj
      split at h
      · rename_i t ht
        split at h
        · rename_i b hx
          split at h
          · rename_i hb
            exact yes st ⟨rfl, rfl, rfl⟩ m h (by rw [wanted_eq hg hj ht hx rfl m, hb])
          · rename_i hb
            exact no st ⟨rfl, rfl, rfl⟩ m h (by rw [wanted_eq hg hj ht hx rfl m, hb])
        · rename_i b hx
          by_cases hb : b = want
          · subst hb
            exact yes (seen st t b) ⟨rfl, rfl, rfl⟩ (seen_tm m hx) (h.1 rfl) (by rw [wanted_eq hg hj ht hx rfl m]; simp)
          · have hb' : b = !want := by cases b <;> cases want <;> simp_all
            subst hb'
            exact no (seen st t (!want)) ⟨rfl, rfl, rfl⟩ (seen_tm m hx) (h.2 rfl) (by rw [wanted_eq hg hj ht hx rfl m]; simp)
        · rename_i hx
          exact no st ⟨rfl, rfl, rfl⟩ m h (wanted_undef hg hj ht hx m)
        · exact h.elim
      · exact h.elim
    · exact h.elim

theorem grpG_good {G : Gl} {all : List Oper} {kp : Bool} {st0 : St} {K : St → Prop} (hK : Good K) : ∀ g : List Stp, Good fun st => grpG G all kp st0 g st K
  | [] => hK
  | .T k :: r => fun st h => by
    unfold grpG at h
    split at h
    · split at h
      · exact optT_good (grpG_good hK r) _ h
      · exact h.elim
    · exact h.elim
  | .H k :: r => fun st h => by
    unfold grpG at h
    split at h
    · split at h
      · refine (op1_sound h fun st h => ?_).1
        split at h
        · exact (stp_iff.1 h).1
        · exact grpG_good hK r _ h
      · exact h.elim
    · exact h.elim
theorem grpsG_good {G : Gl} {all : List Oper} {K : St → Prop} : ∀ gs : List (List Stp × Nat), Good fun st => grpsG G all gs st K
  | [] => good_stp
  | (g, n) :: r => fun st h => grpG_good (grpsG_good r) g _ h

theorem grp_sound {G : Gl} {all : List Oper} {Q : Exit → Act → World → Prop} {F : Array Bool → Bool} {K : St → Prop} {n : Nat} {kp : Bool} {st0 : St} {ρ0 : List Nat} (hx : ∀ e a w, PXE G e a w → Q e a w) (hsel : Region.noSelect all.toArray = true) (hQ : ∀ d v c a w, Q (.panic c) (Act.put a d v) w → Q (.panic c) a w) (hn : wallB all.toArray n) (hK : Good K) :
    ∀ (g : List Stp) (ls : Array Bool) (st : St) (ρ : List Nat) (a : Act) (w : World), HeadInv .any all.toArray n ls → stepsB all.toArray n F g ls = true → grpG G all kp st0 g st K → Tm G st ρ a → Mem G st ρ w → (kp = true → ρ = ρ0 ∧ st.o = st0.o ∧ st.n = st0.n ∧ Mem G st0 ρ0 w) →
      HdG G.P all.toArray Q (fun w => kp = true → Mem G st0 ρ0 w) n (fun ls a w => (F ls = true ∧ (Region.ready .any all.toArray ls).all (fun j => decide (n ≤ j)) = true) ∧ ∃ st ρ, K st ∧ Tm G st ρ a ∧ Mem G st ρ w) g.length ls a w
  | [], ls, st, ρ, a, w, inv, hB, h, m, mm, hk => by
    simp only [stepsB, Bool.and_eq_true] at hB
    exact ⟨hB, st, ρ, h, m, mm⟩
  | .T k :: r, ls, st, ρ, a, w, inv, hB, h, m, mm, hk => by
    simp only [stepsB, Bool.and_eq_true, decide_eq_true_eq] at hB
    obtain ⟨hkn, hr, hf, hB⟩ := hB
    unfold grpG at h
    split at h
    · rename_i hkp
      obtain ⟨rfl, ho, hnn, mm0⟩ := hk rfl
      split at h
      · rename_i o ho'
        have ho2 : all.toArray[k]? = some o := by simpa using ho'
        have hr' : k ∈ Region.ready .any all.toArray ls := by simpa using hr
        have sx : SameM st0 { st with h := st0.h } := ⟨ho, hnn, rfl⟩
        obtain ⟨v, st', k', s', m', hy⟩ := takeG h (grpG_good hK r) m (sx.mem.2 mm0)
        have hy' : YieldsIf G.P all.toArray (fun w => true = true → Mem G st0 ρ w) o v a := by
          rcases hy with ⟨h1, h2⟩ | h
          · exact .inl ⟨h1, fun w hw => h2 w (sx.mem.2 (hw rfl))⟩
          · exact .inr h
        refine HdG.take ho2 hsel hn hkn (fun c a w => hQ _ _ c a w) (fun ls a w hL j hj => ?_) r.length ls a w inv (Region.free_spec ho2 hf) hr' hy' (fun _ => mm0) ?_
        · have := List.all_eq_true.1 hL.1.2 j hj
          simpa using this
        · exact grp_sound hx hsel hQ hn hK r _ st' ρ _ w (inv.set hr' hkn) hB k' m' (s'.mem.2 mm) fun _ => ⟨rfl, s'.1.trans ho, s'.2.1.trans hnn, mm0⟩
      · exact h.elim
    · exact h.elim
  | .H k :: r, ls, st, ρ, a, w, inv, hB, h, m, mm, hk => by
    simp only [stepsB, Bool.and_eq_true, decide_eq_true_eq] at hB
    obtain ⟨hkn, hr, hB⟩ := hB
    unfold grpG at h
    split at h
    · rename_i o ho'
      have ho2 : all.toArray[k]? = some o := by simpa using ho'
      have hr' : k ∈ Region.ready .any all.toArray ls := by rw [hr]; simp
      split at h
      · rename_i hg
        refine ⟨List.ne_nil_of_mem hr', fun i hi => ?_⟩
        rw [hr] at hi
        have hik : i = k := by simpa using hi
        subst hik
        refine ⟨hkn, ?_⟩
        unfold wpOp
        simp only [ho2]
        rw [if_pos (wanted_none hg _)]
        left
        cases kp with
        | true =>
          have h : op1 G o st fun st => stp st fun st => Kept G st0 st ∧ grpG G all true st0 r st K := h
          refine Oper.wp_mono (fun a' w' ⟨st', ρ', k', m', mm', ex'⟩ => ?_) ((op1_soundX h good_stp).2 ρ a w Q hx m mm)
          obtain ⟨_, hkeep, k'⟩ := stp_iff.1 k'
          obtain ⟨rfl, ho, hnn, mm0⟩ := hk rfl
          obtain ⟨⟨e1, e2⟩, e3⟩ := hkeep
          have hρ : ρ' = ρ := by
            obtain ⟨q, rfl⟩ := ex'
            have l1 := mm'.len
            have l2 := mm0.len
            simp only at e2
            have : q = [] := by
              apply List.eq_nil_of_length_eq_zero
              simp only [List.length_append] at l1
              omega
            rw [this]; simp
          subst hρ
          have mm2 : Mem G st0 ρ' w' := by
            obtain ⟨m1, m2, m3, m4, m5, m6, mk, hh, m7, m8, m9⟩ := mm'
            simp only at e1 e2
            obtain ⟨h', s1, s2⟩ := e3 hh m8
            refine ⟨m1, by rw [← e2]; exact m2, m3, m4, by rw [← e1]; exact m5, by rw [← e1]; exact m6, mk, h', m7.mono s1, s2, fun x hx b hb => ?_⟩
            have := m9 x (by rw [e1]; exact hx) b hb
            cases e' : h' b with
            | none => rfl
            | some ob => rw [s1 b ob e'] at this; cases this
          exact ⟨fun _ => mm2, grp_sound hx hsel hQ hn hK r _ _ ρ' a' w' (inv.set hr' hkn) hB k' (m'.same rfl) (mm'.same rfl rfl rfl) fun _ => ⟨rfl, e1, e2, mm2⟩⟩
        | false =>
          have h : op1 G o st fun st => grpG G all false st0 r st K := h
          refine Oper.wp_mono (fun a' w' ⟨st', ρ', k', m', mm', ex'⟩ => ?_) ((op1_soundX h (grpG_good hK r)).2 ρ a w Q hx m mm)
          have key := grp_sound (kp := false) (st0 := st0) (ρ0 := ρ0) hx hsel hQ hn hK r _ st' ρ' a' w' (inv.set hr' hkn) hB k' m' mm' (fun c => by cases c)
          exact ⟨(fun c => by cases c), key⟩
      · exact h.elim
    · exact h.elim

theorem grps_sound {G : Gl} {all : List Oper} {Q : Exit → Act → World → Prop} {K : St → Prop} (hx : ∀ e a w, PXE G e a w → Q e a w) (hsel : Region.noSelect all.toArray = true) (hQ : ∀ d v c a w, Q (.panic c) (Act.put a d v) w → Q (.panic c) a w) (hend : ∀ st ρ a w, K st → Tm G st ρ a → Mem G st ρ w → Q .normal a w) :
    ∀ (gs : List (List Stp × Nat)) (ls : Array Bool) (st : St) (ρ : List Nat) (a : Act) (w : World), grpsB all.toArray gs ls = true → grpsG G all gs st K → Tm G st ρ a → Mem G st ρ w → wpAny G.P .any all.toArray Q (grpLen gs) ls a w
  | [], ls, st, ρ, a, w, hB, h, m, mm => by
    simp only [grpsB, decide_eq_true_eq] at hB
    exact ⟨hB, hend { st with c := True } ρ a w (stp_iff.1 h).2 (m.same rfl) (mm.same rfl rfl rfl)⟩
  | (g, n) :: r, ls, st, ρ, a, w, hB, h, m, mm => by
    simp only [grpsB, Bool.and_eq_true, Bool.or_eq_true, decide_eq_true_eq] at hB
    obtain ⟨hw, hh, hs⟩ := hB
    have key := grp_sound (F := fun ls' => grpsB all.toArray r ls') (kp := hasT g) (st0 := st) (ρ0 := ρ) hx hsel hQ hw (grpsG_good r) g ls st ρ a w (headW_spec hh) hs h m mm fun _ => ⟨rfl, rfl, rfl, mm⟩
    exact HdG.any (g := grpLen r) (fun ls' a' w' ⟨⟨hF, _⟩, st', ρ', k, m', mm'⟩ => grps_sound hx hsel hQ hend r ls' st' ρ' a' w' hF k m' mm') _ _ _ _ key
/-- a region that draws its order, by groups -/
theorem RegAt.groups {G : Gl} {id : Nat} {l : List Oper} {st : St} {K : St → Prop} (gs : List (List Stp × Nat)) (hm : G.P.follows .mixedOrders = true) (hB : groupsB l gs = true) (h : grpsG G l gs st K) : RegAt G id l.toArray st K := by
  simp only [groupsB, Bool.and_eq_true, decide_eq_true_eq] at hB
  obtain ⟨h1, h2, h3⟩ := hB
  refine .mk fun ρ a w m mm => ?_
  refine wp_region_any hm ?_
  have key := grps_sound (Q := fun e a' w' => (e = .normal ∧ ∃ st' ρ', K st' ∧ Tm G st' ρ' a' ∧ Mem G st' ρ' w') ∨ PXE G e a' w') (fun e a w hp => .inr hp) h1 (fun d v c a w hq => by rcases hq with ⟨hq, _⟩ | hq; cases hq; exact .inr hq.put) (fun st ρ a w k m mm => .inl ⟨rfl, st, ρ, k, m, mm⟩) gs _ st ρ a _ h3 h m mm.drew
  rw [h2] at key
  simpa using key
end Sy
end Go.Proofs.YtgdbdebieghnkaaGreat

/-
  Symbolic runs: stores into parts of the heap, rows that are made, calls through an interface, loads of whole structs.
-/
namespace Go.Proofs.YtgdbdebieghnkaaGreat
open Go.RowKit
namespace Sy
set_option linter.unusedVariables false
set_option linter.unusedSimpArgs false

/-- a call whose function the model finds by itself -/
theorem OpAt.enter {G : Gl} {o : Oper} {st : St} {K : St → Prop} {pre : List HP} {post : Value → List HP → Prop} (f : FuncId) (args : List Value) (rest : List HP) (hp : ∀ h, sepL st.h G.R h → sepL (pre ++ rest) G.R h) (hsel : notSel o.op = true) (hr : allR st o.op.operands.toList = true)
    (hrun : ∀ w, (execOp (evR st) o).run G.P w = .ok (.enter f args.toArray) w)
    (hf : ∀ R', (∀ w, Sat R' w → Sat (sepL rest G.R) w) → FnR G.P R' f args pre post) (k : ∀ v hs, post v hs → putK G { st with h := hs ++ rest } o.dst (.v v) none K) : OpAt G o st K := by
  refine .mk fun ρ a w m mm => ?_
  obtain ⟨h, h1, h2, h3, h4⟩ := mem_split mm
  have h2 := hp h h2
  rw [sepL_append] at h2
  have hc : execOp a.eval o = execOp (evR st) o := execOp_congr o (fun cs b => notSel_spec hsel cs b) fun x hx => allR_sound m hr x (by simpa using hx)
  unfold Oper.wp
  rw [hc, hrun]
  refine (hf (plus (obj st ρ w) (sepL rest G.R)) ?_ w ⟨_, h4.un h1, plus_in h3 h2⟩).mono ?_
  · rintro w' ⟨g, g1, ⟨g2, d, rfl, s⟩⟩
    exact ⟨g2, g1.right d, s⟩
  · rintro e w' ⟨v, hs, rfl, hv, ⟨g, g1, s⟩, hw⟩
    have mm' : Mem G { st with h := hs ++ rest } ρ w' := by
      refine mem_join mm hw g1 ?_
      have := plus_out s
      rwa [sepL_append]
    obtain ⟨st', k', m', mm2⟩ := putK_go (k v hs hv) (ρ := ρ) (v := v) rfl (m.same rfl) mm'
    exact ⟨st', ρ, k', m', mm2, Ext.refl _⟩
theorem OpAt.enterP {G : Gl} {o : Oper} {st : St} {K : St → Prop} (f : FuncId) (args : List Value) (v : Value) (hsel : notSel o.op = true) (hr : allR st o.op.operands.toList = true) (hrun : ∀ w, (execOp (evR st) o).run G.P w = .ok (.enter f args.toArray) w)
    (hf : ∀ R', (∀ w, Sat R' w → Sat (sepL st.h G.R) w) → PureR G.P R' f args v) (k : putK G st o.dst (.v v) none K) : OpAt G o st K := by
  refine OpAt.enter f args (pre := []) st.h (fun h s => s) hsel hr hrun hf ?_
  rintro r hs ⟨rfl, rfl⟩
  exact k
/-- an operation whose value the model's own text gives -/
theorem OpAt.val {G : Gl} {o : Oper} {st : St} {K : St → Prop} (v : Value) (hsel : notSel o.op = true) (hr : allR st o.op.operands.toList = true) (hrun : ∀ w, Sat (sepL st.h G.R) w → (execOp (evR st) o).run G.P w = .ok (.value v) w) (k : putK G st o.dst (.v v) none K) : OpAt G o st K := by
  refine .mk fun ρ a w m mm => ?_
  have hc : execOp a.eval o = execOp (evR st) o := execOp_congr o (fun cs b => notSel_spec hsel cs b) fun x hx => allR_sound m hr x (by simpa using hx)
  obtain ⟨st', k', m', mm2⟩ := putK_go k (ρ := ρ) (v := v) rfl m mm
  unfold Oper.wp
  rw [hc, hrun w mm.sat]
  exact ⟨st', ρ, k', m', mm2, Ext.refl _⟩
/-- a struct read whole -/
theorem LoadAt.agg {G : Gl} {st : St} {K : SV → Prop} {t : TypeId} {b off : Nat} {d : TypeDesc} (vs : List Value) (hu : G.P.underlying t = some d) (hd : d.isRow = true) (hi : (G.P.info? t).map (·.size) = some vs.length)
    (h : ∀ w, Sat (sepL st.h G.R) w → ∀ (j : Nat) (v : Value), vs[j]? = some v → w.cell? ⟨b, off + j, none⟩ = some v) (k : K (.v (.agg vs.toArray))) : LoadAt G t ⟨b, off, none⟩ st K :=
  .mk _ (fun ρ w m => run_loadAt_mid w b off t vs d (fun j v hv => h w m.sat j v hv) hu hd hi) k

/-- cells put in place of others -/
def putL (xs : List Value) (off : Nat) (ys : List Value) : List Value := xs.take off ++ ys ++ xs.drop (off + ys.length)
theorem putL_len {xs ys : List Value} {off : Nat} (h : off + ys.length ≤ xs.length) : (putL xs off ys).length = xs.length := by simp [putL]; omega
theorem putL_get {xs ys : List Value} {off : Nat} (h : off + ys.length ≤ xs.length) (k : Nat) : (putL xs off ys)[k]? = if off ≤ k ∧ k < off + ys.length then ys[k - off]? else xs[k]? := by
  unfold putL
  by_cases c : k < off
  · rw [List.append_assoc, List.getElem?_append_left (by simp; omega), List.getElem?_take_of_lt c, if_neg (by omega)]
  · by_cases c2 : k < off + ys.length
    · rw [List.append_assoc, List.getElem?_append_right (by simp; omega), List.getElem?_append_left (by simp; omega), if_pos ⟨by omega, c2⟩]
      congr 1
      simp; omega
    · rw [List.getElem?_append_right (by simp; omega), List.getElem?_drop, if_neg (by omega)]
      congr 1
      simp; omega

/-- a cell, or some, of a part of the heap written -/
theorem OpAt.store {G : Gl} {o : Oper} {st : St} {K : St → Prop} {t : TypeId} {x y : Operand} {A A' : HP} {i : TypeInfo} (b off : Nat) (v : Value) (rest : List HP) (ho : o.op = .store t x y) (hp : ∀ h, sepL st.h G.R h → sepL (A :: rest) G.R h) (hx : evR st x = .pointer (some ⟨b, off, none⟩)) (hy : evR st y = v)
    (hr : allR st o.op.operands.toList = true) (hi : G.P.info? t = some i) (hsz : v.cells.size = i.size) (h1 : ∀ u ∈ v.cells.toList, u.oneCell' = true)
    (hA : ∀ h, A h → ∃ ty cs, h b = some (.cells cs ty (0, 0)) ∧ off + v.cells.size ≤ cs.size ∧ A' fun j => if j = b then some (.cells (putL cs.toList off v.cells.toList).toArray ty (0, 0)) else h j)
    (k : putK G { st with h := A' :: rest } o.dst (.v undef) none K) : OpAt G o st K := by
  refine .mk fun ρ a w m mm => ?_
  obtain ⟨h, s1, s2, d0, s3⟩ := mem_split mm
  obtain ⟨g1, g2, d, rfl, a1, a2⟩ := hp h s2
  obtain ⟨ty, cs, hb, hoff, hA'⟩ := hA g1 a1
  have hc : execOp a.eval o = execOp (evR st) o := execOp_congr o (fun cs b => notSel_spec (by rw [ho]; rfl) cs b) fun x hx => allR_sound m hr x (by simpa using hx)
  have hwb : w.heap[b]? = some (.cells cs ty (0, 0)) := s1.left b _ hb
  have hg2 : g2 b = none := by
    rcases d b with e | e
    · rw [hb] at e; cases e
    · exact e
  have hob : obj st ρ w b = none := by
    rcases d0 b with e | e
    · exact e
    · unfold un at e; rw [hb] at e; cases e
  have hrun := run_storeCells_at (P := G.P) b off ty v.cells.toList 0 cs w hwb (by simp; omega) h1
  simp only [Nat.add_zero] at hrun
  have hrun' : (execOp (evR st) o).run G.P w = .ok .skip (w.setRow b (putL cs.toList off v.cells.toList).toArray) := by
    simp only [execOp, ho, hx, hy, Instr.storeAt, Instr.sureAddr, storeVar, sizeOf, typeInfo, Sem.run_bind, Sem.run_pure, Result.andThen_ok]
    simp [hi, hsz, hrun, putL]
  generalize hW : w.setRow b (putL cs.toList off v.cells.toList).toArray = w' at hrun'
  have hh : w'.heap[b]? = some (.cells (putL cs.toList off v.cells.toList).toArray ty (0, 0)) := by rw [← hW]; exact setRow_heap w b cs _ ty (0, 0) hwb
  have hne : ∀ j, j ≠ b → w'.heap[j]? = w.heap[j]? := fun j hj => by
    rw [← hW]
    simp only [World.setRow, Array.getElem?_modify]
    rw [if_neg (fun e => hj e.symm)]
  have hwd : Wd w w' := by
    rw [← hW]
    exact ⟨rfl, rfl, rfl, by simp [World.setRow]⟩
  have old : ∀ {g : Hl}, g b = none → Sub g w → Sub g w' := fun {g} hgb s j ob e => by
    have : j ≠ b := fun c => by subst c; rw [hgb] at e; cases e
    rw [hne j this]; exact s j ob e
  generalize hq : (fun j => if j = b then some (Obj.cells (putL cs.toList off v.cells.toList).toArray ty (0, 0)) else g1 j) = g1' at hA'
  have dom : ∀ j, g1' j = none ↔ g1 j = none := fun j => by
    rw [← hq]
    simp only
    by_cases c : j = b
    · subst c; simp [hb]
    · simp [c]
  have sub1 : Sub g1' w' := fun j ob e => by
    rw [← hq] at e
    simp only at e
    by_cases c : j = b
    · subst c; rw [if_pos rfl] at e; rw [← e]; exact hh
    · rw [if_neg c] at e; rw [hne j c]; exact s1.left j ob e
  have mm' : Mem G { st with h := A' :: rest } ρ w' := by
    refine mem_join (g := un (obj st ρ w) (un g1' g2)) mm hwd ((old hob s3).un (sub1.un (old hg2 (s1.right d)))) ⟨un g1' g2, fun j => ?_, rfl, g1', g2, fun j => ?_, rfl, hA', a2⟩
    · rcases d0 j with e | e
      · exact .inl e
      · exact .inr (un_none.2 ⟨(dom j).2 (un_none.1 e).1, (un_none.1 e).2⟩)
    · rcases d j with e | e
      · exact .inl ((dom j).2 e)
      · exact .inr e
  obtain ⟨st', k', m', mm2⟩ := putK_go k (ρ := ρ) (v := undef) rfl (m.same rfl) mm'
  unfold Oper.wp
  rw [hc, hrun']
  exact ⟨st', ρ, k', m', mm2, Ext.refl _⟩
/-- into a row -/
theorem row_put {g n cap size off : Nat} {e : TypeId} {xs ys : List Value} (h : off + ys.length ≤ n * size) {hl : Hl} (r : rowH (.slice (some ⟨g, 0, none⟩) n cap) n e size xs hl) :
    ∃ ty cs, hl g = some (.cells cs ty (0, 0)) ∧ off + ys.length ≤ cs.size ∧ rowH (.slice (some ⟨g, 0, none⟩) n cap) n e size (putL xs off ys) fun j => if j = g then some (.cells (putL cs.toList off ys).toArray ty (0, 0)) else hl j := by
  obtain ⟨hx, r⟩ := r
  rcases r with ⟨c, _⟩ | ⟨g', cap', cur, h1, h2, h3, h4, h5, h6⟩
  · cases c
  injection h1 with e1 e2 e3
  injection e1 with e1
  injection e1 with e1
  subst e1 e3
  have hcur : n * size ≤ cur.size := by rw [h5]; exact Nat.mul_le_mul_right _ h3
  refine ⟨e, cur, by rw [h2]; simp, by omega, by rw [putL_len (by omega)]; exact hx, .inr ⟨g, cap, (putL cur.toList off ys).toArray, rfl, fun j => ?_, h3, h4, ?_, ?_⟩⟩
  · by_cases c : j = g
    · subst c; simp
    · simp [c, h2]
  · simp only [List.size_toArray]
    rw [putL_len (by simp; omega)]
    simpa using h5
  · apply List.ext_getElem?
    intro k
    simp only [List.toList_toArray]
    rw [List.getElem?_take]
    by_cases c : k < n * size
    · rw [if_pos c, putL_get (by simp; omega), putL_get (by omega)]
      split
      · rfl
      · rw [← h6, List.getElem?_take_of_lt c]
    · rw [if_neg c, List.getElem?_eq_none]
      rw [putL_len (by omega)]; omega

/-- a row that is made -/
theorem OpAt.make {G : Gl} {o : Oper} {st : St} {K : St → Prop} {t e : TypeId} {x y : Operand} {i : TypeInfo} {z : Value} (n size : Nat) (zs : List Value) (ho : o.op = .makeSlice t x y) (hx : evR st x = .int .i64 (n : Int)) (hy : evR st y = .int .i64 (n : Int)) (hr : allR st o.op.operands.toList = true)
    (hu : G.P.underlying t = some (.slice e)) (hi : G.P.info? e = some i) (hz : i.zero = some z) (hsize : i.size = size) (hzs : (madeCells z.cells (n * size)).toList = zs) (hby : i.bytes * n ≤ 281474976710656) (hmax : n ≤ maxLen)
    (k : ∀ g, putK G { st with h := rowH (.slice (some ⟨g, 0, none⟩) n n) n e size zs :: st.h } o.dst (.v (.slice (some ⟨g, 0, none⟩) n n)) none K) : OpAt G o st K := by
  refine OpAt.sem (pre := []) (post := fun v hs => ∃ g, v = .slice (some ⟨g, 0, none⟩) n n ∧ hs = [rowH (.slice (some ⟨g, 0, none⟩) n n) n e size zs]) st.h (fun h s => s) (by rw [ho]; rfl) hr ?_ ?_
  · intro R' _ w s
    have hm := hmax
    simp only [maxLen] at hm
    have hrun := run_make w t e i z hu hi hz .i64 .i64 (n : Int) (n : Int) (by omega) (by omega) (by rw [← Int.natCast_mul]; omega) (by omega) (P := G.P)
    simp only [Int.toNat_natCast, hsize] at hrun
    have hlen : zs.length = n * size := by rw [← hzs]; simp [size_madeCells]
    refine ⟨_, _, w.alloc (.cells (madeCells z.cells (n * size)) e), ?_, ⟨w.heap.size, rfl, rfl⟩, ?_, .of_below ((Below.refl _ _).alloc (Nat.le_refl _) _)⟩
    · simp only [execOp, ho, hx, hy, hrun, Sem.run_bind, Result.andThen_ok, Sem.run_pure, Sem.run_map]
      try rfl
    · refine sat_row s ((Below.refl _ _).alloc (Nat.le_refl _) _) ⟨hlen, .inr ⟨_, n, madeCells z.cells (n * size), rfl, Nat.le_refl _, heap_alloc_new w _, Nat.le_refl _, hmax, size_madeCells _ _, ?_⟩⟩
      rw [hzs, List.take_of_length_le (by omega)]
  · rintro v hs ⟨g, rfl, rfl⟩
    exact k g
theorem made_const {z : Array Value} {v : Value} (h : ∀ i, i < z.size → z[i]! = v) (h0 : 0 < z.size) (n : Nat) : (madeCells z n).toList = List.replicate n v := by
  apply List.ext_getElem?
  intro k
  simp only [madeCells, Array.toList_map, Array.toList_range, List.getElem?_map]
  rw [List.getElem?_replicate]
  by_cases c : k < n
  · rw [if_pos c, List.getElem?_range c]
    simp [h _ (Nat.mod_lt _ h0)]
  · rw [if_neg c, List.getElem?_eq_none (by simp; omega)]
    rfl
/-- the world as it was -/
def was (w : World) : HP := fun g => g = fun i => w.heap[i]?
theorem was_ext {w w' : World} (s : Sat (was w) w') {i : Nat} {o : Obj} (h : w.heap[i]? = some o) : w'.heap[i]? = some o := by
  obtain ⟨g, g1, rfl⟩ := s
  exact g1 i o h
theorem was_blk {w w' : World} (s : Sat (was w) w') {b : Nat} {t : TypeId} {cs : Array Value} (h : Blk w b t cs) : Blk w' b t cs := was_ext s h
theorem sepL_shrink {A R : HP} (hA : ∀ h0, A h0 → ∃ g : Hl, (∀ i o, g i = some o → h0 i = some o) ∧ R g) : ∀ {l : List HP} {h : Hl}, sepL l A h → ∃ h' : Hl, (∀ i o, h' i = some o → h i = some o) ∧ sepL l R h'
  | [], h, s => hA h s
  | B :: l, h, s => by
    obtain ⟨h1, h2, d, rfl, b, s⟩ := s
    obtain ⟨h', e, s'⟩ := sepL_shrink hA s
    refine ⟨un h1 h', fun i o hi => ?_, h1, h', fun i => ?_, rfl, b, s'⟩
    · unfold un at hi ⊢
      rcases d i with c | c
      · rw [c] at hi ⊢; simp only [Option.none_or] at hi ⊢; exact e i o hi
      · cases hh : h' i with
        | none => rw [hh] at hi; simp only [Option.or_none] at hi; rw [hi]; rfl
        | some x => rw [e i x hh] at c; cases c
    · rcases d i with c | c
      · exact .inl c
      · right
        cases hh : h' i with
        | none => rfl
        | some x => rw [e i x hh] at c; cases c
/-- what is read may be read in one world alone -/
theorem FnR.fix {P : Program} {R : HP} {f : FuncId} {args : List Value} {post : Value → List HP → Prop} (h : ∀ w, Sat R w → FnR P (was w) f args [] post) : FnR P R f args [] post := by
  intro w hs
  refine (h w hs w ⟨_, fun i o e => e, rfl⟩).mono ?_
  rintro e w' ⟨v, hs', rfl, hv, ⟨g, g1, g2⟩, hw⟩
  obtain ⟨g0, s0, r0⟩ := hs
  obtain ⟨h', e', s'⟩ := sepL_shrink (R := R) (fun h0 hh => by
    have hh : h0 = fun i => w.heap[i]? := hh
    subst hh
    exact ⟨g0, s0, r0⟩) g2
  exact ⟨v, hs', rfl, hv, ⟨h', g1.mono e', s'⟩, hw⟩
theorem PureR.fix {P : Program} {R : HP} {f : FuncId} {args : List Value} {v : Value} (h : ∀ w, Sat R w → PureR P (was w) f args v) : PureR P R f args v := FnR.fix h
end Sy
end Go.Proofs.YtgdbdebieghnkaaGreat

/-
  Symbolic runs: regions by groups that keep only what is read; parts of the heap that are made of parts.
-/
namespace Go.Proofs.YtgdbdebieghnkaaGreat
open Go.RowKit
namespace Sy
set_option linter.unusedVariables false
set_option linter.unusedSimpArgs false

theorem sub_nil {R : HP} : ∀ {l : List HP} {h : Hl}, sepL l R h → ∃ h' : Hl, (∀ i o, h' i = some o → h i = some o) ∧ sepL [] R h'
  | [], h, s => ⟨h, fun _ _ e => e, s⟩
  | A :: l, h, s => by
    obtain ⟨h1, e1, s1⟩ := sub_tail s
    obtain ⟨h2, e2, s2⟩ := sub_nil s1
    exact ⟨h2, fun i o e => e1 i o (e2 i o e), s2⟩
/-- groups that keep the objects, and what is only read -/
def grpsG0 (G : Gl) (all : List Oper) : List (List Stp × Nat) → St → (St → Prop) → Prop
  | [], st, K => stp st K
  | (g, _) :: r, st, K => grpG G all (hasT g) { st with h := [] } g st fun st => grpsG0 G all r st K
theorem grpsG0_good {G : Gl} {all : List Oper} {K : St → Prop} : ∀ gs : List (List Stp × Nat), Good fun st => grpsG0 G all gs st K
  | [] => good_stp
  | (g, n) :: r => fun st h => grpG_good (grpsG0_good r) g _ h
theorem mem_nil {G : Gl} {st : St} {ρ : List Nat} {w : World} (m : Mem G st ρ w) : Mem G { st with h := [] } ρ w := by
  obtain ⟨m1, m2, m3, m4, m5, m6, mk, hh, m7, m8, m9⟩ := m
  obtain ⟨h', e, s⟩ := sub_nil m8
  refine ⟨m1, m2, m3, m4, m5, m6, mk, h', m7.mono e, s, fun x hx b hb => ?_⟩
  have := m9 x hx b hb
  cases c : h' b with
  | none => rfl
  | some o => rw [e b o c] at this; cases this
theorem grps0_sound {G : Gl} {all : List Oper} {Q : Exit → Act → World → Prop} {K : St → Prop} (hx : ∀ e a w, PXE G e a w → Q e a w) (hsel : Region.noSelect all.toArray = true) (hQ : ∀ d v c a w, Q (.panic c) (Act.put a d v) w → Q (.panic c) a w) (hend : ∀ st ρ a w, K st → Tm G st ρ a → Mem G st ρ w → Q .normal a w) :
    ∀ (gs : List (List Stp × Nat)) (ls : Array Bool) (st : St) (ρ : List Nat) (a : Act) (w : World), grpsB all.toArray gs ls = true → grpsG0 G all gs st K → Tm G st ρ a → Mem G st ρ w → wpAny G.P .any all.toArray Q (grpLen gs) ls a w
  | [], ls, st, ρ, a, w, hB, h, m, mm => by
    simp only [grpsB, decide_eq_true_eq] at hB
    exact ⟨hB, hend { st with c := True } ρ a w (stp_iff.1 h).2 (m.same rfl) (mm.same rfl rfl rfl)⟩
  | (g, n) :: r, ls, st, ρ, a, w, hB, h, m, mm => by
    simp only [grpsB, Bool.and_eq_true, Bool.or_eq_true, decide_eq_true_eq] at hB
    obtain ⟨hw, hh, hs⟩ := hB
    have key := grp_sound (F := fun ls' => grpsB all.toArray r ls') (kp := hasT g) (st0 := { st with h := [] }) (ρ0 := ρ) hx hsel hQ hw (grpsG0_good r) g ls st ρ a w (headW_spec hh) hs h m mm fun _ => ⟨rfl, rfl, rfl, mem_nil mm⟩
    exact HdG.any (g := grpLen r) (fun ls' a' w' ⟨⟨hF, _⟩, st', ρ', k, m', mm'⟩ => grps0_sound hx hsel hQ hend r ls' st' ρ' a' w' hF k m' mm') _ _ _ _ key
theorem RegAt.groups0 {G : Gl} {id : Nat} {l : List Oper} {st : St} {K : St → Prop} (gs : List (List Stp × Nat)) (hm : G.P.follows .mixedOrders = true) (hB : groupsB l gs = true) (h : grpsG0 G l gs st K) : RegAt G id l.toArray st K := by
  simp only [groupsB, Bool.and_eq_true, decide_eq_true_eq] at hB
  obtain ⟨h1, h2, h3⟩ := hB
  refine .mk fun ρ a w m mm => ?_
  refine wp_region_any hm ?_
  have key := grps0_sound (Q := fun e a' w' => (e = .normal ∧ ∃ st' ρ', K st' ∧ Tm G st' ρ' a' ∧ Mem G st' ρ' w') ∨ PXE G e a' w') (fun e a w hp => .inr hp) h1 (fun d v c a w hq => by rcases hq with ⟨hq, _⟩ | hq; cases hq; exact .inr hq.put) (fun st ρ a w k m mm => .inl ⟨rfl, st, ρ, k, m, mm⟩) gs _ st ρ a _ h3 h m mm.drew
  rw [h2] at key
  simpa using key
/-- nothing -/
def emp : HP := fun h => ∀ i, h i = none
theorem emp_un {h g : Hl} (e : ∀ i, h i = none) : un h g = g := by funext i; simp [un, e i]
theorem sepL_emp {R : HP} : ∀ {l : List HP} {h1 h2 : Hl}, sepL l emp h1 → Dj h1 h2 → R h2 → sepL l R (un h1 h2)
  | [], h1, h2, e, _, r => by rw [emp_un e]; exact r
  | A :: l, h1, h2, s, d, r => by
    obtain ⟨a1, a2, d', rfl, a, s⟩ := s
    obtain ⟨d1, d2⟩ := d.un_left
    exact ⟨a1, un a2 h2, (Dj.un_of d'.symm d1.symm).symm, un_assoc _ _ _, a, sepL_emp s d2 r⟩
theorem emp_sepL {R : HP} : ∀ {l : List HP} {h : Hl}, sepL l R h → sep (sepL l emp) R h
  | [], h, r => ⟨fun _ => none, h, fun _ => .inl rfl, by rw [emp_un (fun _ => rfl)], fun _ => rfl, r⟩
  | A :: l, h, s => by
    obtain ⟨h1, h2, d, rfl, a, s⟩ := s
    obtain ⟨g1, g2, d2, rfl, s1, s2⟩ := emp_sepL s
    obtain ⟨d3, d4⟩ := d.symm.un_left
    exact ⟨un h1 g1, g2, Dj.un_of d4.symm d2, by rw [un_assoc], ⟨h1, g1, d3.symm, rfl, a, s1⟩, s2⟩
/-- a part that is some parts, laid out in some way -/
def boxH {α : Type} (parts : α → List HP) : HP := fun h => ∃ x, sepL (parts x) emp h
theorem boxH_open {α : Type} {parts : α → List HP} {l : List HP} {R : HP} {h : Hl} (s : sepL (boxH parts :: l) R h) : ∃ x, sepL (parts x ++ l) R h := by
  obtain ⟨h1, h2, d, rfl, ⟨x, a⟩, s⟩ := s
  refine ⟨x, ?_⟩
  rw [sepL_append]
  exact sepL_emp a d s
theorem boxH_shut {α : Type} {parts : α → List HP} (x : α) {l : List HP} {R : HP} {h : Hl} (s : sepL (parts x ++ l) R h) : sepL (boxH parts :: l) R h := by
  rw [sepL_append] at s
  obtain ⟨h1, h2, d, rfl, a, s⟩ := emp_sepL s
  exact ⟨h1, h2, d, rfl, ⟨x, a⟩, s⟩
theorem FnR.unbox {α : Type} {parts : α → List HP} {P : Program} {R : HP} {f : FuncId} {args : List Value} {l : List HP} {post : Value → List HP → Prop} (h : ∀ x, FnR P R f args (parts x ++ l) post) : FnR P R f args (boxH parts :: l) post := by
  rintro w ⟨g, g1, s⟩
  obtain ⟨x, s⟩ := boxH_open s
  exact h x w ⟨g, g1, s⟩
theorem Sat.unbox {α : Type} {parts : α → List HP} {w : World} (s : Sat (boxH parts) w) : ∃ x, Sat (sepL (parts x) emp) w := by
  obtain ⟨h, hs, x, s⟩ := s
  exact ⟨x, h, hs, s⟩
theorem OpAt.append1 {G : Gl} {o : Oper} {st : St} {K : St → Prop} {t e : TypeId} {s x : Operand} {i : TypeInfo} {z : Value} (v : Value) (n size bytes : Nat) (xs news : List Value) (A : Option Addr) (m c : Nat) (rest : List HP)
    (ho : o.op = .call { callee := .builtin .append, args := #[s, x], argTypes := #[t, t] }) (hp : ∀ h, sepL st.h G.R h → sepL (rowH v n e size xs :: rest) G.R h) (hs : evR st s = v) (hx : evR st x = .slice A m c) (hr : allR st o.op.operands.toList = true)
    (hu : G.P.underlying t = some (.slice e)) (hi : G.P.info? e = some i) (hz : i.zero = some z) (hsize : i.size = size) (hby : i.bytes = bytes) (hzs : z.cells.size = size) (hsz : 0 < size)
    (src : ∀ w, Sat (sepL rest G.R) w → Reads w w.heap.size size A m news) (h1 : ∀ u ∈ news, u.oneCell' = true) (h63 : n + m ≤ maxLen) (hbytes : (n + m) * bytes ≤ 140737488355328)
    (hpos : 0 < n + m) (k : ∀ g c', putK G { st with h := rowH (.slice (some ⟨g, 0, none⟩) (n + m) c') (n + m) e size (xs ++ news) :: rest } o.dst (.v (.slice (some ⟨g, 0, none⟩) (n + m) c')) none K) : OpAt G o st K := by
  refine OpAt.sem (pre := [rowH v n e size xs]) (post := fun v' hs => ∃ g c', v' = .slice (some ⟨g, 0, none⟩) (n + m) c' ∧ hs = [rowH (.slice (some ⟨g, 0, none⟩) (n + m) c') (n + m) e size (xs ++ news)]) rest hp (by rw [ho]; rfl) hr ?_ ?_
  · rintro R' hR' w ⟨h, hsub, h1', h2, d, rfl, hrow, hrest⟩
    have hown := rowH_own hrow hsub.left
    have hrd := src w (hR' w ⟨h2, hsub.right d, hrest⟩)
    obtain ⟨v', w', hrun, hown', hB, hg, hat⟩ := run_append_appl (P := G.P) w 0 t o.type e i z size bytes hu hi hz hsize hby hzs hsz v n xs (.inl hown) w.heap.size A m c news hrd h1 (.inr hown) h63 hbytes (Nat.zero_le _)
    obtain ⟨A', c', rfl, _⟩ := own_shape' hown'
    obtain ⟨g0, rfl⟩ : ∃ g0, A' = some ⟨g0, 0, none⟩ := by
      rcases hown'.2 with ⟨h1, h2⟩ | ⟨g0, cap, cur, h1, _⟩
      · omega
      · injection h1 with h1; exact ⟨g0, h1⟩
    obtain ⟨h1'', r1, s1, dom⟩ := own_rowH hown'
    have s2 : Sub h2 w' := fun j ob e' => by
      have hj := hsub.right d j ob e'
      have hlt := (Array.getElem?_eq_some_iff.1 hj).1
      rw [hg.block j hlt ?_]
      · exact hj
      · intro c0
        rcases d j with c1 | c1
        · exact rowH_ne hrow c0.symm c1
        · rw [c1] at e'; cases e'
    refine ⟨_, _, w', ?_, ⟨g0, c', rfl, rfl⟩, ⟨_, s1.un s2, h1'', h2, fun j => ?_, rfl, r1, hrest⟩, ⟨hg.os, hg.tape, hg.output, hg.size⟩⟩
    · have ha : (#[s, x] : Array Operand).map (evR st) = #[v, .slice A m c] := by simp [hs, hx]
      simp only [execOp, ho, resolve, invoke, builtin, Sem.run_bind, Sem.run_pure, Result.andThen_ok, ha, hrun]
    · by_cases c0 : h1'' j = none
      · exact .inl c0
      · right
        have hj := (dom j c0).1
        rcases hat with hat | ⟨g, hat, hge⟩
        · rw [hat] at hj
          rcases d j with c1 | c1
          · exact absurd c1 (rowH_ne hrow hj)
          · exact c1
        · rw [hat] at hj
          injection hj with hj
          subst hj
          exact (hsub.right d).none hge
  · rintro v' hs' ⟨A', c', rfl, rfl⟩
    exact k A' c'

/-- a weaker word for what is left -/
theorem FnR.post {P : Program} {R : HP} {f : FuncId} {args : List Value} {pre : List HP} {p q : Value → List HP → Prop} (h : FnR P R f args pre p) (hq : ∀ v hs, p v hs → ∃ hs', q v hs' ∧ ∀ h, sepL hs R h → sepL hs' R h) : FnR P R f args pre q := by
  intro w s
  refine (h w s).mono ?_
  rintro e w' ⟨v, hs, rfl, hv, ⟨g, g1, s'⟩, hw⟩
  obtain ⟨hs', h1, h2⟩ := hq v hs hv
  exact ⟨v, hs', rfl, h1, ⟨g, g1, h2 g s'⟩, hw⟩
theorem eq_struct2 {P : Program} {t : TypeId} {f0 f1 : Field} {ki : IntKind} (h0 : P.underlying t = some (.struct (P.fieldsOf t))) (hst : P.stoodInHeld t = false) (hf : (P.fieldsOf t).toList = [f0, f1]) (n0 : f0.name ≠ "_") (n1 : f1.name ≠ "_") (o0 : f0.offset = 0) (o1 : f1.offset = 1)
    (u0 : P.underlying f0.type = some (.int ki)) (u1 : P.underlying f1.type = some (.int ki)) (k : IntKind) (a b c d : Int) (w : World) : (Op.equalIn 10000 t (.agg #[.int k a, .int k b]) (.agg #[.int k c, .int k d])).run P w = .ok (a == c && b == d) w := by
  rw [run_equalIn_struct w 9999 t _ _ h0 hst, hf]
  have p0 : ∀ x y : Value, (part f0.type #[x, y] f0.offset).run P w = .ok x w := fun x y => run_part_plain w (by simp [Program.plainKey, u0]) (by rw [o0]; rfl)
  have p1 : ∀ x y : Value, (part f1.type #[x, y] f1.offset).run P w = .ok y w := fun x y => run_part_plain w (by simp [Program.plainKey, u1]) (by rw [o1]; rfl)
  have e0 := fun x y : Int => run_equalIn_int w 9998 f0.type k ki x y u0
  have e1 := fun x y : Int => run_equalIn_int w 9998 f1.type k ki x y u1
  simp only [Op.eqFields, n0, n1, ne_eq, not_false_eq_true, if_true, Sem.run_bind, p0, p1, e0, e1, Result.andThen_ok, Sem.run_ite, Sem.run_pure]
  cases (a == c) <;> cases (b == d) <;> simp
/-- structs compared -/
theorem OpAt.aggNe {G : Gl} {o : Oper} {st : St} {K : St → Prop} {t ty : TypeId} {x y : Operand} {xs ys : Array Value} {r : Bool} (ho : o.op = .binOp .neq t x y ty) (hx : evR st x = .agg xs) (hy : evR st y = .agg ys) (hr : allR st o.op.operands.toList = true) (hg : G.P.eqGuardType G.P.depth t = false)
    (heq : ∀ w, (Op.equalIn 10000 t (.agg xs) (.agg ys)).run G.P w = .ok r w) (k : putK G st o.dst (.v (.bool (!r))) none K) : OpAt G o st K := by
  refine OpAt.val (.bool (!r)) (by rw [ho]; rfl) hr (fun w _ => ?_) k
  simp [execOp, ho, hx, hy, run_eqGuard_agg _ _ _ _ _ _ _ hg, binOp, Op.equal, Op.maxDepth, heq]
theorem OpAt.aggEq {G : Gl} {o : Oper} {st : St} {K : St → Prop} {t ty : TypeId} {x y : Operand} {xs ys : Array Value} {r : Bool} (ho : o.op = .binOp .eql t x y ty) (hx : evR st x = .agg xs) (hy : evR st y = .agg ys) (hr : allR st o.op.operands.toList = true) (hg : G.P.eqGuardType G.P.depth t = false)
    (heq : ∀ w, (Op.equalIn 10000 t (.agg xs) (.agg ys)).run G.P w = .ok r w) (k : putK G st o.dst (.v (.bool r)) none K) : OpAt G o st K := by
  refine OpAt.val (.bool r) (by rw [ho]; rfl) hr (fun w _ => ?_) k
  simp [execOp, ho, hx, hy, run_eqGuard_agg _ _ _ _ _ _ _ hg, binOp, Op.equal, Op.maxDepth, heq]
end Sy
end Go.Proofs.YtgdbdebieghnkaaGreat

/-
  Symbolic runs: some parts of the heap out of all.
-/
namespace Go.Proofs.YtgdbdebieghnkaaGreat
open Go.RowKit
open Sy
set_option linter.unusedVariables false
set_option linter.unusedSimpArgs false
set_option maxRecDepth 100000
set_option maxHeartbeats 4000000

/-- some parts out of all -/
theorem sub_front {R : HP} {r : List HP} : ∀ {m : List HP} {h : Hl}, sepL (m ++ r) R h → ∃ h' : Hl, (∀ i o, h' i = some o → h i = some o) ∧ sepL m R h'
  | [], h, s => sub_nil s
  | A :: m, h, s => by
    obtain ⟨h1, h2, d, rfl, a, s⟩ := s
    obtain ⟨h', e, s'⟩ := sub_front (m := m) s
    have dom : ∀ i, h2 i = none → h' i = none := fun i c => by
      cases x : h' i with
      | none => rfl
      | some o => rw [e i o x] at c; cases c
    refine ⟨un h1 h', fun i o hi => ?_, h1, h', fun i => (d i).imp_right (dom i), rfl, a, s'⟩
    unfold un at hi ⊢
    cases c : h1 i with
    | some x => rw [c] at hi; exact hi
    | none => rw [c] at hi; simp only [Option.none_or] at hi ⊢; exact e i o hi
theorem sub_pick {R : HP} {l : List HP} (m r : List HP) (p : l.Perm (m ++ r)) {h : Hl} (s : sepL l R h) : ∃ h' : Hl, (∀ i o, h' i = some o → h i = some o) ∧ sepL m R h' := sub_front (sepL_perm p s)
theorem sub_head {A : HP} {R : HP} {l : List HP} {h : Hl} (s : sepL (A :: l) R h) : ∃ h' : Hl, (∀ i o, h' i = some o → h i = some o) ∧ sepL [A] R h' := sub_front (m := [A]) s
end Go.Proofs.YtgdbdebieghnkaaGreat

