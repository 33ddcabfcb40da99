/-
  Words on memory: boxes of two, three and four cells, and what keeps them.
-/
import Derived.Test.YteplckkoiffnnaaGreatDoorBlk
import Derived.Deep.QuietTactic
import Derived.BigQuiet
import Derived.Deep.RegionHeld3
import Derived.StillTailTactics
import Derived.IntWalk
namespace Go.Proofs.YteplckkoiffnnaaGreatDoor
open Go.RowKit

theorem bel_cell {B : Nat} {w w' : World} (h : Below B w w') (p : Addr) (v : Value) (hp : p.block < B) (hc : w.cell? p = some v) : w'.cell? p = some v := (h.cell hp).trans hc
theorem bel_froz {B : Nat} {w w' : World} (h : Below B w w') (p : Addr) (hp : p.block < B) (hc : w.frozen? p = false) : w'.frozen? p = false := (h.frozen hp).trans hc
theorem bel_trans {B : Nat} {w u w2 : World} (h : Below B w u) (h2 : Below u.heap.size u w2) (hB : B ≤ w.heap.size) : Below B w w2 := h.trans (h2.mono (Nat.le_trans hB h.size))
theorem bel_trans_drew {B : Nat} {w u w2 : World} (h : Below B w u) (h2 : Below u.drew.heap.size u.drew w2) (hB : B ≤ w.heap.size) : Below B w w2 := h.drew.trans (h2.mono (Nat.le_trans hB h.size))
theorem ret_int {k : IntKind} {a b : Int} (h : a = b) : Ending.returned (.int k a) = .returned (.int k b) := by rw [h]

/-- the first cells of a block -/
def Box2 (w : World) (b : Nat) (v0 v1 : Value) : Prop := w.cell? ⟨b, 0, none⟩ = some v0 ∧ w.cell? ⟨b, 1, none⟩ = some v1
def Box3 (w : World) (b : Nat) (v0 v1 v2 : Value) : Prop := w.cell? ⟨b, 0, none⟩ = some v0 ∧ w.cell? ⟨b, 1, none⟩ = some v1 ∧ w.cell? ⟨b, 2, none⟩ = some v2
def Box4 (w : World) (b : Nat) (v0 v1 v2 v3 : Value) : Prop := w.cell? ⟨b, 0, none⟩ = some v0 ∧ w.cell? ⟨b, 1, none⟩ = some v1 ∧ w.cell? ⟨b, 2, none⟩ = some v2 ∧ w.cell? ⟨b, 3, none⟩ = some v3
section
variable {B b : Nat} {w w' : World} {v0 v1 v2 v3 : Value}
theorem Box2.bel (h : Box2 w b v0 v1) (hb : Below B w w') (hl : b < B) : Box2 w' b v0 v1 := ⟨bel_cell hb _ _ hl h.1, bel_cell hb _ _ hl h.2⟩
theorem Box3.bel (h : Box3 w b v0 v1 v2) (hb : Below B w w') (hl : b < B) : Box3 w' b v0 v1 v2 := ⟨bel_cell hb _ _ hl h.1, bel_cell hb _ _ hl h.2.1, bel_cell hb _ _ hl h.2.2⟩
theorem Box4.bel (h : Box4 w b v0 v1 v2 v3) (hb : Below B w w') (hl : b < B) : Box4 w' b v0 v1 v2 v3 := ⟨bel_cell hb _ _ hl h.1, bel_cell hb _ _ hl h.2.1, bel_cell hb _ _ hl h.2.2.1, bel_cell hb _ _ hl h.2.2.2⟩
theorem set_far (h : w.cell? ⟨b, B, none⟩ = some v0) {p : Addr} (u : Value) (hp : b ≠ p.block) : (w.setCell p u).cell? ⟨b, B, none⟩ = some v0 :=
  (World.cell?_setCell_other w p ⟨b, B, none⟩ u (fun e => hp (by rw [e]))).trans h
theorem Box2.set_ (h : Box2 w b v0 v1) {p : Addr} (u : Value) (hp : b ≠ p.block) : Box2 (w.setCell p u) b v0 v1 := ⟨set_far h.1 u hp, set_far h.2 u hp⟩
theorem Box3.set_ (h : Box3 w b v0 v1 v2) {p : Addr} (u : Value) (hp : b ≠ p.block) : Box3 (w.setCell p u) b v0 v1 v2 := ⟨set_far h.1 u hp, set_far h.2.1 u hp, set_far h.2.2 u hp⟩
theorem Box4.set_ (h : Box4 w b v0 v1 v2 v3) {p : Addr} (u : Value) (hp : b ≠ p.block) : Box4 (w.setCell p u) b v0 v1 v2 v3 := ⟨set_far h.1 u hp, set_far h.2.1 u hp, set_far h.2.2.1 u hp, set_far h.2.2.2 u hp⟩
end
theorem box2_new (w : World) (v0 v1 : Value) (t : TypeId) : Box2 (w.alloc (.cells #[v0, v1] t)) w.heap.size v0 v1 := ⟨by simp, by simp⟩
theorem box3_new (w : World) (v0 v1 v2 : Value) (t : TypeId) : Box3 (w.alloc (.cells #[v0, v1, v2] t)) w.heap.size v0 v1 v2 := ⟨by simp, by simp, by simp⟩
theorem box4_new (w : World) (v0 v1 v2 v3 : Value) (t : TypeId) : Box4 (w.alloc (.cells #[v0, v1, v2, v3] t)) w.heap.size v0 v1 v2 v3 := ⟨by simp, by simp, by simp, by simp⟩
theorem froz_new (w : World) (cs : Array Value) (t : TypeId) (o : Nat) : (w.alloc (.cells cs t)).frozen? ⟨w.heap.size, o, none⟩ = false := by simp
theorem new_bel (w : World) (o : Obj) : Below w.heap.size w (w.alloc o) := (Below.refl _ _).alloc (Nat.le_refl _) o
theorem new_size (w : World) (o : Obj) : w.heap.size < (w.alloc o).heap.size := by simp

/-- things of k cells each, laid one behind the other -/
def flt {α : Type} (enc : α → List Value) (l : List α) : List Value := l.flatMap enc
section
variable {α : Type} {enc : α → List Value} {k : Nat}
theorem flt_nil : flt enc [] = [] := rfl
theorem flt_append (l m : List α) : flt enc (l ++ m) = flt enc l ++ flt enc m := by simp [flt]
theorem flt_one (a : α) : flt enc [a] = enc a := by simp [flt]
theorem flt_length (hk : ∀ a, (enc a).length = k) (l : List α) : (flt enc l).length = l.length * k := by
  induction l with
  | nil => simp [flt]
  | cons a l ih =>
    have e : flt enc (a :: l) = enc a ++ flt enc l := by simp [flt]
    rw [e, List.length_append, ih, hk, List.length_cons, Nat.succ_mul, Nat.add_comm]
theorem flt_at (hk : ∀ a, (enc a).length = k) : ∀ (l : List α) (i j : Nat) (hi : i < l.length) (_ : j < k), (flt enc l)[i * k + j]? = (enc l[i])[j]?
  | a :: l, 0, j, _, hj => by
    have e : flt enc (a :: l) = enc a ++ flt enc l := by simp [flt]
    rw [e, Nat.zero_mul, Nat.zero_add, List.getElem?_append_left (by rw [hk]; exact hj)]
    rfl
  | a :: l, i + 1, j, hi, hj => by
    have e : flt enc (a :: l) = enc a ++ flt enc l := by simp [flt]
    rw [e, List.getElem?_append_right (by rw [hk, Nat.succ_mul]; omega), hk, show (i + 1) * k + j - k = i * k + j by rw [Nat.succ_mul]; omega]
    exact flt_at hk l i j (by simpa using hi) hj
theorem flt_plain (h1 : ∀ a, ∀ u ∈ enc a, u.oneCell' = true) (l : List α) : ∀ u ∈ flt enc l, u.oneCell' = true := by
  intro u hu
  simp only [flt, List.mem_flatMap] at hu
  obtain ⟨a, _, h⟩ := hu
  exact h1 a u h
/-- the cells of one thing of a slice in memory of the call's own -/
theorem own_thing {w : World} {base : Nat} {e : TypeId} {A : Option Addr} {c : Nat} {l : List α} (hk : ∀ a, (enc a).length = k) (h : w.ownsRow base e k (.slice A l.length c) l.length (flt enc l)) {i : Nat} (hi : i < l.length) :
    ∃ g, A = some ⟨g, 0, none⟩ ∧ base ≤ g ∧ g < w.heap.size ∧ ∀ j u, (enc l[i])[j]? = some u → w.cell? ⟨g, i * k + j, none⟩ = some u := by
  obtain ⟨g, cap, hv, hb, hlt⟩ := h.form (by omega)
  have hA : A = some ⟨g, 0, none⟩ := by injection hv
  subst hA
  refine ⟨g, rfl, hb, hlt, fun j u hu => ?_⟩
  have hj : j < k := by
    have := (List.getElem?_eq_some_iff.1 hu).1
    rw [hk] at this; exact this
  have := h.cells (g := g) rfl (i * k + j) u ((flt_at hk l i j hi hj).trans hu)
  rwa [add_plain, Nat.zero_add] at this
end
theorem reads_new (w : World) (xs : List Value) (e : TypeId) (C : Array Value) (k n : Nat) (hC : C = xs.toArray) (hn : xs.length = n * k) : Reads (w.alloc (.cells C e)) (w.heap.size + 1) k (some ⟨w.heap.size, 0, none⟩) n xs := by
  subst hC
  refine ⟨hn, fun _ => ⟨_, rfl, Nat.lt_succ_self _, fun j u hu => ?_⟩⟩
  rw [add_plain, Nat.zero_add, World.cell?_alloc_mark]
  simpa using hu
theorem own_shape' {w : World} {base : Nat} {e : TypeId} {size n : Nat} {v : Value} {xs : List Value} (h : w.ownsRow base e size v n xs) : ∃ A c, v = .slice A n c ∧ n ≤ c ∧ c ≤ 9223372036854775807 ∧ (A = none → n = 0 ∧ c = 0) := by
  rcases h.2 with ⟨rfl, rfl⟩ | ⟨g, cap, cur, rfl, _, _, hn, hm, _⟩
  · exact ⟨_, _, rfl, Nat.le_refl _, by omega, fun _ => ⟨rfl, rfl⟩⟩
  · exact ⟨_, _, rfl, hn, hm, fun h => by cases h⟩
end Go.Proofs.YteplckkoiffnnaaGreatDoor
