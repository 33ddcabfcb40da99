/-
  Texts of the proofs, one behind the other: Keep, SyOwn, SyBox, SyMem, SyPart, SyStr, Hmix, NumD, NumShelf, NumLib, Num, NumPlain, NumRef, NumRefP, NumScans, NumLaws, NumReads.
-/
import Derived.Test.YtihkhomnhggifaaGreatDoorSPg01
import Derived.Deep.QuietTactic
import Derived.BigQuiet
import Derived.Deep.RegionHeld3
import Derived.StillTailTactics
import Derived.IntWalk
import Derived.Great.FillDense
import Derived.Great.BuildSlice
import Derived.Laws.MakeOwn
import Derived.Deep.RegionHeld
import Derived.Laws.StructEq
import Derived.ChangeKeysEq
import Derived.Lib.OthersKept
import Derived.Laws.IdiomStrings
import Derived.Test.YtihkhomnhggifaaGreatDoorProg
import Derived.KernelRfl
import Derived.Shelf.LaysM
import Derived.Shelf.Strconv.Itoa4
import Derived.Shelf.LaysC
import Derived.Shelf.Strconv.ParseIntPublic10
import Derived.Shelf.Strconv.ErrVarParseInt
import Derived.Shelf.Strings.Prefix
import Derived.Lib.AppendIntMem
import Derived.Lib.ItoaLen
/-
  Words on memory: boxes of two, three and four cells, and what keeps them.
-/
namespace Go.Proofs.YtihkhomnhggifaaGreatDoor
open Go.RowKit

theorem bel_cell {B : Nat} {w w' : World} (h : Below B w w') (p : Addr) (v : Value) (hp : p.block < B) (hc : w.cell? p = some v) : w'.cell? p = some v := (h.cell hp).trans hc
theorem bel_froz {B : Nat} {w w' : World} (h : Below B w w') (p : Addr) (hp : p.block < B) (hc : w.frozen? p = false) : w'.frozen? p = false := (h.frozen hp).trans hc
theorem bel_trans {B : Nat} {w u w2 : World} (h : Below B w u) (h2 : Below u.heap.size u w2) (hB : B ≤ w.heap.size) : Below B w w2 := h.trans (h2.mono (Nat.le_trans hB h.size))
theorem bel_trans_drew {B : Nat} {w u w2 : World} (h : Below B w u) (h2 : Below u.drew.heap.size u.drew w2) (hB : B ≤ w.heap.size) : Below B w w2 := h.drew.trans (h2.mono (Nat.le_trans hB h.size))
theorem ret_int {k : IntKind} {a b : Int} (h : a = b) : Ending.returned (.int k a) = .returned (.int k b) := by rw [h]

/-- the first cells of a block -/
def Box2 (w : World) (b : Nat) (v0 v1 : Value) : Prop := w.cell? ⟨b, 0, none⟩ = some v0 ∧ w.cell? ⟨b, 1, none⟩ = some v1
def Box3 (w : World) (b : Nat) (v0 v1 v2 : Value) : Prop := w.cell? ⟨b, 0, none⟩ = some v0 ∧ w.cell? ⟨b, 1, none⟩ = some v1 ∧ w.cell? ⟨b, 2, none⟩ = some v2
def Box4 (w : World) (b : Nat) (v0 v1 v2 v3 : Value) : Prop := w.cell? ⟨b, 0, none⟩ = some v0 ∧ w.cell? ⟨b, 1, none⟩ = some v1 ∧ w.cell? ⟨b, 2, none⟩ = some v2 ∧ w.cell? ⟨b, 3, none⟩ = some v3
section
variable {B b : Nat} {w w' : World} {v0 v1 v2 v3 : Value}
theorem Box2.bel (h : Box2 w b v0 v1) (hb : Below B w w') (hl : b < B) : Box2 w' b v0 v1 := ⟨bel_cell hb _ _ hl h.1, bel_cell hb _ _ hl h.2⟩
theorem Box3.bel (h : Box3 w b v0 v1 v2) (hb : Below B w w') (hl : b < B) : Box3 w' b v0 v1 v2 := ⟨bel_cell hb _ _ hl h.1, bel_cell hb _ _ hl h.2.1, bel_cell hb _ _ hl h.2.2⟩
theorem Box4.bel (h : Box4 w b v0 v1 v2 v3) (hb : Below B w w') (hl : b < B) : Box4 w' b v0 v1 v2 v3 := ⟨bel_cell hb _ _ hl h.1, bel_cell hb _ _ hl h.2.1, bel_cell hb _ _ hl h.2.2.1, bel_cell hb _ _ hl h.2.2.2⟩
theorem set_far (h : w.cell? ⟨b, B, none⟩ = some v0) {p : Addr} (u : Value) (hp : b ≠ p.block) : (w.setCell p u).cell? ⟨b, B, none⟩ = some v0 :=
  (World.cell?_setCell_other w p ⟨b, B, none⟩ u (fun e => hp (by rw [e]))).trans h
theorem Box2.set_ (h : Box2 w b v0 v1) {p : Addr} (u : Value) (hp : b ≠ p.block) : Box2 (w.setCell p u) b v0 v1 := ⟨set_far h.1 u hp, set_far h.2 u hp⟩
theorem Box3.set_ (h : Box3 w b v0 v1 v2) {p : Addr} (u : Value) (hp : b ≠ p.block) : Box3 (w.setCell p u) b v0 v1 v2 := ⟨set_far h.1 u hp, set_far h.2.1 u hp, set_far h.2.2 u hp⟩
theorem Box4.set_ (h : Box4 w b v0 v1 v2 v3) {p : Addr} (u : Value) (hp : b ≠ p.block) : Box4 (w.setCell p u) b v0 v1 v2 v3 := ⟨set_far h.1 u hp, set_far h.2.1 u hp, set_far h.2.2.1 u hp, set_far h.2.2.2 u hp⟩
end
theorem box2_new (w : World) (v0 v1 : Value) (t : TypeId) : Box2 (w.alloc (.cells #[v0, v1] t)) w.heap.size v0 v1 := ⟨by simp, by simp⟩
theorem box3_new (w : World) (v0 v1 v2 : Value) (t : TypeId) : Box3 (w.alloc (.cells #[v0, v1, v2] t)) w.heap.size v0 v1 v2 := ⟨by simp, by simp, by simp⟩
theorem box4_new (w : World) (v0 v1 v2 v3 : Value) (t : TypeId) : Box4 (w.alloc (.cells #[v0, v1, v2, v3] t)) w.heap.size v0 v1 v2 v3 := ⟨by simp, by simp, by simp, by simp⟩
theorem froz_new (w : World) (cs : Array Value) (t : TypeId) (o : Nat) : (w.alloc (.cells cs t)).frozen? ⟨w.heap.size, o, none⟩ = false := by simp
theorem new_bel (w : World) (o : Obj) : Below w.heap.size w (w.alloc o) := (Below.refl _ _).alloc (Nat.le_refl _) o
theorem new_size (w : World) (o : Obj) : w.heap.size < (w.alloc o).heap.size := by simp

/-- things of k cells each, laid one behind the other -/
def flt {α : Type} (enc : α → List Value) (l : List α) : List Value := l.flatMap enc
section
variable {α : Type} {enc : α → List Value} {k : Nat}
theorem flt_nil : flt enc [] = [] := rfl
theorem flt_append (l m : List α) : flt enc (l ++ m) = flt enc l ++ flt enc m := by simp [flt]
theorem flt_one (a : α) : flt enc [a] = enc a := by simp [flt]
theorem flt_length (hk : ∀ a, (enc a).length = k) (l : List α) : (flt enc l).length = l.length * k := by
  induction l with
  | nil => simp [flt]
  | cons a l ih =>
    have e : flt enc (a :: l) = enc a ++ flt enc l := by simp [flt]
    rw [e, List.length_append, ih, hk, List.length_cons, Nat.succ_mul, Nat.add_comm]
theorem flt_at (hk : ∀ a, (enc a).length = k) : ∀ (l : List α) (i j : Nat) (hi : i < l.length) (_ : j < k), (flt enc l)[i * k + j]? = (enc l[i])[j]?
  | a :: l, 0, j, _, hj => by
    have e : flt enc (a :: l) = enc a ++ flt enc l := by simp [flt]
    rw [e, Nat.zero_mul, Nat.zero_add, List.getElem?_append_left (by rw [hk]; exact hj)]
    rfl
  | a :: l, i + 1, j, hi, hj => by
    have e : flt enc (a :: l) = enc a ++ flt enc l := by simp [flt]
    rw [e, List.getElem?_append_right (by rw [hk, Nat.succ_mul]; omega), hk, show (i + 1) * k + j - k = i * k + j by rw [Nat.succ_mul]; omega]
    exact flt_at hk l i j (by simpa using hi) hj
theorem flt_plain (h1 : ∀ a, ∀ u ∈ enc a, u.oneCell' = true) (l : List α) : ∀ u ∈ flt enc l, u.oneCell' = true := by
  intro u hu
  simp only [flt, List.mem_flatMap] at hu
  obtain ⟨a, _, h⟩ := hu
  exact h1 a u h
/-- the cells of one thing of a slice in memory of the call's own -/
theorem own_thing {w : World} {base : Nat} {e : TypeId} {A : Option Addr} {c : Nat} {l : List α} (hk : ∀ a, (enc a).length = k) (h : w.ownsRow base e k (.slice A l.length c) l.length (flt enc l)) {i : Nat} (hi : i < l.length) :
    ∃ g, A = some ⟨g, 0, none⟩ ∧ base ≤ g ∧ g < w.heap.size ∧ ∀ j u, (enc l[i])[j]? = some u → w.cell? ⟨g, i * k + j, none⟩ = some u := by
  obtain ⟨g, cap, hv, hb, hlt⟩ := h.form (by omega)
  have hA : A = some ⟨g, 0, none⟩ := by injection hv
  subst hA
  refine ⟨g, rfl, hb, hlt, fun j u hu => ?_⟩
  have hj : j < k := by
    have := (List.getElem?_eq_some_iff.1 hu).1
    rw [hk] at this; exact this
  have := h.cells (g := g) rfl (i * k + j) u ((flt_at hk l i j hi hj).trans hu)
  rwa [add_plain, Nat.zero_add] at this
end
theorem reads_new (w : World) (xs : List Value) (e : TypeId) (C : Array Value) (k n : Nat) (hC : C = xs.toArray) (hn : xs.length = n * k) : Reads (w.alloc (.cells C e)) (w.heap.size + 1) k (some ⟨w.heap.size, 0, none⟩) n xs := by
  subst hC
  refine ⟨hn, fun _ => ⟨_, rfl, Nat.lt_succ_self _, fun j u hu => ?_⟩⟩
  rw [add_plain, Nat.zero_add, World.cell?_alloc_mark]
  simpa using hu
theorem own_shape' {w : World} {base : Nat} {e : TypeId} {size n : Nat} {v : Value} {xs : List Value} (h : w.ownsRow base e size v n xs) : ∃ A c, v = .slice A n c ∧ n ≤ c ∧ c ≤ 9223372036854775807 ∧ (A = none → n = 0 ∧ c = 0) := by
  rcases h.2 with ⟨rfl, rfl⟩ | ⟨g, cap, cur, rfl, _, _, hn, hm, _⟩
  · exact ⟨_, _, rfl, Nat.le_refl _, by omega, fun _ => ⟨rfl, rfl⟩⟩
  · exact ⟨_, _, rfl, hn, hm, fun h => by cases h⟩
end Go.Proofs.YtihkhomnhggifaaGreatDoor

/-
  Symbolic runs: slices of the call's own: made, appended to, read.
-/
namespace Go.Proofs.YtihkhomnhggifaaGreatDoor
open Go.RowKit
namespace Sy
set_option linter.unusedVariables false
set_option linter.unusedSimpArgs false

def pull : Nat → List HP → List HP
  | 0, l => l
  | _ + 1, [] => []
  | n + 1, A :: l => match pull n l with
    | [] => [A]
    | B :: r => B :: A :: r
theorem sepL_pull {R : HP} : ∀ (n : Nat) {l : List HP} {h : Hl}, sepL l R h → sepL (pull n l) R h
  | 0, l, h, s => s
  | n + 1, [], h, s => s
  | n + 1, A :: l, h, s => by
    obtain ⟨h1, h2, d, e, a, s⟩ := s
    have s' := sepL_pull n s
    have hp : pull n l = [] ∨ ∃ B r, pull n l = B :: r := by cases pull n l <;> simp
    unfold pull
    rcases hp with hp | ⟨B, r, hp⟩
    · rw [hp] at s' ⊢
      exact ⟨h1, h2, d, e, a, s'⟩
    · rw [hp] at s' ⊢
      exact sep_swap ⟨h1, h2, d, e, a, s'⟩
theorem Sat.left {A B : HP} {w : World} (s : Sat (sep A B) w) : Sat A w := by
  obtain ⟨h, hs, h1, h2, d, rfl, a, b⟩ := s
  exact ⟨h1, hs.left, a⟩
theorem Sat.right {A B : HP} {w : World} (s : Sat (sep A B) w) : Sat B w := by
  obtain ⟨h, hs, h1, h2, d, rfl, a, b⟩ := s
  exact ⟨h2, hs.right d, b⟩
theorem Sat.in_ {R A : HP} {w : World} : ∀ (n : Nat) {l : List HP}, Sat (sepL l R) w → l[n]? = some A → Sat A w
  | n, [], s, h => by simp at h
  | 0, B :: l, s, h => by simp at h; subst h; exact Sat.left s
  | n + 1, B :: l, s, h => Sat.in_ n (l := l) (Sat.right s) (by simpa using h)
theorem Sat.rest {R : HP} {w : World} : ∀ {l : List HP}, Sat (sepL l R) w → Sat R w
  | [], s => s
  | B :: l, s => Sat.rest (l := l) (Sat.right s)

/-- a slice that owns its row -/
def rowH (v : Value) (n : Nat) (e : TypeId) (size : Nat) (xs : List Value) : HP := fun h =>
  xs.length = n * size ∧ ((v = .slice none 0 0 ∧ n = 0 ∧ ∀ i, h i = none) ∨
    ∃ g cap cur, v = .slice (some ⟨g, 0, none⟩) n cap ∧ (∀ i, h i = if i = g then some (.cells cur e (0, 0)) else none) ∧ n ≤ cap ∧ cap ≤ maxLen ∧ cur.size = cap * size ∧ cur.toList.take (n * size) = xs)
theorem rowH_own {v : Value} {n size : Nat} {e : TypeId} {xs : List Value} {h : Hl} {w : World} (r : rowH v n e size xs h) (s : Sub h w) : w.ownsRow 0 e size v n xs := by
  obtain ⟨hl, hr⟩ := r
  refine ⟨hl, ?_⟩
  rcases hr with ⟨h1, h2, _⟩ | ⟨g, cap, cur, h1, h2, h3⟩
  · exact .inl ⟨h1, h2⟩
  · exact .inr ⟨g, cap, cur, h1, Nat.zero_le _, s g _ (by rw [h2]; simp), h3⟩
theorem own_rowH {v : Value} {n size base : Nat} {e : TypeId} {xs : List Value} {w : World} (r : w.ownsRow base e size v n xs) : ∃ h, rowH v n e size xs h ∧ Sub h w ∧ ∀ i, h i ≠ none → v.ownBlock = some i ∧ base ≤ i := by
  obtain ⟨hl, hr⟩ := r
  rcases hr with ⟨h1, h2⟩ | ⟨g, cap, cur, h1, hg, h2, h3⟩
  · exact ⟨fun _ => none, ⟨hl, .inl ⟨h1, h2, fun _ => rfl⟩⟩, (fun i o e => by cases e), fun i c => absurd rfl c⟩
  · refine ⟨fun i => if i = g then some (.cells cur e (0, 0)) else none, ⟨hl, .inr ⟨g, cap, cur, h1, fun _ => rfl, h3⟩⟩, fun i o e => ?_, fun i c => ?_⟩
    · simp only at e
      split at e
      · rename_i hi; subst hi; rw [← e]; exact h2
      · cases e
    · simp only at c
      split at c
      · rename_i hi; subst hi; exact ⟨by rw [h1]; rfl, hg⟩
      · exact absurd rfl c
/-- a row that is new -/
theorem sat_row {A : HP} {w w' : World} {v : Value} {n size : Nat} {e : TypeId} {xs : List Value} (s : Sat A w) (hb : Below w.heap.size w w') (r : w'.ownsRow w.heap.size e size v n xs) : Sat (sep (rowH v n e size xs) A) w' := by
  obtain ⟨h2, s2, a⟩ := s
  obtain ⟨h1, r1, s1, d⟩ := own_rowH r
  refine ⟨un h1 h2, s1.un (s2.below hb), h1, h2, fun i => ?_, rfl, r1, a⟩
  by_cases c : h1 i = none
  · exact .inl c
  · exact .inr (s2.none (d i c).2)

theorem putK_go {G : Gl} {st : St} {d : Option Nat} {x : SV} {K : St → Prop} (h : putK G st d x none K) {ρ : List Nat} {a : Act} {w : World} {v : Value} (hx : x.den ρ = some v) (m : Tm G st ρ a) (mm : Mem G st ρ w) : ∃ st', K st' ∧ Tm G st' ρ (a.put d v) ∧ Mem G st' ρ w := by
  obtain ⟨t, o, n, hh, c⟩ := st
  unfold putK at h
  cases d with
  | some i =>
    simp only at h
    split at h
    · rename_i hi
      have hi' : i < G.N := Nat.le_of_ble_eq_true hi
      exact ⟨_, h, m.put_ hi' hx _ _ _ _, mm.same rfl rfl rfl⟩
    · exact h.elim
  | none => exact ⟨_, h, m, mm⟩
/-- an operation's own law, apart from R -/
def SemR (P : Program) (R : HP) (s : Sem Go.Next) (pre : List HP) (post : Value → List HP → Prop) : Prop :=
  ∀ w, Sat (sepL pre R) w → ∃ v hs w', s.run P w = .ok (.value v) w' ∧ post v hs ∧ Sat (sepL hs R) w' ∧ Wd w w'
theorem OpAt.sem {G : Gl} {o : Oper} {st : St} {K : St → Prop} {pre : List HP} {post : Value → List HP → Prop} (rest : List HP) (hp : ∀ h, sepL st.h G.R h → sepL (pre ++ rest) G.R h) (hsel : notSel o.op = true) (hr : allR st o.op.operands.toList = true)
    (hf : ∀ R', (∀ w, Sat R' w → Sat (sepL rest G.R) w) → SemR G.P R' (execOp (evR st) o) pre post) (k : ∀ v hs, post v hs → putK G { st with h := hs ++ rest } o.dst (.v v) none K) : OpAt G o st K := by
  refine .mk fun ρ a w m mm => ?_
  obtain ⟨h, h1, h2, h3, h4⟩ := mem_split mm
  have h2 := hp h h2
  rw [sepL_append] at h2
  obtain ⟨v, hs, w', hrun, hv, ⟨g, g1, s⟩, hw⟩ := hf (plus (obj st ρ w) (sepL rest G.R)) (by
    rintro w' ⟨g, g1, ⟨g2, d, rfl, s⟩⟩
    exact ⟨g2, g1.right d, s⟩) w ⟨_, h4.un h1, plus_in h3 h2⟩
  have hc : execOp a.eval o = execOp (evR st) o := execOp_congr o (fun cs b => notSel_spec hsel cs b) fun x hx => allR_sound m hr x (by simpa using hx)
  have mm' : Mem G { st with h := hs ++ rest } ρ w' := by
    refine mem_join mm hw g1 ?_
    have := plus_out s
    rwa [sepL_append]
  obtain ⟨st', k', m', mm2⟩ := putK_go (k v hs hv) (ρ := ρ) (v := v) rfl (m.same rfl) mm'
  unfold Oper.wp
  rw [hc, hrun]
  exact ⟨st', ρ, k', m', mm2, Ext.refl _⟩

def dens : Nat → List (Nat × Operand) → Bool
  | _, [] => true
  | n, (i, _) :: l => match Nat.beq i n with
    | true => dens (n + 1) l
    | false => false
theorem dens_eq {ev : Operand → Value} : ∀ {l : List (Nat × Operand)} {n : Nat}, dens n l = true → l.map (fun (i, x) => (i, ev x)) = ((l.map fun p => ev p.2).zipIdx n).map fun x => (x.2, x.1)
  | [], n, _ => rfl
  | (i, x) :: l, n, h => by
    unfold dens at h
    split at h
    · rename_i e
      have := beq_of e
      subst this
      simp [dens_eq h]
    · cases h

/-- what the cells of values are, one behind the other -/
def cellsOf (vs : List Value) : List Value := vs.flatMap fun v => v.cells.toList
theorem fill_all {size : Nat} (hs : 0 < size) (vs : List Value) (cells : Array Value) (hv : ∀ v ∈ vs, v.cells.size = size) (hc : cells.size = vs.length * size) :
    Instr.fill (fun i => some (i * size, size)) cells ((vs.zipIdx 0).map fun x => (x.2, x.1)) = some (cellsOf vs).toArray := by
  obtain ⟨r, h1, h2, h3⟩ := Great.fill_dense hs vs 0 cells hv (by rw [hc]; simp)
  rw [h1]
  congr 1
  apply Array.ext_getElem?
  intro k
  rw [h3 k]
  have hlen : ∀ (l : List Value), (∀ v ∈ l, v.cells.size = size) → (cellsOf l).length = l.length * size := by
    intro l hl
    induction l with
    | nil => simp [cellsOf]
    | cons v l ih =>
      have := ih fun v hv => hl v (List.mem_cons_of_mem _ hv)
      simp only [cellsOf, List.flatMap_cons, List.length_append, Array.length_toList, List.length_cons] at this ⊢
      rw [this, hl v List.mem_cons_self, Nat.add_mul]
      omega
  have hat : ∀ (l : List Value) (k : Nat), (∀ v ∈ l, v.cells.size = size) → k < l.length * size → (cellsOf l)[k]? = (l[k / size]?).bind fun v => v.cells[k % size]? := by
    intro l
    induction l with
    | nil => intro k _ h; simp at h
    | cons v l ih =>
      intro k hl hk
      have hvs := hl v List.mem_cons_self
      have hl' := fun u hu => hl u (List.mem_cons_of_mem _ hu)
      simp only [cellsOf, List.flatMap_cons]
      by_cases c : k < size
      · rw [List.getElem?_append_left (by simp [hvs, c]), Nat.div_eq_of_lt c, Nat.mod_eq_of_lt c]
        simp
      · rw [List.getElem?_append_right (by simp [hvs]; omega)]
        have e1 : k / size = (k - size) / size + 1 := by
          rw [Nat.div_eq k, if_pos ⟨hs, by omega⟩]
        have e2 : k % size = (k - size) % size := by
          rw [Nat.mod_eq k, if_pos ⟨hs, by omega⟩]
        rw [e1, e2]
        have := ih (k - size) hl' (by simp only [List.length_cons, Nat.add_mul] at hk; omega)
        simp only [cellsOf] at this
        simp only [Array.length_toList, hvs, this, List.getElem?_cons_succ]
  by_cases c : k < vs.length * size
  · rw [if_pos ⟨by omega, by simpa using c⟩]
    simp only [List.getElem?_toArray]
    rw [hat vs k hv c]
    simp
  · rw [if_neg (by simp; omega)]
    rw [Array.getElem?_eq_none (by omega)]
    simp only [List.getElem?_toArray]
    rw [List.getElem?_eq_none]
    rw [hlen vs hv]
    omega

theorem cellsOf_len {size : Nat} : ∀ {l : List Value}, (∀ v ∈ l, v.cells.size = size) → (cellsOf l).length = l.length * size
  | [], _ => by simp [cellsOf]
  | v :: l, hl => by
    have := cellsOf_len fun u hu => hl u (List.mem_cons_of_mem _ hu)
    simp only [cellsOf, List.flatMap_cons, List.length_append, Array.length_toList, List.length_cons] at this ⊢
    rw [this, hl v List.mem_cons_self, Nat.add_mul]
    omega
/-- a slice literal -/
theorem OpAt.lit {G : Gl} {o : Oper} {st : St} {K : St → Prop} {t e : TypeId} {len : Nat} {parts : Array (Nat × Operand)} {ie : TypeInfo} {z : Value} (vs : List Value) (size : Nat) (ho : o.op = .buildSlice t len parts) (hu : G.P.underlying t = some (.slice e)) (hie : G.P.info? e = some ie) (hz : ie.zero = some z)
    (hsz : ie.size = size) (hpos : 0 < size) (hd : dens 0 parts.toList = true) (hr : allR st o.op.operands.toList = true) (hvs : vs = parts.toList.map fun p => evR st p.2) (hcs : ∀ v ∈ vs, v.cells.size = size) (hl : len = vs.length) (hsm : len * size ≤ 16777216)
    (k : ∀ g, putK G { st with h := rowH (.slice (some ⟨g, 0, none⟩) len len) len e size (cellsOf vs) :: st.h } o.dst (.v (.slice (some ⟨g, 0, none⟩) len len)) none K) : OpAt G o st K := by
  refine OpAt.sem (pre := []) (post := fun v hs => ∃ g, v = .slice (some ⟨g, 0, none⟩) len len ∧ hs = [rowH (.slice (some ⟨g, 0, none⟩) len len) len e size (cellsOf vs)]) st.h (fun h s => s) (by rw [ho]; rfl) hr ?_ ?_
  · intro R' _ w s
    refine ⟨_, _, w.alloc (.cells (cellsOf vs).toArray e), ?_, ⟨w.heap.size, rfl, rfl⟩, ?_, .of_below ((Below.refl _ _).alloc (Nat.le_refl _) _)⟩
    · have hfill : Instr.fill (fun i => some (i * ie.size, ie.size)) ((Array.range (len * ie.size)).map (z.cells[· % z.cells.size]!)) (parts.map fun (i, x) => (i, evR st x)).toList = some (cellsOf vs).toArray := by
        rw [Array.toList_map, dens_eq hd, ← hvs, hsz]
        exact fill_all hpos vs _ hcs (by simp [hl])
      simp only [execOp, ho, Sem.run_bind]
      by_cases h0 : len = 0
      · have hv0 : vs = [] := List.eq_nil_of_length_eq_zero (by omega)
        have hp0 : parts.toList = [] := by
          rw [hv0] at hvs
          exact List.map_eq_nil_iff.1 hvs.symm
        have hp1 : (parts.map fun (i, x) => (i, evR st x)).toList = [] := by rw [Array.toList_map, hp0]; rfl
        subst h0 hv0
        simp [Instr.buildSlice, run_underlying hu, sizeOf, typeInfo, hie, newRow, newObj, hp0, Instr.fill, cellsOf]
        rw [show Array.map (fun _ => (default : Value)) (Array.range 0) = #[] from by apply Array.ext'; simp]
        rfl
      · rw [run_buildSlice w t e len _ (cellsOf vs).toArray ie z hu hie hz (by rw [hsz]; omega) (by rw [hsz]; exact Nat.mul_ne_zero h0 (by omega)) hfill]
        simp
    · refine sat_row s ((Below.refl _ _).alloc (Nat.le_refl _) _) ⟨?_, .inr ⟨_, len, (cellsOf vs).toArray, rfl, Nat.le_refl _, heap_alloc_new w _, Nat.le_refl _, by simp only [maxLen]; have : len ≤ len * size := Nat.le_mul_of_pos_right _ hpos; omega, ?_, ?_⟩⟩
      all_goals
        have hlen : (cellsOf vs).length = len * size := by rw [hl]; exact cellsOf_len hcs
      · exact hlen
      · simpa using hlen
      · simp only [List.toList_toArray]
        rw [List.take_of_length_le (by omega)]
  · rintro v hs ⟨g, rfl, rfl⟩
    exact k g

theorem rowH_ne {v : Value} {n size : Nat} {e : TypeId} {xs : List Value} {h : Hl} (r : rowH v n e size xs h) {g : Nat} (hg : v.ownBlock = some g) : h g ≠ none := by
  rcases r.2 with ⟨rfl, _, _⟩ | ⟨g', cap, cur, rfl, h2, _⟩
  · cases hg
  · have : g' = g := by simpa [Value.ownBlock] using hg
    subst this
    rw [h2]; simp

/-- append to a slice of the call's own -/
theorem OpAt.append {G : Gl} {o : Oper} {st : St} {K : St → Prop} {t e : TypeId} {s x : Operand} {i : TypeInfo} {z : Value} (v : Value) (n size bytes : Nat) (xs news : List Value) (A : Option Addr) (m c : Nat) (rest : List HP)
    (ho : o.op = .call { callee := .builtin .append, args := #[s, x], argTypes := #[t, t] }) (hp : ∀ h, sepL st.h G.R h → sepL (rowH v n e size xs :: rest) G.R h) (hs : evR st s = v) (hx : evR st x = .slice A m c) (hr : allR st o.op.operands.toList = true)
    (hu : G.P.underlying t = some (.slice e)) (hi : G.P.info? e = some i) (hz : i.zero = some z) (hsize : i.size = size) (hby : i.bytes = bytes) (hzs : z.cells.size = size) (hsz : 0 < size)
    (src : ∀ w, Sat (sepL rest G.R) w → Reads w w.heap.size size A m news) (h1 : ∀ u ∈ news, u.oneCell' = true) (h63 : n + m ≤ maxLen) (hbytes : (n + m) * bytes ≤ 140737488355328)
    (k : ∀ A' c', putK G { st with h := rowH (.slice A' (n + m) c') (n + m) e size (xs ++ news) :: rest } o.dst (.v (.slice A' (n + m) c')) none K) : OpAt G o st K := by
  refine OpAt.sem (pre := [rowH v n e size xs]) (post := fun v' hs => ∃ A' c', v' = .slice A' (n + m) c' ∧ hs = [rowH (.slice A' (n + m) c') (n + m) e size (xs ++ news)]) rest hp (by rw [ho]; rfl) hr ?_ ?_
  · rintro R' hR' w ⟨h, hsub, h1', h2, d, rfl, hrow, hrest⟩
    have hown := rowH_own hrow hsub.left
    have hrd := src w (hR' w ⟨h2, hsub.right d, hrest⟩)
    obtain ⟨v', w', hrun, hown', hB, hg, hat⟩ := run_append_appl (P := G.P) w 0 t o.type e i z size bytes hu hi hz hsize hby hzs hsz v n xs (.inl hown) w.heap.size A m c news hrd h1 (.inr hown) h63 hbytes (Nat.zero_le _)
    obtain ⟨A', c', rfl, _⟩ := own_shape' hown'
    obtain ⟨h1'', r1, s1, dom⟩ := own_rowH hown'
    have s2 : Sub h2 w' := fun j ob e' => by
      have hj := hsub.right d j ob e'
      have hlt := (Array.getElem?_eq_some_iff.1 hj).1
      rw [hg.block j hlt ?_]
      · exact hj
      · intro c0
        rcases d j with c1 | c1
        · exact rowH_ne hrow c0.symm c1
        · rw [c1] at e'; cases e'
    refine ⟨_, _, w', ?_, ⟨A', c', rfl, rfl⟩, ⟨_, s1.un s2, h1'', h2, fun j => ?_, rfl, r1, hrest⟩, ⟨hg.os, hg.tape, hg.output, hg.size⟩⟩
    · have ha : (#[s, x] : Array Operand).map (evR st) = #[v, .slice A m c] := by simp [hs, hx]
      simp only [execOp, ho, resolve, invoke, builtin, Sem.run_bind, Sem.run_pure, Result.andThen_ok, ha, hrun]
    · by_cases c0 : h1'' j = none
      · exact .inl c0
      · right
        have hj := (dom j c0).1
        rcases hat with hat | ⟨g, hat, hge⟩
        · rw [hat] at hj
          rcases d j with c1 | c1
          · exact absurd c1 (rowH_ne hrow hj)
          · exact c1
        · rw [hat] at hj
          injection hj with hj
          subst hj
          exact (hsub.right d).none hge
  · rintro v' hs' ⟨A', c', rfl, rfl⟩
    exact k A' c'

/-- what a row shows -/
theorem rowH_reads {v : Value} {A : Option Addr} {n c size : Nat} {e : TypeId} {xs : List Value} {w : World} (hv : v = .slice A n c) (s : Sat (rowH v n e size xs) w) : Reads w w.heap.size size A n xs := by
  obtain ⟨h, hs, r⟩ := s
  subst hv
  exact Reads.of_own (rowH_own r hs)
/-- where the first cell of a row is -/
theorem rowH_at {A : Option Addr} {n c size : Nat} {e : TypeId} {xs : List Value} {w : World} (s : Sat (rowH (.slice A n c) n e size xs) w) (hn : 0 < n) : ∃ g, A = some ⟨g, 0, none⟩ ∧ ∀ j u, xs[j]? = some u → w.cell? ⟨g, j, none⟩ = some u := by
  obtain ⟨h, hs, hl, r⟩ := s
  rcases r with ⟨h1, h2, _⟩ | ⟨g, cap, cur, h1, h2, h3, h4, h5, h6⟩
  · omega
  · injection h1 with h1 h1' h1''
    refine ⟨g, h1, fun j u hu => ?_⟩
    have hb : Blk w g e cur := hs g _ (by rw [h2]; simp)
    rw [hb.cell]
    rw [← h6, List.getElem?_take] at hu
    split at hu
    · simpa using hu
    · cases hu

/-- a loop that leaves the objects as they are -/
theorem LoopAt.heap {G : Gl} {body : St → (St → Prop) → Prop} {st : St} {α : Type} (Kp : List Nat) (S : α → List (Nat × SV)) (H : α → List HP) (pre : α → Prop) (μ : α → Nat) (a0 : α) (h0 : pre a0)
    (hB : Nat.ble G.B.length st.n = true) (s0 : leT st.n st.t (S a0)) (kk : leT st.n st.t (keepT st.t Kp)) (ho : leO st.n st.o st.o) (hh : ∀ h, sepL st.h G.R h → ∃ h', (∀ i o, h' i = some o → h i = some o) ∧ sepL (H a0) G.R h')
    (round : ∀ a, pre a → forceL (S a ++ keepT st.t Kp) fun t => body ⟨t, st.o, st.n, H a, True⟩ fun st' => stp st' fun st' => Next G pre μ (fun a => hd (S a) Kp st.o (H a) st) (μ a) st') : LoopAt G body st :=
  LoopAt.of Kp S (fun _ => st.o) H pre μ a0 h0 (Le.of (Nat.le_refl _) (Nat.le_of_ble_eq_true hB) (leT_append s0 kk) ho hh) round
theorem Next.heap {G : Gl} {st st' : St} {α : Type} {Kp : List Nat} {S : α → List (Nat × SV)} {H : α → List HP} {pre : α → Prop} {μ : α → Nat} {m : Nat} (a : α) (h : pre a) (hlt : μ a < m)
    (s0 : leT st.n st'.t (S a)) (kk : leT st.n st'.t (keepT st.t Kp)) (ho : leO st.n st'.o st.o) (hn : Nat.ble st.n st'.n = true) (hB : Nat.ble G.B.length st.n = true) (hh : ∀ h, sepL st'.h G.R h → ∃ h', (∀ i o, h' i = some o → h i = some o) ∧ sepL (H a) G.R h') :
    Next G pre μ (fun a => hd (S a) Kp st.o (H a) st) m st' :=
  ⟨a, h, hlt, Le.of (Nat.le_of_ble_eq_true hn) (Nat.le_of_ble_eq_true hB) (leT_append s0 kk) ho hh⟩
theorem sub_tail {A : HP} {l : List HP} {R : HP} {h : Hl} (s : sepL (A :: l) R h) : ∃ h', (∀ i o, h' i = some o → h i = some o) ∧ sepL l R h' := by
  obtain ⟨h1, h2, d, rfl, a, s⟩ := s
  refine ⟨h2, fun i o e => ?_, s⟩
  unfold un
  rcases d i with c | c
  · rw [c, e]; rfl
  · rw [c] at e; cases e
theorem sub_same {l : List HP} {R : HP} {h : Hl} (s : sepL l R h) : ∃ h', (∀ i o, h' i = some o → h i = some o) ∧ sepL l R h' := ⟨h, fun _ _ e => e, s⟩
end Sy
end Go.Proofs.YtihkhomnhggifaaGreatDoor

/-
  Symbolic runs: a region that draws its order, reads, and at its end makes a variable of what it has read.
-/
namespace Go.Proofs.YtihkhomnhggifaaGreatDoor
open Go.RowKit
namespace Sy
set_option linter.unusedVariables false
set_option linter.unusedSimpArgs false

/-- an operation that leaves the world alone -/
def opS (G : Gl) (o : Oper) (st : St) (K : St → Prop) : Prop :=
  match o.op with
  | .load t x => ev st x False fun vx => match vx with
    | .v (.pointer (some ad)) => stp st fun st => LoadAt G t ad st fun r => putK G st o.dst r none K
    | _ => q1 G.P G.tr st o False fun r q => putK G st o.dst r q K
  | _ => q1 G.P G.tr st o False fun r q => putK G st o.dst r q K
def Still1 (G : Gl) (o : Oper) (st : St) (K : St → Prop) : Prop :=
  st.c ∧ ∀ ρ a w0, Tm G st ρ a → Mem G st ρ w0 → ∃ v st', K st' ∧ SameM st st' ∧ (∀ w, Mem G st ρ w → (execOp a.eval o).run G.P w = .ok (.value v) w) ∧ Tm G st' ρ (a.put o.dst v)
theorem still_q1 {G : Gl} {o : Oper} {st : St} {K : St → Prop} (hK : Good K) (h : q1 G.P G.tr st o False fun r q => putK G st o.dst r q K) : Still1 G o st K := by
  rcases q1_sound h with h | ⟨x, q, h, hy⟩
  · exact h.elim
  · obtain ⟨⟨hc, hq⟩, hp⟩ := putK_same h hK
    refine ⟨hc, fun ρ a w0 m mm0 => ?_⟩
    have hy := hy hq
    obtain ⟨v, e1, e2⟩ := hy G ρ a w0 m mm0.ob
    obtain ⟨st', k, hs, m'⟩ := hp ρ a v e1 m
    refine ⟨v, st', k, hs, fun w' mm' => ?_, m'⟩
    obtain ⟨v', e3, e4⟩ := hy G ρ a w' m mm'.ob
    rw [e1] at e3
    injection e3 with e3
    subst e3
    exact e4
theorem opS_sound {G : Gl} {o : Oper} {st : St} {K : St → Prop} (h : opS G o st K) (hK : Good K) : Still1 G o st K := by
  unfold opS at h
  split at h
  case h_1 t x ho =>
    rcases ev_sound h with h | ⟨sx, h, ex⟩
    · exact h.elim
    split at h
    · rename_i ad
      obtain ⟨hc, ⟨r, hr, h⟩⟩ := stp_iff.1 h
      refine ⟨hc, fun ρ a w0 m mm0 => ?_⟩
      obtain ⟨_, hp⟩ := putK_same h hK
      obtain ⟨st', k, hs, m'⟩ := hp ρ a r rfl (m.same rfl)
      refine ⟨r, st', k, hs, fun w mm => ?_, m'⟩
      have h1 := ex G ρ a m
      simp only [SV.den, Option.some.injEq] at h1
      simp [execOp, ho, ← h1, hr ρ w (mm.same rfl rfl rfl)]
    · exact still_q1 hK h
  case h_2 => exact still_q1 hK h

/-- the operations that are left when the first k are through -/
def restB (ops : Array Oper) : Nat → Nat → Array Bool → Bool
  | 0, k, ls => decide (Region.ready .any ops ls = [k]) && (decide (Region.ready .any ops (ls.setIfInBounds k true) = [k + 1]) && decide (Region.ready .any ops ((ls.setIfInBounds k true).setIfInBounds (k + 1) true) = []))
  | f + 1, k, ls => (Region.ready .any ops ls).contains k && (Region.free .any ops ls k && restB ops f (k + 1) (ls.setIfInBounds k true))
def boxB (l : List Oper) (n : Nat) : Bool := Region.noSelect l.toArray && (decide (l.length = n + 2) && restB l.toArray n 0 (Array.replicate l.toArray.size false))

def chk (cs : List SV) (size : Nat) (A : Prop) : Prop := match Nat.beq cs.length size with
  | true => match oneL cs with
    | true => A
    | false => False
  | false => False
theorem chk_sound {cs : List SV} {size : Nat} {A : Prop} (h : chk cs size A) : cs.length = size ∧ oneL cs = true ∧ A := by
  unfold chk at h
  split at h
  · rename_i e
    split at h
    · rename_i e'; exact ⟨beq_of e, e', h⟩
    · exact h.elim
  · exact h.elim
/-- the variable is made, and takes its value -/
def mkBox (G : Gl) (d : Nat) (t : TypeId) (y : Operand) (size : Nat) (st : St) (K : St → Prop) : Prop := ev st y False fun vy => cellsK vy fun cs => chk cs size (newO G (some d) t cs st K)
theorem mkBox_sound {G : Gl} {d : Nat} {t : TypeId} {y : Operand} {size : Nat} {st : St} {K : St → Prop} (h : mkBox G d t y size st K) : ∃ (vy : SV) (cs : List SV), (∀ G ρ a, Tm G st ρ a → vy.den ρ = some (a.eval y)) ∧ (∀ ρ v, vy.den ρ = some v → denL ρ cs = some v.cells.toList) ∧ cs.length = size ∧ oneL cs = true ∧ newO G (some d) t cs st K := by
  rcases ev_sound h with h | ⟨s, h, e⟩
  · exact h.elim
  obtain ⟨cs, h, hd⟩ := cellsK_sound h
  obtain ⟨h1, h2, h3⟩ := chk_sound h
  exact ⟨s, cs, e, hd, h1, h2, h3⟩

theorem held_ops {G : Gl} {all : List Oper} {ρ : List Nat} {S : World → Prop} {Q : Exit → Act → World → Prop} {F : St → Prop} (hsel : Region.noSelect all.toArray = true) (hF : Good F) (hQ : ∀ o ∈ all, ∀ v c a w, Q (.panic c) (Act.put a o.dst v) w → Q (.panic c) a w) :
    ∀ (l : List Oper) (k : Nat) (ls : Array Bool) (st : St) (a : Act) (w : World), (∀ j, j < l.length → l[j]? = all[k + j]?) → (∀ w, S w → Mem G st ρ w) → S w → restB all.toArray l.length k ls = true → opsG (opS G) G all l st F → Tm G st ρ a →
      (∀ st' a' ls', SameM st st' → F st' → Tm G st' ρ a' → restB all.toArray 0 (k + l.length) ls' = true → wpAnyH G.P .any all.toArray Q S 2 ls' a' w) → wpAnyH G.P .any all.toArray Q S (l.length + 2) ls a w := by
  intro l
  induction l with
  | nil =>
    intro k ls st a w _ _ _ hB h m fin
    simp only [List.length_nil, Nat.zero_add]
    exact fin st a ls ⟨rfl, rfl, rfl⟩ h m (by simpa using hB)
  | cons o l ih =>
    intro k ls st a w hl hS hw hB h m fin
    have h0 : all.toArray[k]? = some o := by simpa using (hl 0 (by simp)).symm
    simp only [List.length_cons, restB, Bool.and_eq_true] at hB
    obtain ⟨hr, hf, hB'⟩ := hB
    have good : ∀ l, Good (fun st => opsG (opS G) G all l st F) := by
      intro l
      induction l with
      | nil => exact hF
      | cons o l ihg =>
        intro st h
        unfold opsG at h
        split at h
        · exact (opS_sound h ihg).1
        · rename_i j want hg
          split at h
          · split at h
            · split at h
              · split at h
                · exact (opS_sound h ihg).1
                · exact (putK_same h ihg).1.1
              · rename_i b hx
                by_cases hb : b = want
                · exact (opS_sound (h.1 hb) ihg).1
                · exact (putK_same (h.2 (by cases b <;> cases want <;> simp_all)) ihg).1.1
              · exact (putK_same h ihg).1.1
              · exact h.elim
            · exact h.elim
          · exact h.elim
    have step : ∀ (st1 st' : St) (a1 : Act) (v : Value), SameM st st1 → SameM st1 st' → opsG (opS G) G all l st' F → Tm G st' ρ (a1.put o.dst v) → a1 = a → YieldsIf G.P all.toArray S o v a → wpAnyH G.P .any all.toArray Q S ((o :: l).length + 2) ls a w := by
      rintro st1 st' a1 v s1 s2 k' m' rfl hy
      have s3 : SameM st st' := ⟨s2.1.trans s1.1, s2.2.1.trans s1.2.1, s2.2.2.trans s1.2.2⟩
      have : (o :: l).length + 2 = (l.length + 2) + 1 := by simp only [List.length_cons]
      rw [this]
      refine wpAnyH_take h0 hsel hf hr (fun c a w => hQ _ (List.mem_of_getElem? (by simpa using h0)) _ c a w) hy hw ?_
      refine ih (k + 1) _ st' _ w (fun j hj => ?_) (fun w hw => s3.mem.2 (hS w hw)) hw hB' k' m' ?_
      · have := hl (j + 1) (by simp; omega)
        simpa [Nat.add_assoc, Nat.add_comm 1 j] using this
      · intro st2 a2 ls2 s4 f2 m2 hb2
        refine fin st2 a2 ls2 ⟨s4.1.trans s3.1, s4.2.1.trans s3.2.1, s4.2.2.trans s3.2.2⟩ f2 m2 ?_
        have : k + (o :: l).length = k + 1 + l.length := by simp only [List.length_cons]; omega
        rw [this]; exact hb2
    have yes : ∀ st1 : St, SameM st st1 → Tm G st1 ρ a → (opS G o st1 fun st => opsG (opS G) G all l st F) → Region.wanted o (yielded all.toArray a.tmps) = true → wpAnyH G.P .any all.toArray Q S ((o :: l).length + 2) ls a w := by
      intro st1 s1 m1 h hwt
      obtain ⟨_, hq⟩ := opS_sound h (good l)
      obtain ⟨v, st', k', s2, hr', m'⟩ := hq ρ a w m1 (s1.mem.2 (hS w hw))
      exact step st1 st' a v s1 s2 k' m' rfl (.inl ⟨hwt, fun w hw => hr' w (s1.mem.2 (hS w hw))⟩)
    have no : ∀ st1 : St, SameM st st1 → Tm G st1 ρ a → (putK G st1 o.dst (.v undef) none fun st => opsG (opS G) G all l st F) → Region.wanted o (yielded all.toArray a.tmps) = false → wpAnyH G.P .any all.toArray Q S ((o :: l).length + 2) ls a w := by
      intro st1 s1 m1 h hwt
      obtain ⟨_, hp⟩ := putK_same h (good l)
      obtain ⟨st', k', s2, m'⟩ := hp ρ a undef rfl m1
      exact step st1 st' a undef s1 s2 k' m' rfl (.inr ⟨hwt, rfl⟩)
    unfold opsG at h
    split at h
    · rename_i hg
      exact yes st ⟨rfl, rfl, rfl⟩ m h (wanted_none hg _)
    · rename_i j want hg
      split at h
      · rename_i oj hj
        split at h
        · rename_i t ht
          split at h
          · rename_i b hx
            split at h
            · rename_i hb
              exact yes st ⟨rfl, rfl, rfl⟩ m h (by rw [wanted_eq hg hj ht hx rfl m, hb])
            · rename_i hb
              exact no st ⟨rfl, rfl, rfl⟩ m h (by rw [wanted_eq hg hj ht hx rfl m, hb])
          · rename_i b hx
            by_cases hb : b = want
            · subst hb
              exact yes (seen st t b) ⟨rfl, rfl, rfl⟩ (seen_tm m hx) (h.1 rfl) (by rw [wanted_eq hg hj ht hx rfl m]; simp)
            · have hb' : b = !want := by cases b <;> cases want <;> simp_all
              subst hb'
              exact no (seen st t (!want)) ⟨rfl, rfl, rfl⟩ (seen_tm m hx) (h.2 rfl) (by rw [wanted_eq hg hj ht hx rfl m]; simp)
          · rename_i hx
            exact no st ⟨rfl, rfl, rfl⟩ m h (wanted_undef hg hj ht hx m)
          · exact h.elim
        · exact h.elim
      · exact h.elim

theorem RegAt.box {G : Gl} {id : Nat} {l : List Oper} {st : St} {K : St → Prop} (n d : Nat) (t : TypeId) (y : Operand) {i : TypeInfo} {z : Value} {oa os : Oper} (hm : G.P.follows .mixedOrders = true) (hB : boxB l n = true) (ha : l[n]? = some oa) (hs : l[n + 1]? = some os)
    (ho1 : oa.op = .alloc t) (ho2 : oa.dst = some d) (ho3 : oa.guard = none) (hs1 : os.op = .store t (.tmp d) y) (hs2 : os.dst = none) (hs3 : os.guard = none) (hi : G.P.info? t = some i) (hz : i.zero = some z) (hzs : z.cells.size = i.size) (hyd : ∀ s, y = .tmp s → Nat.beq s d = false)
    (h : opsG (opS G) G l (l.take n) st fun st => mkBox G d t y i.size st fun st => stp st K) (hax : axFree G.AX l = true := by rfl) : RegAt G id l.toArray st K := by
  refine .mk fun ρ a w m mm => ?_
  simp only [boxB, Bool.and_eq_true, decide_eq_true_eq] at hB
  obtain ⟨hsel, hlen, hrest⟩ := hB
  have htl : (l.take n).length = n := by simp; omega
  have good : Good fun st => mkBox G d t y i.size st fun st => stp st K := by
    intro st h
    obtain ⟨_, _, _, _, _, _, h⟩ := mkBox_sound h
    exact (newO_sound h good_stp).1
  refine wp_region_held (S := fun w' => Below w.heap.size w w') hm ?_
  have hsz : l.toArray.size = (l.take n).length + 2 := by rw [htl]; simpa using hlen
  rw [hsz]
  have hw1 : Below w.heap.size w { w with drawn := w.drawn + 1 } := (Below.refl _ _).drew
  refine held_ops (ρ := ρ) (F := fun st => mkBox G d t y i.size st fun st => stp st K) hsel good (fun o ho v c a w hq => by rcases hq with ⟨hq, _⟩ | hq; cases hq; exact .inr (hq.put (axFree_spec hax o ho))) (l.take n) 0 _ st a _ (fun j hj => ?_) (fun w' hw' => mm.below hw') hw1 (by rw [htl, (show n + 2 = l.toArray.size from by rw [hsz, htl])]; exact hrest) h m ?_
  · rw [htl] at hj
    simp [hj]
  · intro st1 a1 ls s1 k m1 hb
    rw [htl, Nat.zero_add] at hb
    simp only [restB, Bool.and_eq_true, decide_eq_true_eq] at hb
    obtain ⟨b1, b2, b3⟩ := hb
    obtain ⟨vy, cs, hy1, hy2, hcl, hone, hnew⟩ := mkBox_sound k
    have ea : l.toArray[n]? = some oa := by simpa using ha
    have es : l.toArray[n + 1]? = some os := by simpa using hs
    refine wpAnyH_all b1 (by simp) fun j hj => ?_
    have hjn : n = j := (by simpa using hj : j = n).symm
    subst hjn
    unfold wpOp
    simp only [ea]
    rw [if_pos (wanted_none ho3 _)]
    left
    generalize hW : ({ w with drawn := w.drawn + 1 } : World) = W at *
    have hrun1 : (execOp a1.eval oa).run G.P W = .ok (.value (.pointer (some ⟨W.heap.size, 0, none⟩))) (W.alloc (.cells z.cells t)) := by
      simp [execOp, ho1, Instr.alloc, zeroValue, typeInfo, hi, hz, newVar, newRow, newObj]
      rfl
    unfold Oper.wp
    rw [hrun1]
    simp only [Oper.upon, ho2]
    have hW1 : Below w.heap.size w (W.alloc (.cells z.cells t)) := hw1.alloc hw1.size _
    refine ⟨hW1, wpAnyH_all b2 (by simp) fun j hj => ?_⟩
    have hjn : j = n + 1 := by simpa using hj
    subst hjn
    unfold wpOp
    simp only [es]
    rw [if_pos (wanted_none hs3 _)]
    left
    have mm1 : Mem G st1 ρ W := s1.mem.2 (mm.below hw1)
    have hlt : d < G.N := by
      obtain ⟨t', o', n', hh', c'⟩ := st1
      unfold newO at hnew
      simp only at hnew
      split at hnew
      · rename_i hi'; exact Nat.le_of_ble_eq_true hi'
      · exact hnew.elim
    have e1 : (a1.put (some d) (.pointer (some ⟨W.heap.size, 0, none⟩))).eval (.tmp d) = .pointer (some ⟨W.heap.size, 0, none⟩) := by
      simp [Act.eval, Act.put, m1.size, hlt]
    have e2 : (a1.put (some d) (.pointer (some ⟨W.heap.size, 0, none⟩))).eval y = a1.eval y := by
      refine Act.eval_put fun d' hd' hy' => ?_
      injection hd' with hd'
      subst hd'
      have := hyd _ hy'
      rw [Nat.beq_refl] at this
      cases this
    have hden := hy2 ρ _ (hy1 G ρ a1 m1)
    have hcsz : (a1.eval y).cells.size = i.size := by
      have := denL_length hden
      rw [← hcl, ← this]; simp
    have hblk : Blk (W.alloc (.cells z.cells t)) W.heap.size t z.cells := Blk.new _ _ _
    have hst := run_storeCells_at (P := G.P) W.heap.size 0 t (a1.eval y).cells.toList 0 z.cells (W.alloc (.cells z.cells t)) hblk (by simp; omega) (oneL_sound hone hden)
    have hcut : (z.cells.toList.take (0 + 0) ++ (a1.eval y).cells.toList ++ z.cells.toList.drop (0 + 0 + (a1.eval y).cells.toList.length)).toArray = (a1.eval y).cells := by
      rw [List.drop_eq_nil_of_le (by simp; omega)]
      simp
    rw [hcut] at hst
    have hrun2 : (execOp (a1.put (some d) (.pointer (some ⟨W.heap.size, 0, none⟩))).eval os).run G.P (W.alloc (.cells z.cells t)) = .ok .skip ((W.alloc (.cells z.cells t)).setRow W.heap.size (a1.eval y).cells) := by
      simp only [execOp, hs1, e1, e2, Instr.storeAt, Instr.sureAddr, storeVar, sizeOf, typeInfo, Sem.run_bind, Sem.run_pure, Result.andThen_ok]
      simp [hi, hcsz, hst]
    unfold Oper.wp
    rw [hrun2]
    simp only [Oper.upon, hs2]
    have hWa : (W.alloc (.cells z.cells t)).setRow W.heap.size (a1.eval y).cells = W.alloc (.cells (a1.eval y).cells t) := by
      simp only [World.alloc, World.setRow]
      congr 1
      apply Array.ext_getElem?
      intro q
      rw [Array.getElem?_modify]
      by_cases c : W.heap.size = q
      · subst c; simp
      · rw [if_neg c]
        simp only [Array.getElem?_push]
        rw [if_neg (fun x => c x.symm), if_neg (fun x => c x.symm)]
    rw [hWa]
    obtain ⟨_, hn⟩ := newO_sound hnew good_stp
    obtain ⟨st2, ρ2, k2, m2, mm2, _⟩ := hn ρ a1 W (a1.eval y).cells.toList hden m1 mm1
    refine ⟨hw1.alloc hw1.size _, wpAnyH_done b3 (.inl ⟨rfl, { st2 with c := True }, ρ2, (stp_iff.1 k2).2, ?_, ?_⟩) 0⟩
    · exact m2.same rfl
    · have := mm2.same (st' := { st2 with c := True }) rfl rfl rfl
      simpa using this

/-! groups: operations that only compute or read, in open order with a chain of others; behind a group comes what waits for all of it -/
inductive Stp | T (k : Nat) | H (k : Nat)
def stepsB (ops : Array Oper) (n : Nat) (F : Array Bool → Bool) : List Stp → Array Bool → Bool
  | [], ls => F ls && (Region.ready .any ops ls).all fun j => decide (n ≤ j)
  | .T k :: r, ls => decide (k < n) && ((Region.ready .any ops ls).contains k && (Region.free .any ops ls k && stepsB ops n F r (ls.setIfInBounds k true)))
  | .H k :: r, ls => decide (k < n) && (decide (Region.ready .any ops ls = [k]) && stepsB ops n F r (ls.setIfInBounds k true))
def grpsB (ops : Array Oper) : List (List Stp × Nat) → Array Bool → Bool
  | [], ls => decide (Region.ready .any ops ls = [])
  | (g, n) :: r, ls => (decide (ops.size ≤ n) || (decide (n < ops.size) && (Region.sinkB .any ops n && chainW ops n))) && (headW ops n ls && stepsB ops n (fun ls' => grpsB ops r ls') g ls)
def grpLen : List (List Stp × Nat) → Nat
  | [] => 0
  | (g, _) :: r => g.length + grpLen r
def groupsB (l : List Oper) (gs : List (List Stp × Nat)) : Bool := Region.noSelect l.toArray && (decide (grpLen gs = l.length) && grpsB l.toArray gs (Array.replicate l.toArray.size false))

def HdG (P : Program) (ops : Array Oper) (Q : Exit → Act → World → Prop) (S : World → Prop) (n : Nat) (L : Array Bool → Act → World → Prop) : Nat → Array Bool → Act → World → Prop
  | 0, ls, a, w => L ls a w
  | f + 1, ls, a, w => Region.ready .any ops ls ≠ [] ∧ ∀ i, i ∈ Region.ready .any ops ls → i < n ∧ wpOp P ops Q i (fun a' w' => S w' ∧ HdG P ops Q S n L f (ls.setIfInBounds i true) a' w') a w
theorem HdG.any {P : Program} {ops : Array Oper} {Q : Exit → Act → World → Prop} {S : World → Prop} {n g : Nat} {L : Array Bool → Act → World → Prop} (hL : ∀ ls a w, L ls a w → wpAny P .any ops Q g ls a w) :
    ∀ (f : Nat) (ls : Array Bool) (a : Act) (w : World), HdG P ops Q S n L f ls a w → wpAny P .any ops Q (f + g) ls a w
  | 0, ls, a, w, h => by rw [Nat.zero_add]; exact hL ls a w h
  | f + 1, ls, a, w, h => by
    rw [show f + 1 + g = (f + g) + 1 by omega]
    exact ⟨fun h0 => absurd h0 h.1, fun i hi => wpOp_mono (fun a' w' h' => HdG.any hL f _ a' w' h'.2) (h.2 i hi).2⟩
def wallB (ops : Array Oper) (n : Nat) : Prop := ops.size ≤ n ∨ (n < ops.size ∧ Region.sinkB .any ops n = true ∧ chainW ops n = true)
theorem wall_lt {ops : Array Oper} {n : Nat} (hn : wallB ops n) {ls : Array Bool} (inv : HeadInv .any ops n ls) {i : Nat} (hin : i < n) (hun : ls.getD i true = false) {j : Nat} (hj : j ∈ Region.ready .any ops ls) : j < n := by
  rcases hn with h | ⟨h1, h2, h3⟩
  · obtain ⟨_, oj, hoj, _⟩ := mem_ready.1 hj
    have := (Array.getElem?_eq_some_iff.1 hoj).1
    omega
  · exact Nat.lt_of_not_le fun c => tail_waitsW h2 h3 h1 inv _ i rfl hin hun j c hj
theorem HdG.take {P : Program} {ops : Array Oper} {Q : Exit → Act → World → Prop} {S : World → Prop} {n i : Nat} {oi : Oper} {v : Value} {L : Array Bool → Act → World → Prop} (hi : ops[i]? = some oi) (hsel : Region.noSelect ops = true) (hn : wallB ops n) (hin : i < n)
    (hQ : ∀ c a w, Q (.panic c) (a.put oi.dst v) w → Q (.panic c) a w) (hdone : ∀ ls a w, L ls a w → ∀ j ∈ Region.ready .any ops ls, n ≤ j) :
    ∀ (f : Nat) (ls : Array Bool) (a : Act) (w : World), HeadInv .any ops n ls →
      (∀ j oj, ops[j]? = some oj → j ≠ i → ls.getD j true = false → (∀ e ∈ oj.after, Region.binds .any e = true → e.on ≠ i) → oi.apart ops oj = true) →
      i ∈ Region.ready .any ops ls → YieldsIf P ops S oi v a → S w → HdG P ops Q S n L f (ls.setIfInBounds i true) (a.put oi.dst v) w → HdG P ops Q S n L (f + 1) ls a w := by
  have sel := Region.noSelect_spec hsel
  intro f
  induction f with
  | zero =>
    intro ls a w inv _ hr hy hS H
    have hun := (mem_ready.1 hr).1
    refine ⟨List.ne_nil_of_mem hr, fun j hj => ?_⟩
    have hjn := wall_lt hn inv hin hun hj
    refine ⟨hjn, ?_⟩
    by_cases hji : j = i
    · subst hji; exact hy.wpOp hi hS ⟨hS, H⟩
    · have := hdone _ _ _ H j (ready_mono hj hji)
      omega
  | succ f ih =>
    intro ls a w inv hfree hr hy hS H
    have hun := (mem_ready.1 hr).1
    refine ⟨List.ne_nil_of_mem hr, fun j hj => ?_⟩
    have hjn := wall_lt hn inv hin hun hj
    refine ⟨hjn, ?_⟩
    by_cases hji : j = i
    · subst hji; exact hy.wpOp hi hS ⟨hS, H⟩
    · have h1 := (H.2 j (ready_mono hj hji)).2
      obtain ⟨hjun, oj, hoj, hall⟩ := mem_ready.1 hj
      have hnot : ∀ e ∈ oj.after, Region.binds .any e = true → e.on ≠ i := by
        intro e he hb heq
        have h3 := hall e he hb
        rw [heq, getD_both hun] at h3
        cases h3
      have h2 := wpOp_putIf hoj (hfree j oj hoj hji hjun hnot) (fun cs b => sel i oi cs b hi) (fun cs b => sel j oj cs b hoj) hQ hy h1
      refine wpOp_mono (fun a' w' h3 => ⟨h3.2.1, ih (ls.setIfInBounds j true) a' w' (inv.set hj hjn) ?_ (ready_mono hr (Ne.symm hji)) h3.1 h3.2.1 ?_⟩) h2
      · intro k ok hk hki hunk hno
        refine hfree k ok hk hki ?_ hno
        by_cases hjk : j = k
        · subst hjk; exact hjun
        · rw [getD_set_ne true hjk] at hunk; exact hunk
      · rw [Array.setIfInBounds_comm _ _ hji]
        exact h3.2.2

/-- as opS; what is read stands in the memory at the group's start -/
def opT (G : Gl) (hs : List HP) (o : Oper) (st : St) (K : St → Prop) : Prop :=
  match o.op with
  | .load t x => ev st x False fun vx => match vx with
    | .v (.pointer (some ad)) => stp st fun st => LoadAt G t ad { st with h := hs } fun r => putK G st o.dst r none K
    | _ => q1 G.P G.tr st o False fun r q => putK G st o.dst r q K
  | _ => q1 G.P G.tr st o False fun r q => putK G st o.dst r q K
def TakeT (G : Gl) (hs : List HP) (o : Oper) (st : St) (K : St → Prop) : Prop :=
  st.c ∧ ∀ ρ a w0, Tm G st ρ a → Mem G { st with h := hs } ρ w0 → ∃ v st', K st' ∧ SameM st st' ∧ (∀ w, Mem G { st with h := hs } ρ w → (execOp a.eval o).run G.P w = .ok (.value v) w) ∧ Tm G st' ρ (a.put o.dst v)
theorem take_q1 {G : Gl} {hs : List HP} {o : Oper} {st : St} {K : St → Prop} (hK : Good K) (h : q1 G.P G.tr st o False fun r q => putK G st o.dst r q K) : TakeT G hs o st K := by
  rcases q1_sound h with h | ⟨x, q, h, hy⟩
  · exact h.elim
  · obtain ⟨⟨hc, hq⟩, hp⟩ := putK_same h hK
    refine ⟨hc, fun ρ a w0 m mm0 => ?_⟩
    have hy := hy hq
    obtain ⟨v, e1, e2⟩ := hy G ρ a w0 m mm0.ob
    obtain ⟨st', k, hs, m'⟩ := hp ρ a v e1 m
    refine ⟨v, st', k, hs, fun w' mm' => ?_, m'⟩
    obtain ⟨v', e3, e4⟩ := hy G ρ a w' m mm'.ob
    rw [e1] at e3
    injection e3 with e3
    subst e3
    exact e4
theorem opT_sound {G : Gl} {hs : List HP} {o : Oper} {st : St} {K : St → Prop} (h : opT G hs o st K) (hK : Good K) : TakeT G hs o st K := by
  unfold opT at h
  split at h
  case h_1 t x ho =>
    rcases ev_sound h with h | ⟨sx, h, ex⟩
    · exact h.elim
    split at h
    · rename_i ad
      obtain ⟨hc, ⟨r, hr, h⟩⟩ := stp_iff.1 h
      refine ⟨hc, fun ρ a w0 m mm0 => ?_⟩
      obtain ⟨_, hp⟩ := putK_same h hK
      obtain ⟨st', k, hs, m'⟩ := hp ρ a r rfl (m.same rfl)
      refine ⟨r, st', k, hs, fun w mm => ?_, m'⟩
      have h1 := ex G ρ a m
      simp only [SV.den, Option.some.injEq] at h1
      simp [execOp, ho, ← h1, hr ρ w (mm.same rfl rfl rfl)]
    · exact take_q1 hK h
  case h_2 => exact take_q1 hK h

/-- what a group leaves as it was -/
def Kept (G : Gl) (st0 st : St) : Prop := (st.o = st0.o ∧ st.n = st0.n) ∧ ∀ h, sepL st.h G.R h → ∃ h', (∀ i o, h' i = some o → h i = some o) ∧ sepL st0.h G.R h'
def grpG (G : Gl) (all : List Oper) (kp : Bool) (st0 : St) : List Stp → St → (St → Prop) → Prop
  | [], st, K => K st
  | .T k :: r, st, K => match kp with
    | true => match all[k]? with
      | some o => opsG (opT G st0.h) G all [o] st fun st => grpG G all kp st0 r st K
      | none => False
    | false => False
  | .H k :: r, st, K => match all[k]? with
    | some o => opsG (op1 G) G all [o] st fun st => match kp with
        | true => stp st fun st => Kept G st0 st ∧ grpG G all kp st0 r st K
        | false => grpG G all kp st0 r st K
    | none => False
def hasT : List Stp → Bool
  | [] => false
  | .T _ :: _ => true
  | .H _ :: r => hasT r
def grpsG (G : Gl) (all : List Oper) : List (List Stp × Nat) → St → (St → Prop) → Prop
  | [], st, K => stp st K
  | (g, _) :: r, st, K => grpG G all (hasT g) st g st fun st => grpsG G all r st K

theorem optT_good {G : Gl} {hs : List HP} {all : List Oper} {o : Oper} {F : St → Prop} (hF : Good F) : Good fun st => opsG (opT G hs) G all [o] st F := by
  intro st h
  unfold opsG at h
  have e : ∀ st, opsG (opT G hs) G all [] st F = F st := fun st => rfl
  simp only [e] at h
  split at h
  · exact (opT_sound h hF).1
  · rename_i j want hg
    split at h
    · split at h
      · split at h
        · split at h
          · exact (opT_sound h hF).1
          · exact (putK_same h hF).1.1
        · rename_i b hx
          by_cases hb : b = want
          · exact (opT_sound (h.1 hb) hF).1
          · exact (putK_same (h.2 (by cases b <;> cases want <;> simp_all)) hF).1.1
        · exact (putK_same h hF).1.1
        · exact h.elim
      · exact h.elim
    · exact h.elim
theorem takeG {G : Gl} {hs : List HP} {all : List Oper} {o : Oper} {st : St} {F : St → Prop} (h : opsG (opT G hs) G all [o] st F) (hF : Good F) {ρ : List Nat} {a : Act} {w0 : World} (m : Tm G st ρ a) (mm : Mem G { st with h := hs } ρ w0) :
    ∃ v st', F st' ∧ SameM st st' ∧ Tm G st' ρ (a.put o.dst v) ∧ YieldsIf G.P all.toArray (Mem G { st with h := hs } ρ) o v a := by
  unfold opsG at h
  have e : ∀ st, opsG (opT G hs) G all [] st F = F st := fun st => rfl
  simp only [e] at h
  have yes : ∀ st1 : St, SameM st st1 → Tm G st1 ρ a → opT G hs o st1 F → Region.wanted o (yielded all.toArray a.tmps) = true → ∃ v st', F st' ∧ SameM st st' ∧ Tm G st' ρ (a.put o.dst v) ∧ YieldsIf G.P all.toArray (Mem G { st with h := hs } ρ) o v a := by
    intro st1 s1 m1 h hwt
    obtain ⟨_, hq⟩ := opT_sound h hF
    have sx : SameM { st with h := hs } { st1 with h := hs } := ⟨s1.1, s1.2.1, rfl⟩
    obtain ⟨v, st', k', s2, hr', m'⟩ := hq ρ a w0 m1 (sx.mem.2 mm)
    exact ⟨v, st', k', ⟨s2.1.trans s1.1, s2.2.1.trans s1.2.1, s2.2.2.trans s1.2.2⟩, m', .inl ⟨hwt, fun w hw => hr' w (sx.mem.2 hw)⟩⟩
  have no : ∀ st1 : St, SameM st st1 → Tm G st1 ρ a → putK G st1 o.dst (.v undef) none F → Region.wanted o (yielded all.toArray a.tmps) = false → ∃ v st', F st' ∧ SameM st st' ∧ Tm G st' ρ (a.put o.dst v) ∧ YieldsIf G.P all.toArray (Mem G { st with h := hs } ρ) o v a := by
    intro st1 s1 m1 h hwt
    obtain ⟨_, hp⟩ := putK_same h hF
    obtain ⟨st', k', s2, m'⟩ := hp ρ a undef rfl m1
    exact ⟨undef, st', k', ⟨s2.1.trans s1.1, s2.2.1.trans s1.2.1, s2.2.2.trans s1.2.2⟩, m', .inr ⟨hwt, rfl⟩⟩
  split at h
  · rename_i hg
    exact yes st ⟨rfl, rfl, rfl⟩ m h (wanted_none hg _)
  · rename_i j want hg
    split at h
    · rename_i oj hj
      split at h
      · rename_i t ht
        split at h
        · rename_i b hx
          split at h
          · rename_i hb
            exact yes st ⟨rfl, rfl, rfl⟩ m h (by rw [wanted_eq hg hj ht hx rfl m, hb])
          · rename_i hb
            exact no st ⟨rfl, rfl, rfl⟩ m h (by rw [wanted_eq hg hj ht hx rfl m, hb])
        · rename_i b hx
          by_cases hb : b = want
          · subst hb
            exact yes (seen st t b) ⟨rfl, rfl, rfl⟩ (seen_tm m hx) (h.1 rfl) (by rw [wanted_eq hg hj ht hx rfl m]; simp)
          · have hb' : b = !want := by cases b <;> cases want <;> simp_all
            subst hb'
            exact no (seen st t (!want)) ⟨rfl, rfl, rfl⟩ (seen_tm m hx) (h.2 rfl) (by rw [wanted_eq hg hj ht hx rfl m]; simp)
        · rename_i hx
          exact no st ⟨rfl, rfl, rfl⟩ m h (wanted_undef hg hj ht hx m)
        · exact h.elim
      · exact h.elim
    · exact h.elim

theorem opG_good {G : Gl} {all : List Oper} {o : Oper} {F : St → Prop} {st : St} (h : opsG (op1 G) G all [o] st F) (hF : Good F) : st.c := (ops_sound (fun h hK => op1_sound h hK) h hF).1
/-- an operation, guarded or not -/
theorem guarded_op {G : Gl} {all : List Oper} {o : Oper} {st : St} {F : St → Prop} (h : opsG (op1 G) G all [o] st F) (hF : Good F) {Q : Exit → Act → World → Prop} (hx : ∀ e a w, PXE G e a w → Q e a w) {k : Nat} (ho2 : all.toArray[k]? = some o) {ρ : List Nat} {a : Act} {w : World} (m : Tm G st ρ a) (mm : Mem G st ρ w) :
    wpOp G.P all.toArray Q k (fun a' w' => ∃ st' ρ', F st' ∧ Tm G st' ρ' a' ∧ Mem G st' ρ' w' ∧ Ext ρ ρ') a w := by
  unfold opsG at h
  have e : ∀ st, opsG (op1 G) G all [] st F = F st := fun st => rfl
  simp only [e] at h
  have yes : ∀ st1 : St, SameM st st1 → Tm G st1 ρ a → op1 G o st1 F → Region.wanted o (yielded all.toArray a.tmps) = true → wpOp G.P all.toArray Q k (fun a' w' => ∃ st' ρ', F st' ∧ Tm G st' ρ' a' ∧ Mem G st' ρ' w' ∧ Ext ρ ρ') a w := by
    intro st1 s1 m1 h hwt
    unfold wpOp
    simp only [ho2]
    rw [if_pos hwt]
    exact .inl ((op1_soundX h hF).2 ρ a w Q hx m1 (s1.mem.2 mm))
  have no : ∀ st1 : St, SameM st st1 → Tm G st1 ρ a → putK G st1 o.dst (.v undef) none F → Region.wanted o (yielded all.toArray a.tmps) = false → wpOp G.P all.toArray Q k (fun a' w' => ∃ st' ρ', F st' ∧ Tm G st' ρ' a' ∧ Mem G st' ρ' w' ∧ Ext ρ ρ') a w := by
    intro st1 s1 m1 h hwt
    obtain ⟨_, hp⟩ := putK_same h hF
    obtain ⟨st', k', s2, m'⟩ := hp ρ a undef rfl m1
    unfold wpOp
    simp only [ho2]
    rw [if_neg (by rw [hwt]; decide)]
    exact ⟨st', ρ, k', m', s2.mem.2 (s1.mem.2 mm), Ext.refl _⟩
  split at h
  · rename_i hg
    exact yes st ⟨rfl, rfl, rfl⟩ m h (wanted_none hg _)
  · rename_i j want hg
    split at h
    · rename_i oj hj
      split at h
      · rename_i t ht
        split at h
        · rename_i b hx'
          split at h
          · rename_i hb
            exact yes st ⟨rfl, rfl, rfl⟩ m h (by rw [wanted_eq hg hj ht hx' rfl m, hb])
          · rename_i hb
            exact no st ⟨rfl, rfl, rfl⟩ m h (by rw [wanted_eq hg hj ht hx' rfl m, hb])
        · rename_i b hx'
          by_cases hb : b = want
          · subst hb
            exact yes (seen st t b) ⟨rfl, rfl, rfl⟩ (seen_tm m hx') (h.1 rfl) (by rw [wanted_eq hg hj ht hx' rfl m]; simp)
          · have hb' : b = !want := by cases b <;> cases want <;> simp_all
            subst hb'
            exact no (seen st t (!want)) ⟨rfl, rfl, rfl⟩ (seen_tm m hx') (h.2 rfl) (by rw [wanted_eq hg hj ht hx' rfl m]; simp)
        · rename_i hx'
          exact no st ⟨rfl, rfl, rfl⟩ m h (wanted_undef hg hj ht hx' m)
        · exact h.elim
      · exact h.elim
    · exact h.elim
theorem grpG_good {G : Gl} {all : List Oper} {kp : Bool} {st0 : St} {K : St → Prop} (hK : Good K) : ∀ g : List Stp, Good fun st => grpG G all kp st0 g st K
  | [] => hK
  | .T k :: r => fun st h => by
    unfold grpG at h
    split at h
    · split at h
      · exact optT_good (grpG_good hK r) _ h
      · exact h.elim
    · exact h.elim
  | .H k :: r => fun st h => by
    unfold grpG at h
    split at h
    · refine opG_good h fun st h => ?_
      split at h
      · exact (stp_iff.1 h).1
      · exact grpG_good hK r _ h
    · exact h.elim
theorem grpsG_good {G : Gl} {all : List Oper} {K : St → Prop} : ∀ gs : List (List Stp × Nat), Good fun st => grpsG G all gs st K
  | [] => good_stp
  | (g, n) :: r => fun st h => grpG_good (grpsG_good r) g _ h

theorem grp_sound {G : Gl} {all : List Oper} {Q : Exit → Act → World → Prop} {F : Array Bool → Bool} {K : St → Prop} {n : Nat} {kp : Bool} {st0 : St} {ρ0 : List Nat} (hx : ∀ e a w, PXE G e a w → Q e a w) (hsel : Region.noSelect all.toArray = true) (hQ : ∀ o ∈ all, ∀ v c a w, Q (.panic c) (Act.put a o.dst v) w → Q (.panic c) a w) (hn : wallB all.toArray n) (hK : Good K) :
    ∀ (g : List Stp) (ls : Array Bool) (st : St) (ρ : List Nat) (a : Act) (w : World), HeadInv .any all.toArray n ls → stepsB all.toArray n F g ls = true → grpG G all kp st0 g st K → Tm G st ρ a → Mem G st ρ w → (kp = true → ρ = ρ0 ∧ st.o = st0.o ∧ st.n = st0.n ∧ Mem G st0 ρ0 w) →
      HdG G.P all.toArray Q (fun w => kp = true → Mem G st0 ρ0 w) n (fun ls a w => (F ls = true ∧ (Region.ready .any all.toArray ls).all (fun j => decide (n ≤ j)) = true) ∧ ∃ st ρ, K st ∧ Tm G st ρ a ∧ Mem G st ρ w) g.length ls a w
  | [], ls, st, ρ, a, w, inv, hB, h, m, mm, hk => by
    simp only [stepsB, Bool.and_eq_true] at hB
    exact ⟨hB, st, ρ, h, m, mm⟩
  | .T k :: r, ls, st, ρ, a, w, inv, hB, h, m, mm, hk => by
    simp only [stepsB, Bool.and_eq_true, decide_eq_true_eq] at hB
    obtain ⟨hkn, hr, hf, hB⟩ := hB
    unfold grpG at h
    split at h
    · rename_i hkp
      obtain ⟨rfl, ho, hnn, mm0⟩ := hk rfl
      split at h
      · rename_i o ho'
        have ho2 : all.toArray[k]? = some o := by simpa using ho'
        have hr' : k ∈ Region.ready .any all.toArray ls := by simpa using hr
        have sx : SameM st0 { st with h := st0.h } := ⟨ho, hnn, rfl⟩
        obtain ⟨v, st', k', s', m', hy⟩ := takeG h (grpG_good hK r) m (sx.mem.2 mm0)
        have hy' : YieldsIf G.P all.toArray (fun w => true = true → Mem G st0 ρ w) o v a := by
          rcases hy with ⟨h1, h2⟩ | h
          · exact .inl ⟨h1, fun w hw => h2 w (sx.mem.2 (hw rfl))⟩
          · exact .inr h
        refine HdG.take ho2 hsel hn hkn (fun c a w => hQ _ (List.mem_of_getElem? ho') _ c a w) (fun ls a w hL j hj => ?_) r.length ls a w inv (Region.free_spec ho2 hf) hr' hy' (fun _ => mm0) ?_
        · have := List.all_eq_true.1 hL.1.2 j hj
          simpa using this
        · exact grp_sound hx hsel hQ hn hK r _ st' ρ _ w (inv.set hr' hkn) hB k' m' (s'.mem.2 mm) fun _ => ⟨rfl, s'.1.trans ho, s'.2.1.trans hnn, mm0⟩
      · exact h.elim
    · exact h.elim
  | .H k :: r, ls, st, ρ, a, w, inv, hB, h, m, mm, hk => by
    simp only [stepsB, Bool.and_eq_true, decide_eq_true_eq] at hB
    obtain ⟨hkn, hr, hB⟩ := hB
    unfold grpG at h
    split at h
    · rename_i o ho'
      have ho2 : all.toArray[k]? = some o := by simpa using ho'
      have hr' : k ∈ Region.ready .any all.toArray ls := by rw [hr]; simp
      refine ⟨List.ne_nil_of_mem hr', fun i hi => ?_⟩
      rw [hr] at hi
      have hik : i = k := by simpa using hi
      subst hik
      refine ⟨hkn, ?_⟩
      cases kp with
      | true =>
        have h : opsG (op1 G) G all [o] st fun st => stp st fun st => Kept G st0 st ∧ grpG G all true st0 r st K := h
        refine wpOp_mono (fun a' w' ⟨st', ρ', k', m', mm', ex'⟩ => ?_) (guarded_op h good_stp hx ho2 m mm)
        obtain ⟨_, hkeep, k'⟩ := stp_iff.1 k'
        obtain ⟨rfl, ho, hnn, mm0⟩ := hk rfl
        obtain ⟨⟨e1, e2⟩, e3⟩ := hkeep
        have hρ : ρ' = ρ := by
          obtain ⟨q, rfl⟩ := ex'
          have l1 := mm'.len
          have l2 := mm0.len
          simp only at e2
          have : q = [] := by
            apply List.eq_nil_of_length_eq_zero
            simp only [List.length_append] at l1
            omega
          rw [this]; simp
        subst hρ
        have mm2 : Mem G st0 ρ' w' := by
          obtain ⟨m1, m2, m3, m4, m5, m6, mk, hh, m7, m8, m9⟩ := mm'
          simp only at e1 e2
          obtain ⟨h', s1, s2⟩ := e3 hh m8
          refine ⟨m1, by rw [← e2]; exact m2, m3, m4, by rw [← e1]; exact m5, by rw [← e1]; exact m6, mk, h', m7.mono s1, s2, fun x hx b hb => ?_⟩
          have := m9 x (by rw [e1]; exact hx) b hb
          cases e' : h' b with
          | none => rfl
          | some ob => rw [s1 b ob e'] at this; cases this
        exact ⟨fun _ => mm2, grp_sound hx hsel hQ hn hK r _ _ ρ' a' w' (inv.set hr' hkn) hB k' (m'.same rfl) (mm'.same rfl rfl rfl) fun _ => ⟨rfl, e1, e2, mm2⟩⟩
      | false =>
        have h : opsG (op1 G) G all [o] st fun st => grpG G all false st0 r st K := h
        refine wpOp_mono (fun a' w' ⟨st', ρ', k', m', mm', ex'⟩ => ?_) (guarded_op h (grpG_good hK r) hx ho2 m mm)
        have key := grp_sound (kp := false) (st0 := st0) (ρ0 := ρ0) hx hsel hQ hn hK r _ st' ρ' a' w' (inv.set hr' hkn) hB k' m' mm' (fun c => by cases c)
        exact ⟨(fun c => by cases c), key⟩
    · exact h.elim

theorem grps_sound {G : Gl} {all : List Oper} {Q : Exit → Act → World → Prop} {K : St → Prop} (hx : ∀ e a w, PXE G e a w → Q e a w) (hsel : Region.noSelect all.toArray = true) (hQ : ∀ o ∈ all, ∀ v c a w, Q (.panic c) (Act.put a o.dst v) w → Q (.panic c) a w) (hend : ∀ st ρ a w, K st → Tm G st ρ a → Mem G st ρ w → Q .normal a w) :
    ∀ (gs : List (List Stp × Nat)) (ls : Array Bool) (st : St) (ρ : List Nat) (a : Act) (w : World), grpsB all.toArray gs ls = true → grpsG G all gs st K → Tm G st ρ a → Mem G st ρ w → wpAny G.P .any all.toArray Q (grpLen gs) ls a w
  | [], ls, st, ρ, a, w, hB, h, m, mm => by
    simp only [grpsB, decide_eq_true_eq] at hB
    exact ⟨hB, hend { st with c := True } ρ a w (stp_iff.1 h).2 (m.same rfl) (mm.same rfl rfl rfl)⟩
  | (g, n) :: r, ls, st, ρ, a, w, hB, h, m, mm => by
    simp only [grpsB, Bool.and_eq_true, Bool.or_eq_true, decide_eq_true_eq] at hB
    obtain ⟨hw, hh, hs⟩ := hB
    have key := grp_sound (F := fun ls' => grpsB all.toArray r ls') (kp := hasT g) (st0 := st) (ρ0 := ρ) hx hsel hQ hw (grpsG_good r) g ls st ρ a w (headW_spec hh) hs h m mm fun _ => ⟨rfl, rfl, rfl, mm⟩
    exact HdG.any (g := grpLen r) (fun ls' a' w' ⟨⟨hF, _⟩, st', ρ', k, m', mm'⟩ => grps_sound hx hsel hQ hend r ls' st' ρ' a' w' hF k m' mm') _ _ _ _ key
/-- a region that draws its order, by groups -/
theorem RegAt.groups {G : Gl} {id : Nat} {l : List Oper} {st : St} {K : St → Prop} (gs : List (List Stp × Nat)) (hm : G.P.follows .mixedOrders = true) (hB : groupsB l gs = true) (h : grpsG G l gs st K) (hax : axFree G.AX l = true := by rfl) : RegAt G id l.toArray st K := by
  simp only [groupsB, Bool.and_eq_true, decide_eq_true_eq] at hB
  obtain ⟨h1, h2, h3⟩ := hB
  refine .mk fun ρ a w m mm => ?_
  refine wp_region_any hm ?_
  have key := grps_sound (Q := fun e a' w' => (e = .normal ∧ ∃ st' ρ', K st' ∧ Tm G st' ρ' a' ∧ Mem G st' ρ' w') ∨ PXE G e a' w') (fun e a w hp => .inr hp) h1 (fun o ho v c a w hq => by rcases hq with ⟨hq, _⟩ | hq; cases hq; exact .inr (hq.put (axFree_spec hax o ho))) (fun st ρ a w k m mm => .inl ⟨rfl, st, ρ, k, m, mm⟩) gs _ st ρ a _ h3 h m mm.drew
  rw [h2] at key
  simpa using key
end Sy
end Go.Proofs.YtihkhomnhggifaaGreatDoor

/-
  Symbolic runs: stores into parts of the heap, rows that are made, calls through an interface, loads of whole structs.
-/
namespace Go.Proofs.YtihkhomnhggifaaGreatDoor
open Go.RowKit
namespace Sy
set_option linter.unusedVariables false
set_option linter.unusedSimpArgs false

/-- a call whose function the model finds by itself -/
theorem OpAt.enter {G : Gl} {o : Oper} {st : St} {K : St → Prop} {pre : List HP} {post : Value → List HP → Prop} (f : FuncId) (args : List Value) (rest : List HP) (hp : ∀ h, sepL st.h G.R h → sepL (pre ++ rest) G.R h) (hsel : notSel o.op = true) (hr : allR st o.op.operands.toList = true)
    (hrun : ∀ w, (execOp (evR st) o).run G.P w = .ok (.enter f args.toArray) w)
    (hf : ∀ R', (∀ w, Sat R' w → Sat (sepL rest G.R) w) → FnR G.P R' f args pre post) (k : ∀ v hs, post v hs → putK G { st with h := hs ++ rest } o.dst (.v v) none K) : OpAt G o st K := by
  refine .mk fun ρ a w m mm => ?_
  obtain ⟨h, h1, h2, h3, h4⟩ := mem_split mm
  have h2 := hp h h2
  rw [sepL_append] at h2
  have hc : execOp a.eval o = execOp (evR st) o := execOp_congr o (fun cs b => notSel_spec hsel cs b) fun x hx => allR_sound m hr x (by simpa using hx)
  unfold Oper.wp
  rw [hc, hrun]
  refine (hf (plus (obj st ρ w) (sepL rest G.R)) ?_ w ⟨_, h4.un h1, plus_in h3 h2⟩).mono ?_
  · rintro w' ⟨g, g1, ⟨g2, d, rfl, s⟩⟩
    exact ⟨g2, g1.right d, s⟩
  · rintro e w' ⟨v, hs, rfl, hv, ⟨g, g1, s⟩, hw⟩
    have mm' : Mem G { st with h := hs ++ rest } ρ w' := by
      refine mem_join mm hw g1 ?_
      have := plus_out s
      rwa [sepL_append]
    obtain ⟨st', k', m', mm2⟩ := putK_go (k v hs hv) (ρ := ρ) (v := v) rfl (m.same rfl) mm'
    exact ⟨st', ρ, k', m', mm2, Ext.refl _⟩
theorem OpAt.enterP {G : Gl} {o : Oper} {st : St} {K : St → Prop} (f : FuncId) (args : List Value) (v : Value) (hsel : notSel o.op = true) (hr : allR st o.op.operands.toList = true) (hrun : ∀ w, (execOp (evR st) o).run G.P w = .ok (.enter f args.toArray) w)
    (hf : ∀ R', (∀ w, Sat R' w → Sat (sepL st.h G.R) w) → PureR G.P R' f args v) (k : putK G st o.dst (.v v) none K) : OpAt G o st K := by
  refine OpAt.enter f args (pre := []) st.h (fun h s => s) hsel hr hrun hf ?_
  rintro r hs ⟨rfl, rfl⟩
  exact k
/-- an operation whose value the model's own text gives -/
theorem OpAt.val {G : Gl} {o : Oper} {st : St} {K : St → Prop} (v : Value) (hsel : notSel o.op = true) (hr : allR st o.op.operands.toList = true) (hrun : ∀ w, Sat (sepL st.h G.R) w → (execOp (evR st) o).run G.P w = .ok (.value v) w) (k : putK G st o.dst (.v v) none K) : OpAt G o st K := by
  refine .mk fun ρ a w m mm => ?_
  have hc : execOp a.eval o = execOp (evR st) o := execOp_congr o (fun cs b => notSel_spec hsel cs b) fun x hx => allR_sound m hr x (by simpa using hx)
  obtain ⟨st', k', m', mm2⟩ := putK_go k (ρ := ρ) (v := v) rfl m mm
  unfold Oper.wp
  rw [hc, hrun w mm.sat]
  exact ⟨st', ρ, k', m', mm2, Ext.refl _⟩
/-- a struct read whole -/
theorem LoadAt.agg {G : Gl} {st : St} {K : SV → Prop} {t : TypeId} {b off : Nat} {d : TypeDesc} (vs : List Value) (hu : G.P.underlying t = some d) (hd : d.isRow = true) (hi : (G.P.info? t).map (·.size) = some vs.length)
    (h : ∀ w, Sat (sepL st.h G.R) w → ∀ (j : Nat) (v : Value), vs[j]? = some v → w.cell? ⟨b, off + j, none⟩ = some v) (k : K (.v (.agg vs.toArray))) : LoadAt G t ⟨b, off, none⟩ st K :=
  .mk _ (fun ρ w m => run_loadAt_mid w b off t vs d (fun j v hv => h w m.sat j v hv) hu hd hi) k

/-- cells put in place of others -/
def putL (xs : List Value) (off : Nat) (ys : List Value) : List Value := xs.take off ++ ys ++ xs.drop (off + ys.length)
theorem putL_len {xs ys : List Value} {off : Nat} (h : off + ys.length ≤ xs.length) : (putL xs off ys).length = xs.length := by simp [putL]; omega
theorem putL_get {xs ys : List Value} {off : Nat} (h : off + ys.length ≤ xs.length) (k : Nat) : (putL xs off ys)[k]? = if off ≤ k ∧ k < off + ys.length then ys[k - off]? else xs[k]? := by
  unfold putL
  by_cases c : k < off
  · rw [List.append_assoc, List.getElem?_append_left (by simp; omega), List.getElem?_take_of_lt c, if_neg (by omega)]
  · by_cases c2 : k < off + ys.length
    · rw [List.append_assoc, List.getElem?_append_right (by simp; omega), List.getElem?_append_left (by simp; omega), if_pos ⟨by omega, c2⟩]
      congr 1
      simp; omega
    · rw [List.getElem?_append_right (by simp; omega), List.getElem?_drop, if_neg (by omega)]
      congr 1
      simp; omega

/-- a cell, or some, of a part of the heap written -/
theorem OpAt.store {G : Gl} {o : Oper} {st : St} {K : St → Prop} {t : TypeId} {x y : Operand} {A A' : HP} {i : TypeInfo} (b off : Nat) (v : Value) (rest : List HP) (ho : o.op = .store t x y) (hp : ∀ h, sepL st.h G.R h → sepL (A :: rest) G.R h) (hx : evR st x = .pointer (some ⟨b, off, none⟩)) (hy : evR st y = v)
    (hr : allR st o.op.operands.toList = true) (hi : G.P.info? t = some i) (hsz : v.cells.size = i.size) (h1 : ∀ u ∈ v.cells.toList, u.oneCell' = true)
    (hA : ∀ h, A h → ∃ ty cs, h b = some (.cells cs ty (0, 0)) ∧ off + v.cells.size ≤ cs.size ∧ A' fun j => if j = b then some (.cells (putL cs.toList off v.cells.toList).toArray ty (0, 0)) else h j)
    (k : putK G { st with h := A' :: rest } o.dst (.v undef) none K) : OpAt G o st K := by
  refine .mk fun ρ a w m mm => ?_
  obtain ⟨h, s1, s2, d0, s3⟩ := mem_split mm
  obtain ⟨g1, g2, d, rfl, a1, a2⟩ := hp h s2
  obtain ⟨ty, cs, hb, hoff, hA'⟩ := hA g1 a1
  have hc : execOp a.eval o = execOp (evR st) o := execOp_congr o (fun cs b => notSel_spec (by rw [ho]; rfl) cs b) fun x hx => allR_sound m hr x (by simpa using hx)
  have hwb : w.heap[b]? = some (.cells cs ty (0, 0)) := s1.left b _ hb
  have hg2 : g2 b = none := by
    rcases d b with e | e
    · rw [hb] at e; cases e
    · exact e
  have hob : obj st ρ w b = none := by
    rcases d0 b with e | e
    · exact e
    · unfold un at e; rw [hb] at e; cases e
  have hrun := run_storeCells_at (P := G.P) b off ty v.cells.toList 0 cs w hwb (by simp; omega) h1
  simp only [Nat.add_zero] at hrun
  have hrun' : (execOp (evR st) o).run G.P w = .ok .skip (w.setRow b (putL cs.toList off v.cells.toList).toArray) := by
    simp only [execOp, ho, hx, hy, Instr.storeAt, Instr.sureAddr, storeVar, sizeOf, typeInfo, Sem.run_bind, Sem.run_pure, Result.andThen_ok]
    simp [hi, hsz, hrun, putL]
  generalize hW : w.setRow b (putL cs.toList off v.cells.toList).toArray = w' at hrun'
  have hh : w'.heap[b]? = some (.cells (putL cs.toList off v.cells.toList).toArray ty (0, 0)) := by rw [← hW]; exact setRow_heap w b cs _ ty (0, 0) hwb
  have hne : ∀ j, j ≠ b → w'.heap[j]? = w.heap[j]? := fun j hj => by
    rw [← hW]
    simp only [World.setRow, Array.getElem?_modify]
    rw [if_neg (fun e => hj e.symm)]
  have hwd : Wd w w' := by
    rw [← hW]
    exact ⟨rfl, rfl, rfl, by simp [World.setRow]⟩
  have old : ∀ {g : Hl}, g b = none → Sub g w → Sub g w' := fun {g} hgb s j ob e => by
    have : j ≠ b := fun c => by subst c; rw [hgb] at e; cases e
    rw [hne j this]; exact s j ob e
  generalize hq : (fun j => if j = b then some (Obj.cells (putL cs.toList off v.cells.toList).toArray ty (0, 0)) else g1 j) = g1' at hA'
  have dom : ∀ j, g1' j = none ↔ g1 j = none := fun j => by
    rw [← hq]
    simp only
    by_cases c : j = b
    · subst c; simp [hb]
    · simp [c]
  have sub1 : Sub g1' w' := fun j ob e => by
    rw [← hq] at e
    simp only at e
    by_cases c : j = b
    · subst c; rw [if_pos rfl] at e; rw [← e]; exact hh
    · rw [if_neg c] at e; rw [hne j c]; exact s1.left j ob e
  have mm' : Mem G { st with h := A' :: rest } ρ w' := by
    refine mem_join (g := un (obj st ρ w) (un g1' g2)) mm hwd ((old hob s3).un (sub1.un (old hg2 (s1.right d)))) ⟨un g1' g2, fun j => ?_, rfl, g1', g2, fun j => ?_, rfl, hA', a2⟩
    · rcases d0 j with e | e
      · exact .inl e
      · exact .inr (un_none.2 ⟨(dom j).2 (un_none.1 e).1, (un_none.1 e).2⟩)
    · rcases d j with e | e
      · exact .inl ((dom j).2 e)
      · exact .inr e
  obtain ⟨st', k', m', mm2⟩ := putK_go k (ρ := ρ) (v := undef) rfl (m.same rfl) mm'
  unfold Oper.wp
  rw [hc, hrun']
  exact ⟨st', ρ, k', m', mm2, Ext.refl _⟩
/-- into a row -/
theorem row_put {g n cap size off : Nat} {e : TypeId} {xs ys : List Value} (h : off + ys.length ≤ n * size) {hl : Hl} (r : rowH (.slice (some ⟨g, 0, none⟩) n cap) n e size xs hl) :
    ∃ ty cs, hl g = some (.cells cs ty (0, 0)) ∧ off + ys.length ≤ cs.size ∧ rowH (.slice (some ⟨g, 0, none⟩) n cap) n e size (putL xs off ys) fun j => if j = g then some (.cells (putL cs.toList off ys).toArray ty (0, 0)) else hl j := by
  obtain ⟨hx, r⟩ := r
  rcases r with ⟨c, _⟩ | ⟨g', cap', cur, h1, h2, h3, h4, h5, h6⟩
  · cases c
  injection h1 with e1 e2 e3
  injection e1 with e1
  injection e1 with e1
  subst e1 e3
  have hcur : n * size ≤ cur.size := by rw [h5]; exact Nat.mul_le_mul_right _ h3
  refine ⟨e, cur, by rw [h2]; simp, by omega, by rw [putL_len (by omega)]; exact hx, .inr ⟨g, cap, (putL cur.toList off ys).toArray, rfl, fun j => ?_, h3, h4, ?_, ?_⟩⟩
  · by_cases c : j = g
    · subst c; simp
    · simp [c, h2]
  · simp only [List.size_toArray]
    rw [putL_len (by simp; omega)]
    simpa using h5
  · apply List.ext_getElem?
    intro k
    simp only [List.toList_toArray]
    rw [List.getElem?_take]
    by_cases c : k < n * size
    · rw [if_pos c, putL_get (by simp; omega), putL_get (by omega)]
      split
      · rfl
      · rw [← h6, List.getElem?_take_of_lt c]
    · rw [if_neg c, List.getElem?_eq_none]
      rw [putL_len (by omega)]; omega

/-- a row that is made -/
theorem OpAt.make {G : Gl} {o : Oper} {st : St} {K : St → Prop} {t e : TypeId} {x y : Operand} {i : TypeInfo} {z : Value} (n size : Nat) (zs : List Value) (ho : o.op = .makeSlice t x y) (hx : evR st x = .int .i64 (n : Int)) (hy : evR st y = .int .i64 (n : Int)) (hr : allR st o.op.operands.toList = true)
    (hu : G.P.underlying t = some (.slice e)) (hi : G.P.info? e = some i) (hz : i.zero = some z) (hsize : i.size = size) (hzs : (madeCells z.cells (n * size)).toList = zs) (hby : i.bytes * n ≤ 281474976710656) (hmax : n ≤ maxLen)
    (k : ∀ g, putK G { st with h := rowH (.slice (some ⟨g, 0, none⟩) n n) n e size zs :: st.h } o.dst (.v (.slice (some ⟨g, 0, none⟩) n n)) none K) : OpAt G o st K := by
  refine OpAt.sem (pre := []) (post := fun v hs => ∃ g, v = .slice (some ⟨g, 0, none⟩) n n ∧ hs = [rowH (.slice (some ⟨g, 0, none⟩) n n) n e size zs]) st.h (fun h s => s) (by rw [ho]; rfl) hr ?_ ?_
  · intro R' _ w s
    have hm := hmax
    simp only [maxLen] at hm
    have hrun := run_make w t e i z hu hi hz .i64 .i64 (n : Int) (n : Int) (by omega) (by omega) (by rw [← Int.natCast_mul]; omega) (by omega) (P := G.P)
    simp only [Int.toNat_natCast, hsize] at hrun
    have hlen : zs.length = n * size := by rw [← hzs]; simp [size_madeCells]
    refine ⟨_, _, w.alloc (.cells (madeCells z.cells (n * size)) e), ?_, ⟨w.heap.size, rfl, rfl⟩, ?_, .of_below ((Below.refl _ _).alloc (Nat.le_refl _) _)⟩
    · simp only [execOp, ho, hx, hy, hrun, Sem.run_bind, Result.andThen_ok, Sem.run_pure, Sem.run_map]
      try rfl
    · refine sat_row s ((Below.refl _ _).alloc (Nat.le_refl _) _) ⟨hlen, .inr ⟨_, n, madeCells z.cells (n * size), rfl, Nat.le_refl _, heap_alloc_new w _, Nat.le_refl _, hmax, size_madeCells _ _, ?_⟩⟩
      rw [hzs, List.take_of_length_le (by omega)]
  · rintro v hs ⟨g, rfl, rfl⟩
    exact k g
theorem made_const {z : Array Value} {v : Value} (h : ∀ i, i < z.size → z[i]! = v) (h0 : 0 < z.size) (n : Nat) : (madeCells z n).toList = List.replicate n v := by
  apply List.ext_getElem?
  intro k
  simp only [madeCells, Array.toList_map, Array.toList_range, List.getElem?_map]
  rw [List.getElem?_replicate]
  by_cases c : k < n
  · rw [if_pos c, List.getElem?_range c]
    simp [h _ (Nat.mod_lt _ h0)]
  · rw [if_neg c, List.getElem?_eq_none (by simp; omega)]
    rfl
/-- the world as it was -/
def was (w : World) : HP := fun g => g = fun i => w.heap[i]?
theorem was_ext {w w' : World} (s : Sat (was w) w') {i : Nat} {o : Obj} (h : w.heap[i]? = some o) : w'.heap[i]? = some o := by
  obtain ⟨g, g1, rfl⟩ := s
  exact g1 i o h
theorem was_blk {w w' : World} (s : Sat (was w) w') {b : Nat} {t : TypeId} {cs : Array Value} (h : Blk w b t cs) : Blk w' b t cs := was_ext s h
theorem sepL_shrink {A R : HP} (hA : ∀ h0, A h0 → ∃ g : Hl, (∀ i o, g i = some o → h0 i = some o) ∧ R g) : ∀ {l : List HP} {h : Hl}, sepL l A h → ∃ h' : Hl, (∀ i o, h' i = some o → h i = some o) ∧ sepL l R h'
  | [], h, s => hA h s
  | B :: l, h, s => by
    obtain ⟨h1, h2, d, rfl, b, s⟩ := s
    obtain ⟨h', e, s'⟩ := sepL_shrink hA s
    refine ⟨un h1 h', fun i o hi => ?_, h1, h', fun i => ?_, rfl, b, s'⟩
    · unfold un at hi ⊢
      rcases d i with c | c
      · rw [c] at hi ⊢; simp only [Option.none_or] at hi ⊢; exact e i o hi
      · cases hh : h' i with
        | none => rw [hh] at hi; simp only [Option.or_none] at hi; rw [hi]; rfl
        | some x => rw [e i x hh] at c; cases c
    · rcases d i with c | c
      · exact .inl c
      · right
        cases hh : h' i with
        | none => rfl
        | some x => rw [e i x hh] at c; cases c
/-- what is read may be read in one world alone -/
theorem FnR.fix {P : Program} {R : HP} {f : FuncId} {args : List Value} {post : Value → List HP → Prop} (h : ∀ w, Sat R w → FnR P (was w) f args [] post) : FnR P R f args [] post := by
  intro w hs
  refine (h w hs w ⟨_, fun i o e => e, rfl⟩).mono ?_
  rintro e w' ⟨v, hs', rfl, hv, ⟨g, g1, g2⟩, hw⟩
  obtain ⟨g0, s0, r0⟩ := hs
  obtain ⟨h', e', s'⟩ := sepL_shrink (R := R) (fun h0 hh => by
    have hh : h0 = fun i => w.heap[i]? := hh
    subst hh
    exact ⟨g0, s0, r0⟩) g2
  exact ⟨v, hs', rfl, hv, ⟨h', g1.mono e', s'⟩, hw⟩
theorem PureR.fix {P : Program} {R : HP} {f : FuncId} {args : List Value} {v : Value} (h : ∀ w, Sat R w → PureR P (was w) f args v) : PureR P R f args v := FnR.fix h
end Sy
end Go.Proofs.YtihkhomnhggifaaGreatDoor

/-
  Symbolic runs: regions by groups that keep only what is read; parts of the heap that are made of parts.
-/
namespace Go.Proofs.YtihkhomnhggifaaGreatDoor
open Go.RowKit
namespace Sy
set_option linter.unusedVariables false
set_option linter.unusedSimpArgs false

theorem sub_nil {R : HP} : ∀ {l : List HP} {h : Hl}, sepL l R h → ∃ h' : Hl, (∀ i o, h' i = some o → h i = some o) ∧ sepL [] R h'
  | [], h, s => ⟨h, fun _ _ e => e, s⟩
  | A :: l, h, s => by
    obtain ⟨h1, e1, s1⟩ := sub_tail s
    obtain ⟨h2, e2, s2⟩ := sub_nil s1
    exact ⟨h2, fun i o e => e1 i o (e2 i o e), s2⟩
/-- groups that keep the objects, and what is only read -/
def grpsG0 (G : Gl) (all : List Oper) : List (List Stp × Nat) → St → (St → Prop) → Prop
  | [], st, K => stp st K
  | (g, _) :: r, st, K => grpG G all (hasT g) { st with h := [] } g st fun st => grpsG0 G all r st K
theorem grpsG0_good {G : Gl} {all : List Oper} {K : St → Prop} : ∀ gs : List (List Stp × Nat), Good fun st => grpsG0 G all gs st K
  | [] => good_stp
  | (g, n) :: r => fun st h => grpG_good (grpsG0_good r) g _ h
theorem mem_nil {G : Gl} {st : St} {ρ : List Nat} {w : World} (m : Mem G st ρ w) : Mem G { st with h := [] } ρ w := by
  obtain ⟨m1, m2, m3, m4, m5, m6, mk, hh, m7, m8, m9⟩ := m
  obtain ⟨h', e, s⟩ := sub_nil m8
  refine ⟨m1, m2, m3, m4, m5, m6, mk, h', m7.mono e, s, fun x hx b hb => ?_⟩
  have := m9 x hx b hb
  cases c : h' b with
  | none => rfl
  | some o => rw [e b o c] at this; cases this
theorem grps0_sound {G : Gl} {all : List Oper} {Q : Exit → Act → World → Prop} {K : St → Prop} (hx : ∀ e a w, PXE G e a w → Q e a w) (hsel : Region.noSelect all.toArray = true) (hQ : ∀ o ∈ all, ∀ v c a w, Q (.panic c) (Act.put a o.dst v) w → Q (.panic c) a w) (hend : ∀ st ρ a w, K st → Tm G st ρ a → Mem G st ρ w → Q .normal a w) :
    ∀ (gs : List (List Stp × Nat)) (ls : Array Bool) (st : St) (ρ : List Nat) (a : Act) (w : World), grpsB all.toArray gs ls = true → grpsG0 G all gs st K → Tm G st ρ a → Mem G st ρ w → wpAny G.P .any all.toArray Q (grpLen gs) ls a w
  | [], ls, st, ρ, a, w, hB, h, m, mm => by
    simp only [grpsB, decide_eq_true_eq] at hB
    exact ⟨hB, hend { st with c := True } ρ a w (stp_iff.1 h).2 (m.same rfl) (mm.same rfl rfl rfl)⟩
  | (g, n) :: r, ls, st, ρ, a, w, hB, h, m, mm => by
    simp only [grpsB, Bool.and_eq_true, Bool.or_eq_true, decide_eq_true_eq] at hB
    obtain ⟨hw, hh, hs⟩ := hB
    have key := grp_sound (F := fun ls' => grpsB all.toArray r ls') (kp := hasT g) (st0 := { st with h := [] }) (ρ0 := ρ) hx hsel hQ hw (grpsG0_good r) g ls st ρ a w (headW_spec hh) hs h m mm fun _ => ⟨rfl, rfl, rfl, mem_nil mm⟩
    exact HdG.any (g := grpLen r) (fun ls' a' w' ⟨⟨hF, _⟩, st', ρ', k, m', mm'⟩ => grps0_sound hx hsel hQ hend r ls' st' ρ' a' w' hF k m' mm') _ _ _ _ key
theorem RegAt.groups0 {G : Gl} {id : Nat} {l : List Oper} {st : St} {K : St → Prop} (gs : List (List Stp × Nat)) (hm : G.P.follows .mixedOrders = true) (hB : groupsB l gs = true) (h : grpsG0 G l gs st K) (hax : axFree G.AX l = true := by rfl) : RegAt G id l.toArray st K := by
  simp only [groupsB, Bool.and_eq_true, decide_eq_true_eq] at hB
  obtain ⟨h1, h2, h3⟩ := hB
  refine .mk fun ρ a w m mm => ?_
  refine wp_region_any hm ?_
  have key := grps0_sound (Q := fun e a' w' => (e = .normal ∧ ∃ st' ρ', K st' ∧ Tm G st' ρ' a' ∧ Mem G st' ρ' w') ∨ PXE G e a' w') (fun e a w hp => .inr hp) h1 (fun o ho v c a w hq => by rcases hq with ⟨hq, _⟩ | hq; cases hq; exact .inr (hq.put (axFree_spec hax o ho))) (fun st ρ a w k m mm => .inl ⟨rfl, st, ρ, k, m, mm⟩) gs _ st ρ a _ h3 h m mm.drew
  rw [h2] at key
  simpa using key
/-- nothing -/
def emp : HP := fun h => ∀ i, h i = none
theorem emp_un {h g : Hl} (e : ∀ i, h i = none) : un h g = g := by funext i; simp [un, e i]
theorem sepL_emp {R : HP} : ∀ {l : List HP} {h1 h2 : Hl}, sepL l emp h1 → Dj h1 h2 → R h2 → sepL l R (un h1 h2)
  | [], h1, h2, e, _, r => by rw [emp_un e]; exact r
  | A :: l, h1, h2, s, d, r => by
    obtain ⟨a1, a2, d', rfl, a, s⟩ := s
    obtain ⟨d1, d2⟩ := d.un_left
    exact ⟨a1, un a2 h2, (Dj.un_of d'.symm d1.symm).symm, un_assoc _ _ _, a, sepL_emp s d2 r⟩
theorem emp_sepL {R : HP} : ∀ {l : List HP} {h : Hl}, sepL l R h → sep (sepL l emp) R h
  | [], h, r => ⟨fun _ => none, h, fun _ => .inl rfl, by rw [emp_un (fun _ => rfl)], fun _ => rfl, r⟩
  | A :: l, h, s => by
    obtain ⟨h1, h2, d, rfl, a, s⟩ := s
    obtain ⟨g1, g2, d2, rfl, s1, s2⟩ := emp_sepL s
    obtain ⟨d3, d4⟩ := d.symm.un_left
    exact ⟨un h1 g1, g2, Dj.un_of d4.symm d2, by rw [un_assoc], ⟨h1, g1, d3.symm, rfl, a, s1⟩, s2⟩
/-- a part that is some parts, laid out in some way -/
def boxH {α : Type} (parts : α → List HP) : HP := fun h => ∃ x, sepL (parts x) emp h
theorem boxH_open {α : Type} {parts : α → List HP} {l : List HP} {R : HP} {h : Hl} (s : sepL (boxH parts :: l) R h) : ∃ x, sepL (parts x ++ l) R h := by
  obtain ⟨h1, h2, d, rfl, ⟨x, a⟩, s⟩ := s
  refine ⟨x, ?_⟩
  rw [sepL_append]
  exact sepL_emp a d s
theorem boxH_shut {α : Type} {parts : α → List HP} (x : α) {l : List HP} {R : HP} {h : Hl} (s : sepL (parts x ++ l) R h) : sepL (boxH parts :: l) R h := by
  rw [sepL_append] at s
  obtain ⟨h1, h2, d, rfl, a, s⟩ := emp_sepL s
  exact ⟨h1, h2, d, rfl, ⟨x, a⟩, s⟩
theorem FnR.unbox {α : Type} {parts : α → List HP} {P : Program} {R : HP} {f : FuncId} {args : List Value} {l : List HP} {post : Value → List HP → Prop} (h : ∀ x, FnR P R f args (parts x ++ l) post) : FnR P R f args (boxH parts :: l) post := by
  rintro w ⟨g, g1, s⟩
  obtain ⟨x, s⟩ := boxH_open s
  exact h x w ⟨g, g1, s⟩
theorem Sat.unbox {α : Type} {parts : α → List HP} {w : World} (s : Sat (boxH parts) w) : ∃ x, Sat (sepL (parts x) emp) w := by
  obtain ⟨h, hs, x, s⟩ := s
  exact ⟨x, h, hs, s⟩
theorem OpAt.append1 {G : Gl} {o : Oper} {st : St} {K : St → Prop} {t e : TypeId} {s x : Operand} {i : TypeInfo} {z : Value} (v : Value) (n size bytes : Nat) (xs news : List Value) (A : Option Addr) (m c : Nat) (rest : List HP)
    (ho : o.op = .call { callee := .builtin .append, args := #[s, x], argTypes := #[t, t] }) (hp : ∀ h, sepL st.h G.R h → sepL (rowH v n e size xs :: rest) G.R h) (hs : evR st s = v) (hx : evR st x = .slice A m c) (hr : allR st o.op.operands.toList = true)
    (hu : G.P.underlying t = some (.slice e)) (hi : G.P.info? e = some i) (hz : i.zero = some z) (hsize : i.size = size) (hby : i.bytes = bytes) (hzs : z.cells.size = size) (hsz : 0 < size)
    (src : ∀ w, Sat (sepL rest G.R) w → Reads w w.heap.size size A m news) (h1 : ∀ u ∈ news, u.oneCell' = true) (h63 : n + m ≤ maxLen) (hbytes : (n + m) * bytes ≤ 140737488355328)
    (hpos : 0 < n + m) (k : ∀ g c', putK G { st with h := rowH (.slice (some ⟨g, 0, none⟩) (n + m) c') (n + m) e size (xs ++ news) :: rest } o.dst (.v (.slice (some ⟨g, 0, none⟩) (n + m) c')) none K) : OpAt G o st K := by
  refine OpAt.sem (pre := [rowH v n e size xs]) (post := fun v' hs => ∃ g c', v' = .slice (some ⟨g, 0, none⟩) (n + m) c' ∧ hs = [rowH (.slice (some ⟨g, 0, none⟩) (n + m) c') (n + m) e size (xs ++ news)]) rest hp (by rw [ho]; rfl) hr ?_ ?_
  · rintro R' hR' w ⟨h, hsub, h1', h2, d, rfl, hrow, hrest⟩
    have hown := rowH_own hrow hsub.left
    have hrd := src w (hR' w ⟨h2, hsub.right d, hrest⟩)
    obtain ⟨v', w', hrun, hown', hB, hg, hat⟩ := run_append_appl (P := G.P) w 0 t o.type e i z size bytes hu hi hz hsize hby hzs hsz v n xs (.inl hown) w.heap.size A m c news hrd h1 (.inr hown) h63 hbytes (Nat.zero_le _)
    obtain ⟨A', c', rfl, _⟩ := own_shape' hown'
    obtain ⟨g0, rfl⟩ : ∃ g0, A' = some ⟨g0, 0, none⟩ := by
      rcases hown'.2 with ⟨h1, h2⟩ | ⟨g0, cap, cur, h1, _⟩
      · omega
      · injection h1 with h1; exact ⟨g0, h1⟩
    obtain ⟨h1'', r1, s1, dom⟩ := own_rowH hown'
    have s2 : Sub h2 w' := fun j ob e' => by
      have hj := hsub.right d j ob e'
      have hlt := (Array.getElem?_eq_some_iff.1 hj).1
      rw [hg.block j hlt ?_]
      · exact hj
      · intro c0
        rcases d j with c1 | c1
        · exact rowH_ne hrow c0.symm c1
        · rw [c1] at e'; cases e'
    refine ⟨_, _, w', ?_, ⟨g0, c', rfl, rfl⟩, ⟨_, s1.un s2, h1'', h2, fun j => ?_, rfl, r1, hrest⟩, ⟨hg.os, hg.tape, hg.output, hg.size⟩⟩
    · have ha : (#[s, x] : Array Operand).map (evR st) = #[v, .slice A m c] := by simp [hs, hx]
      simp only [execOp, ho, resolve, invoke, builtin, Sem.run_bind, Sem.run_pure, Result.andThen_ok, ha, hrun]
    · by_cases c0 : h1'' j = none
      · exact .inl c0
      · right
        have hj := (dom j c0).1
        rcases hat with hat | ⟨g, hat, hge⟩
        · rw [hat] at hj
          rcases d j with c1 | c1
          · exact absurd c1 (rowH_ne hrow hj)
          · exact c1
        · rw [hat] at hj
          injection hj with hj
          subst hj
          exact (hsub.right d).none hge
  · rintro v' hs' ⟨A', c', rfl, rfl⟩
    exact k A' c'

/-- a weaker word for what is left -/
theorem FnR.post {P : Program} {R : HP} {f : FuncId} {args : List Value} {pre : List HP} {p q : Value → List HP → Prop} (h : FnR P R f args pre p) (hq : ∀ v hs, p v hs → ∃ hs', q v hs' ∧ ∀ h, sepL hs R h → sepL hs' R h) : FnR P R f args pre q := by
  intro w s
  refine (h w s).mono ?_
  rintro e w' ⟨v, hs, rfl, hv, ⟨g, g1, s'⟩, hw⟩
  obtain ⟨hs', h1, h2⟩ := hq v hs hv
  exact ⟨v, hs', rfl, h1, ⟨g, g1, h2 g s'⟩, hw⟩
theorem eq_struct2 {P : Program} {t : TypeId} {f0 f1 : Field} {ki : IntKind} (h0 : P.underlying t = some (.struct (P.fieldsOf t))) (hst : P.stoodInHeld t = false) (hf : (P.fieldsOf t).toList = [f0, f1]) (n0 : f0.name ≠ "_") (n1 : f1.name ≠ "_") (o0 : f0.offset = 0) (o1 : f1.offset = 1)
    (u0 : P.underlying f0.type = some (.int ki)) (u1 : P.underlying f1.type = some (.int ki)) (k : IntKind) (a b c d : Int) (w : World) : (Op.equalIn 10000 t (.agg #[.int k a, .int k b]) (.agg #[.int k c, .int k d])).run P w = .ok (a == c && b == d) w := by
  rw [run_equalIn_struct w 9999 t _ _ h0 hst, hf]
  have p0 : ∀ x y : Value, (part f0.type #[x, y] f0.offset).run P w = .ok x w := fun x y => run_part_plain w (by simp [Program.plainKey, u0]) (by rw [o0]; rfl)
  have p1 : ∀ x y : Value, (part f1.type #[x, y] f1.offset).run P w = .ok y w := fun x y => run_part_plain w (by simp [Program.plainKey, u1]) (by rw [o1]; rfl)
  have e0 := fun x y : Int => run_equalIn_int w 9998 f0.type k ki x y u0
  have e1 := fun x y : Int => run_equalIn_int w 9998 f1.type k ki x y u1
  simp only [Op.eqFields, n0, n1, ne_eq, not_false_eq_true, if_true, Sem.run_bind, p0, p1, e0, e1, Result.andThen_ok, Sem.run_ite, Sem.run_pure]
  cases (a == c) <;> cases (b == d) <;> simp
/-- structs compared -/
theorem OpAt.aggNe {G : Gl} {o : Oper} {st : St} {K : St → Prop} {t ty : TypeId} {x y : Operand} {xs ys : Array Value} {r : Bool} (ho : o.op = .binOp .neq t x y ty) (hx : evR st x = .agg xs) (hy : evR st y = .agg ys) (hr : allR st o.op.operands.toList = true) (hg : G.P.eqGuardType G.P.depth t = false)
    (heq : ∀ w, (Op.equalIn 10000 t (.agg xs) (.agg ys)).run G.P w = .ok r w) (k : putK G st o.dst (.v (.bool (!r))) none K) : OpAt G o st K := by
  refine OpAt.val (.bool (!r)) (by rw [ho]; rfl) hr (fun w _ => ?_) k
  simp [execOp, ho, hx, hy, run_eqGuard_agg _ _ _ _ _ _ _ hg, binOp, Op.equal, Op.maxDepth, heq]
theorem OpAt.aggEq {G : Gl} {o : Oper} {st : St} {K : St → Prop} {t ty : TypeId} {x y : Operand} {xs ys : Array Value} {r : Bool} (ho : o.op = .binOp .eql t x y ty) (hx : evR st x = .agg xs) (hy : evR st y = .agg ys) (hr : allR st o.op.operands.toList = true) (hg : G.P.eqGuardType G.P.depth t = false)
    (heq : ∀ w, (Op.equalIn 10000 t (.agg xs) (.agg ys)).run G.P w = .ok r w) (k : putK G st o.dst (.v (.bool r)) none K) : OpAt G o st K := by
  refine OpAt.val (.bool r) (by rw [ho]; rfl) hr (fun w _ => ?_) k
  simp [execOp, ho, hx, hy, run_eqGuard_agg _ _ _ _ _ _ _ hg, binOp, Op.equal, Op.maxDepth, heq]
end Sy
end Go.Proofs.YtihkhomnhggifaaGreatDoor

/-
  Symbolic runs: a range over a string, bytes made a string.
-/
namespace Go.Proofs.YtihkhomnhggifaaGreatDoor
open Go.RowKit
namespace Sy
set_option linter.unusedVariables false
set_option linter.unusedSimpArgs false

/-- a string's iterator -/
def itH (b : Nat) (s : ByteArray) (pos : Nat) : HP := fun h => ∀ i, h i = if i = b then some (.stringIter s pos) else none
theorem OpAt.range {G : Gl} {o : Oper} {st : St} {K : St → Prop} {t : TypeId} {x : Operand} (s : ByteArray) (ho : o.op = .range t x) (hx : evR st x = .string s) (hr : allR st o.op.operands.toList = true) (hu : G.P.underlying t = some .string)
    (k : ∀ b, putK G { st with h := itH b s 0 :: st.h } o.dst (.v (.pointer (some ⟨b, 0, none⟩))) none K) : OpAt G o st K := by
  refine OpAt.sem (pre := []) (post := fun v hs => ∃ b, v = .pointer (some ⟨b, 0, none⟩) ∧ hs = [itH b s 0]) st.h (fun h s => s) (by rw [ho]; rfl) hr ?_ ?_
  · intro R' _ w sat
    refine ⟨_, _, w.alloc (.stringIter s 0), ?_, ⟨w.heap.size, rfl, rfl⟩, ?_, .of_below ((Below.refl _ _).alloc (Nat.le_refl _) _)⟩
    · simp only [execOp, ho, hx, Instr.range, run_underlying hu, newObj, Sem.run_bind, Result.andThen_ok, Sem.run_pure]
      rfl
    · obtain ⟨h2, s2, a⟩ := sat
      have hb : Below w.heap.size w (w.alloc (.stringIter s 0)) := (Below.refl _ _).alloc (Nat.le_refl _) _
      refine ⟨un (fun i => if i = w.heap.size then some (.stringIter s 0) else none) h2, ?_, _, h2, fun i => ?_, rfl, fun i => rfl, a⟩
      · refine Sub.un (fun i o e => ?_) (s2.below hb)
        by_cases c : i = w.heap.size
        · subst c; rw [if_pos rfl] at e; rw [← e]; exact heap_alloc_new w _
        · rw [if_neg c] at e; cases e
      · by_cases c : i = w.heap.size
        · subst c; exact .inr (s2.none (Nat.le_refl _))
        · exact .inl (if_neg c)
  · rintro v hs ⟨b, rfl, rfl⟩
    exact k b
theorem OpAt.next {G : Gl} {o : Oper} {st : St} {K : St → Prop} {x : Operand} (b : Nat) (s : ByteArray) (pos : Nat) (rest : List HP) (ho : o.op = .next x true) (hp : ∀ h, sepL st.h G.R h → sepL (itH b s pos :: rest) G.R h) (hx : evR st x = .pointer (some ⟨b, 0, none⟩)) (hr : allR st o.op.operands.toList = true) (hlt : pos < s.size)
    (k : putK G { st with h := itH b s (pos + (Utf8.decode s pos).2) :: rest } o.dst (.v (.tuple #[.bool true, .int .i64 (pos : Int), .int .i32 ((Utf8.decode s pos).1 : Int)])) none K) : OpAt G o st K := by
  refine OpAt.sem (pre := [itH b s pos]) (post := fun v hs => v = .tuple #[.bool true, .int .i64 (pos : Int), .int .i32 ((Utf8.decode s pos).1 : Int)] ∧ hs = [itH b s (pos + (Utf8.decode s pos).2)]) rest hp (by rw [ho]; rfl) hr ?_ ?_
  · rintro R' _ w ⟨h, hsub, h1, h2, d, rfl, it, a⟩
    have hb : w.heap[b]? = some (.stringIter s pos) := hsub.left b _ (by rw [it]; simp)
    have hb2 : h2 b = none := by
      rcases d b with e | e
      · rw [it] at e; simp at e
      · exact e
    refine ⟨_, _, w.iterAt b s (pos + (Utf8.decode s pos).2), ?_, ⟨rfl, rfl⟩, ?_, ⟨rfl, rfl, rfl, by rw [Lib.iterAt_size]; exact Nat.le_refl _⟩⟩
    · simp only [execOp, ho, hx, Sem.run_bind, Lib.run_next_any_at w b s pos _ hb hlt, Result.andThen_ok, Sem.run_pure]
      try rfl
    · refine ⟨un (fun i => if i = b then some (.stringIter s (pos + (Utf8.decode s pos).2)) else none) h2, ?_, _, h2, fun i => ?_, rfl, fun i => rfl, a⟩
      · refine Sub.un (fun i o e => ?_) fun i o e => ?_
        · by_cases c : i = b
          · subst c; rw [if_pos rfl] at e; rw [← e]; exact Lib.iterAt_heap w _ s pos _ hb
          · rw [if_neg c] at e; cases e
        · have c : i ≠ b := fun c => by subst c; rw [hb2] at e; cases e
          rw [Lib.iterAt_other w b i s _ c]
          exact hsub.right d i o e
      · by_cases c : i = b
        · subst c; exact .inr hb2
        · exact .inl (if_neg c)
  · rintro v hs ⟨rfl, rfl⟩
    exact k
theorem OpAt.nextEnd {G : Gl} {o : Oper} {st : St} {K : St → Prop} {x : Operand} (b : Nat) (s : ByteArray) (pos : Nat) (rest : List HP) (ho : o.op = .next x true) (hp : ∀ h, sepL st.h G.R h → sepL (itH b s pos :: rest) G.R h) (hx : evR st x = .pointer (some ⟨b, 0, none⟩)) (hr : allR st o.op.operands.toList = true) (hlt : ¬ pos < s.size)
    (k : putK G st o.dst (.v (.tuple #[.bool false])) none K) : OpAt G o st K := by
  refine OpAt.val _ (by rw [ho]; rfl) hr (fun w sat => ?_) k
  obtain ⟨h, hsub, sp⟩ := sat
  obtain ⟨h1, h2, d, rfl, it, a⟩ := hp h sp
  have hb : w.heap[b]? = some (.stringIter s pos) := hsub.left b _ (by rw [it]; simp)
  simp only [execOp, ho, hx, Sem.run_bind, Lib.run_next_end_at w b s pos _ hb hlt, Result.andThen_ok, Sem.run_pure]

/-- a string of these bytes -/
def bs (l : List UInt8) : ByteArray := ⟨l.toArray⟩
@[simp] theorem bs_size (l : List UInt8) : (bs l).size = l.length := by simp [bs, ByteArray.size]
theorem bs_append (a b : List UInt8) : bs a ++ bs b = bs (a ++ b) := by
  apply ByteArray.ext
  simp [bs, ByteArray.data_append]
theorem bs_data (s : ByteArray) : bs s.data.toList = s := by simp [bs]
@[simp] theorem bs_toList (l : List UInt8) : (bs l).data.toList = l := by simp [bs]
theorem bs_inj {a b : List UInt8} : bs a = bs b ↔ a = b := ⟨fun h => by have := congrArg (fun s => s.data.toList) h; simpa using this, fun h => by rw [h]⟩
theorem bs_extract (l : List UInt8) (i j : Nat) : (bs l).extract i j = bs ((l.take j).drop i) := by
  apply ByteArray.ext
  simp [bs, ByteArray.data_extract, List.extract_eq_take_drop]
  rw [List.drop_take]
theorem byteAt_bs (l : List UInt8) (i : Nat) : byteAt (bs l) i = ((l[i]?).getD 0).toNat := by simp [byteAt]

/-- what the function made for itself is let go -/
theorem fin_drop {G : Gl} {st : St} {v r : Value} (e : r = v) : Fin G r st fun r hs => r = v ∧ hs = [] := ⟨[], fun w ⟨h, h1, s⟩ => by
  obtain ⟨h', e', s'⟩ := sub_nil s
  exact ⟨h', h1.mono e', s'⟩, e, rfl⟩

/-- a row of bytes made a string -/
theorem OpAt.bytesStr {G : Gl} {o : Oper} {st : St} {K : St → Prop} {src dst e : TypeId} {x : Operand} (g n cap : Nat) (l : List UInt8) (rest : List HP) (ho : o.op = .convert src dst x)
    (hp : ∀ h, sepL st.h G.R h → sepL (rowH (.slice (some ⟨g, 0, none⟩) n cap) n e 1 (l.map fun b => .int .u8 (b.toNat : Int)) :: rest) G.R h) (hx : evR st x = .slice (some ⟨g, 0, none⟩) n cap) (hr : allR st o.op.operands.toList = true)
    (hs : G.P.underlying src = some (.slice e)) (he : G.P.underlying e = some (.int .u8)) (hd : G.P.underlying dst = some .string)
    (k : putK G st o.dst (.v (.string (bs l))) none K) : OpAt G o st K := by
  refine OpAt.val _ (by rw [ho]; rfl) hr (fun w sat => ?_) k
  obtain ⟨h, hsub, sp⟩ := sat
  obtain ⟨h1, h2, d, rfl, r, a⟩ := hp h sp
  obtain ⟨hl, r⟩ := r
  have hn : n = l.length := by simpa using hl.symm
  subst hn
  rcases r with ⟨c, _⟩ | ⟨g', cap', cur, e1, e2, e3, e4, e5, e6⟩
  · cases c
  injection e1 with e1 _ _
  injection e1 with e1
  injection e1 with e1
  subst e1
  have hb : w.heap[g]? = some (.cells cur e (0, 0)) := hsub.left g _ (by rw [e2]; simp)
  have hc : ∀ j (hj : j < l.length), w.cell? ((⟨g, 0, none⟩ : Addr).add j) = some (.int .u8 (l[j].toNat : Int)) := fun j hj => by
    have h3 : cur.toList[j]? = some (.int .u8 (l[j].toNat : Int)) := by
      have : (cur.toList.take (l.length * 1))[j]? = some (.int .u8 (l[j].toNat : Int)) := by rw [e6]; simp [hj]
      rwa [List.getElem?_take_of_lt (by omega)] at this
    have : (⟨g, 0, none⟩ : Addr).add j = ⟨g, j, none⟩ := by cases j <;> simp [Addr.add]
    rw [this]
    unfold World.cell?
    rw [hb]
    simpa using h3
  simp only [execOp, ho, hx, Sem.run_bind, run_convert_bytes_back w src dst e ⟨g, 0, none⟩ cap l hs he hd hc, Result.andThen_ok, Sem.run_pure]
  rfl
end Sy
end Go.Proofs.YtihkhomnhggifaaGreatDoor

/-
  What the walks ask of the program's ways with open orders.
-/
namespace Go.Proofs.YtihkhomnhggifaaGreatDoor

theorem hmix : Tryz.prog.follows .mixedOrders = true := by kernel_rfl
end Go.Proofs.YtihkhomnhggifaaGreatDoor

/-
  How many digits a string begins with.
-/
namespace Go.Proofs.YtihkhomnhggifaaGreatDoor
open Go.RowKit
open Sy
set_option linter.unusedVariables false
set_option linter.unusedSimpArgs false
set_option maxRecDepth 100000
set_option maxHeartbeats 4000000

def isD (b : UInt8) : Bool := decide (48 ≤ b.toNat) && decide (b.toNat ≤ 57)
def nd : List UInt8 → Nat
  | [] => 0
  | b :: l => if isD b then nd l + 1 else 0
theorem nd_le : ∀ l : List UInt8, nd l ≤ l.length
  | [] => Nat.le_refl _
  | b :: l => by
    unfold nd
    have := nd_le l
    split <;> simp <;> omega
theorem drop_at {l : List UInt8} {a : Nat} (h : a < l.length) : l.drop a = l[a] :: l.drop (a + 1) := List.drop_eq_getElem_cons h
theorem nd_step {l : List UInt8} {a : Nat} (h : a < l.length) (hD : isD l[a] = true) : nd (l.drop a) = nd (l.drop (a + 1)) + 1 := by
  rw [drop_at h]
  show (if isD l[a] = true then _ else _) = _
  rw [if_pos hD]
theorem nd_stop {l : List UInt8} {a : Nat} (h : a < l.length) (hD : isD l[a] = false) : nd (l.drop a) = 0 := by
  rw [drop_at h]
  show (if isD l[a] = true then _ else _) = _
  rw [hD]
  rfl
theorem bs_get {l : List UInt8} {a : Nat} (h : a < (bs l).size) : (bs l)[a]'h = l[a]'(by simpa using h) := by
  show (bs l).data[a] = _
  simp [bs]
theorem sDigits {R : HP} (l : List UInt8) (hl : l.length ≤ 4611686018427387904) : PureR Tryz.prog R 130 [.string (bs l)] (.int .i64 (nd l : Int)) := by
  refine fn_of_run0 false Tryz.func130 rfl hmix rfl fun w0 => ?_
  conv => whnf
  refine ⟨trivial, OpAt.range (bs l) rfl rfl rfl rfl fun b => ?_⟩
  conv => whnf
  refine ⟨trivial, LoopAt.heap (α := Nat) [0, 6] (fun a => []) (fun a => [itH b (bs l) a]) (fun a => a ≤ l.length ∧ nd l = a + nd (l.drop a)) (fun a => l.length - a) 0 ⟨Nat.zero_le _, by simp⟩ rfl trivial ⟨⟨rfl, rfl⟩, ⟨rfl, rfl⟩, trivial⟩ trivial (fun h s => sub_same s) ?_⟩
  rintro a ⟨ha, hn⟩
  conv => whnf
  by_cases c : a < l.length
  · have c' : a < (bs l).size := by simpa using c
    have hd := drop_at c
    by_cases c2 : l[a].toNat < 128
    · refine ⟨trivial, OpAt.next b (bs l) a [] rfl (fun h s => s) rfl rfl c' ?_⟩
      rw [decode_ascii (bs l) a c' (by rw [bs_get]; exact c2), bs_get]
      conv => whnf
      refine iff_t rfl ?_
      conv => whnf
      refine ⟨fun h => ?_, fun h => ?_⟩
      · have h : ¬ (l[a].toNat : Int) < 48 := of_decide_eq_false h
        conv => whnf
        refine ⟨fun h2 => ?_, fun h2 => ?_⟩
        · have h2 : (57 : Int) < l[a].toNat := of_decide_eq_true h2
          conv => whnf
          refine ⟨trivial, fin_drop ?_⟩
          have : nd l = a := by rw [hn, hd]; simp [nd, isD]; omega
          rw [this]; rfl
        · have h2 : ¬ (57 : Int) < l[a].toNat := of_decide_eq_false h2
          conv => whnf
          refine ⟨trivial, Next.heap (a + 1) ⟨c, ?_⟩ (by omega) trivial ⟨⟨rfl, rfl⟩, ⟨rfl, rfl⟩, trivial⟩ trivial rfl rfl fun h s => sub_same s⟩
          have := nd_step c (by simp [isD]; omega)
          show nd l = _
          omega
      · have h : (l[a].toNat : Int) < 48 := of_decide_eq_true h
        conv => whnf
        refine ⟨trivial, fin_drop ?_⟩
        have : nd l = a := by rw [hn, hd]; simp [nd, isD]; omega
        rw [this]; rfl
    · refine ⟨trivial, OpAt.next b (bs l) a [] rfl (fun h s => s) rfl rfl c' ?_⟩
      have h3 := (decode_high (bs l) a c' (by rw [bs_get]; omega)).1
      have : nd l = a := by rw [hn, hd]; simp [nd, isD]; omega
      rw [this]
      generalize Utf8.decode (bs l) a = z at h3 ⊢
      conv => whnf
      refine iff_t rfl ?_
      conv => whnf
      refine ⟨fun h => ?_, fun h => ?_⟩
      · conv => whnf
        refine ⟨fun h2 => ?_, fun h2 => ?_⟩
        · conv => whnf
          exact ⟨trivial, fin_drop rfl⟩
        · have h2 := of_decide_eq_false h2
          exfalso; omega
      · have h := of_decide_eq_true h
        exfalso; omega
  · refine ⟨trivial, OpAt.nextEnd b (bs l) a [] rfl (fun h s => s) rfl rfl (by simpa using c) ?_⟩
    have : nd l = (bs l).size := by
      have e : l.drop a = [] := List.drop_eq_nil_of_le (by omega)
      rw [hn, e, bs_size]; simp [nd]; omega
    rw [this]
    conv => whnf
    refine iff_f rfl ?_
    conv => whnf
    exact ⟨trivial, fin_drop rfl⟩
end Go.Proofs.YtihkhomnhggifaaGreatDoor

/-
  The library's contracts that the numbers need: laid by the kit's lay-shelf.mjs and lay-plain.mjs, made a template by wip/plain2tpl.py.
-/
namespace Go.Proofs.YtihkhomnhggifaaGreatDoor
open Go.Shelf
def laysM173_ren : Go.Shelf.Ren := ⟨fun | 173 => 62 | 246 => 83 | 283 => 132 | 284 => 133 | 285 => 134 | 286 => 135 | 129 => 206 | 317 => 205 | 318 => 207 | 319 => 208 | 320 => 209 | 337 => 284 | 338 => 285 | n => n, fun | 2 => 2 | 3 => 3 | 9 => 9 | 4 => 4 | 171 => 219 | 0 => 0 | 53 => 122 | 37 => 27 | 5 => 5 | 173 => 222 | 212 => 330 | 51 => 225 | 20 => 20 | 213 => 331 | 46 => 117 | 232 => 472 | 233 => 473 | n => n, fun | 17 => 2 | 18 => 7 | 19 => 8 | n => n⟩
theorem laysM173 : Go.Proofs.LaysM.n173 Tryz.prog laysM173_ren := {
  mixed := by kernel_rfl
  f129 := Tryz.func206.trans (congrArg some (by kernel_rfl))
  f173 := Tryz.func62.trans (congrArg some (by kernel_rfl))
  f246 := Tryz.func83.trans (congrArg some (by kernel_rfl))
  f283 := Tryz.func132.trans (congrArg some (by kernel_rfl))
  f284 := Tryz.func133.trans (congrArg some (by kernel_rfl))
  f285 := Tryz.func134.trans (congrArg some (by kernel_rfl))
  f286 := Tryz.func135.trans (congrArg some (by kernel_rfl))
  f317 := Tryz.func205.trans (congrArg some (by kernel_rfl))
  f318 := Tryz.func207.trans (congrArg some (by kernel_rfl))
  f319 := Tryz.func208.trans (congrArg some (by kernel_rfl))
  f320 := Tryz.func209.trans (congrArg some (by kernel_rfl))
  f337 := Tryz.func284.trans (congrArg some (by kernel_rfl))
  f338 := Tryz.func285.trans (congrArg some (by kernel_rfl))
  t0 := Tryz.underlying0
  a0 := Tryz.isAgg0
  z0 := Tryz.sizeOf0
  v0 := Tryz.zeroValue0
  t2 := Tryz.underlying2
  a2 := Tryz.isAgg2
  z2 := Tryz.sizeOf2
  v2 := Tryz.zeroValue2
  t3 := Tryz.underlying3
  a3 := Tryz.isAgg3
  z3 := Tryz.sizeOf3
  v3 := Tryz.zeroValue3
  t4 := Tryz.underlying4
  a4 := Tryz.isAgg4
  z4 := Tryz.sizeOf4
  v4 := Tryz.zeroValue4
  t5 := Tryz.underlying5
  a5 := Tryz.isAgg5
  z5 := Tryz.sizeOf5
  v5 := Tryz.zeroValue5
  t9 := Tryz.underlying9
  a9 := Tryz.isAgg9
  z9 := Tryz.sizeOf9
  v9 := Tryz.zeroValue9
  t20 := Tryz.underlying20
  a20 := Tryz.isAgg20
  z20 := Tryz.sizeOf20
  v20 := Tryz.zeroValue20
  t37 := Tryz.underlying27
  a37 := Tryz.isAgg27
  z37 := Tryz.sizeOf27
  v37 := Tryz.zeroValue27
  t46 := Tryz.underlying117
  a46 := Tryz.isAgg117
  z46 := Tryz.sizeOf117
  v46 := Tryz.zeroValue117
  t51 := Tryz.underlying225
  a51 := Tryz.isAgg225
  z51 := Tryz.sizeOf225
  v51 := Tryz.zeroValue225
  t53 := Tryz.underlying122
  a53 := Tryz.isAgg122
  z53 := Tryz.sizeOf122
  v53 := Tryz.zeroValue122
  t171 := Tryz.underlying219
  a171 := Tryz.isAgg219
  z171 := Tryz.sizeOf219
  v171 := Tryz.zeroValue219
  t173 := Tryz.underlying222
  a173 := Tryz.isAgg222
  z173 := Tryz.sizeOf222
  v173 := Tryz.zeroValue222
  t212 := Tryz.underlying330
  a212 := Tryz.isAgg330
  z212 := Tryz.sizeOf330
  v212 := Tryz.zeroValue330
  t213 := Tryz.underlying331
  a213 := Tryz.isAgg331
  z213 := Tryz.sizeOf331
  t232 := Tryz.underlying472
  a232 := Tryz.isAgg472
  z232 := Tryz.sizeOf472
  v232 := Tryz.zeroValue472
  t233 := Tryz.underlying473
  a233 := Tryz.isAgg473
  z233 := Tryz.sizeOf473
  v233 := Tryz.zeroValue473
  g17 := by kernel_rfl
  g18 := by kernel_rfl
  g19 := by kernel_rfl
  i0 := by kernel_rfl
  i2 := by kernel_rfl
  i3 := by kernel_rfl
  i4 := by kernel_rfl
  i5 := by kernel_rfl
  i9 := by kernel_rfl
  i20 := by kernel_rfl
  i37 := by kernel_rfl
  i46 := by kernel_rfl
  i51 := by kernel_rfl
  i53 := by kernel_rfl
  i171 := by kernel_rfl
  i173 := by kernel_rfl
  i212 := by kernel_rfl
  i232 := by kernel_rfl
  i233 := by kernel_rfl
  m17 := by kernel_rfl
  m18 := by kernel_rfl
  m19 := by kernel_rfl }
open Go.RowKit Go.Sort Go.Lib in
theorem strconv_FormatInt_10 (n : Int) (h0 : -9223372036854775808 ≤ n) (h1 : n ≤ 9223372036854775807) (w : World) (htab : Lib.TabIs Tryz.prog w "internal/strconv.uint64pow10" .u64 Lib.pow10Tab) :
    Calls Tryz.prog 62 #[.int .i64 n, .int .i64 10] w fun e w' => e = .returned (.string ⟨(Lib.itoa n).toArray⟩) ∧ ∃ k os, w' = grow (w.drewN k) os := Any.strconv_FormatInt_10 laysM173 n h0 h1 w htab
def laysC174_ren : Go.Shelf.Ren := ⟨fun | 174 => 131 | 247 => 203 | 245 => 204 | 287 => 279 | 279 => 280 | 280 => 281 | 281 => 282 | 282 => 283 | 321 => 315 | 322 => 316 | 316 => 317 | 171 => 319 | 205 => 318 | 243 => 327 | 246 => 83 | 283 => 132 | 284 => 133 | 285 => 134 | 286 => 135 | 129 => 206 | 317 => 205 | 318 => 207 | 319 => 208 | 320 => 209 | 337 => 284 | 338 => 285 | n => n, fun | 9 => 9 | 3 => 3 | 2 => 2 | 75 => 90 | 85 => 217 | 4 => 4 | 167 => 425 | 5 => 5 | 53 => 122 | 175 => 426 | 46 => 117 | 168 => 428 | 37 => 27 | 0 => 0 | 210 => 470 | 21 => 21 | 127 => 121 | 145 => 489 | 143 => 487 | 171 => 219 | 173 => 222 | 212 => 330 | 51 => 225 | 20 => 20 | 213 => 331 | 232 => 472 | 233 => 473 | 80 => 93 | n => n, fun | 15 => 5 | 16 => 6 | 17 => 2 | 18 => 7 | 19 => 8 | n => n⟩
theorem laysC174 : Go.Proofs.LaysC.n174 Tryz.prog laysC174_ren := {
  mixed := by kernel_rfl
  f129 := Tryz.func206.trans (congrArg some (by kernel_rfl))
  f171 := Tryz.func319.trans (congrArg some (by kernel_rfl))
  f174 := Tryz.func131.trans (congrArg some (by kernel_rfl))
  f205 := Tryz.func318.trans (congrArg some (by kernel_rfl))
  f243 := Tryz.func327.trans (congrArg some (by kernel_rfl))
  f245 := Tryz.func204.trans (congrArg some (by kernel_rfl))
  f246 := Tryz.func83.trans (congrArg some (by kernel_rfl))
  f247 := Tryz.func203.trans (congrArg some (by kernel_rfl))
  f279 := Tryz.func280.trans (congrArg some (by kernel_rfl))
  f280 := Tryz.func281.trans (congrArg some (by kernel_rfl))
  f281 := Tryz.func282.trans (congrArg some (by kernel_rfl))
  f282 := Tryz.func283.trans (congrArg some (by kernel_rfl))
  f283 := Tryz.func132.trans (congrArg some (by kernel_rfl))
  f284 := Tryz.func133.trans (congrArg some (by kernel_rfl))
  f285 := Tryz.func134.trans (congrArg some (by kernel_rfl))
  f286 := Tryz.func135.trans (congrArg some (by kernel_rfl))
  f287 := Tryz.func279.trans (congrArg some (by kernel_rfl))
  f316 := Tryz.func317.trans (congrArg some (by kernel_rfl))
  f317 := Tryz.func205.trans (congrArg some (by kernel_rfl))
  f318 := Tryz.func207.trans (congrArg some (by kernel_rfl))
  f319 := Tryz.func208.trans (congrArg some (by kernel_rfl))
  f320 := Tryz.func209.trans (congrArg some (by kernel_rfl))
  f321 := Tryz.func315.trans (congrArg some (by kernel_rfl))
  f322 := Tryz.func316.trans (congrArg some (by kernel_rfl))
  f337 := Tryz.func284.trans (congrArg some (by kernel_rfl))
  f338 := Tryz.func285.trans (congrArg some (by kernel_rfl))
  t0 := Tryz.underlying0
  a0 := Tryz.isAgg0
  z0 := Tryz.sizeOf0
  v0 := Tryz.zeroValue0
  t2 := Tryz.underlying2
  a2 := Tryz.isAgg2
  z2 := Tryz.sizeOf2
  v2 := Tryz.zeroValue2
  t3 := Tryz.underlying3
  a3 := Tryz.isAgg3
  z3 := Tryz.sizeOf3
  v3 := Tryz.zeroValue3
  t4 := Tryz.underlying4
  a4 := Tryz.isAgg4
  z4 := Tryz.sizeOf4
  v4 := Tryz.zeroValue4
  t5 := Tryz.underlying5
  a5 := Tryz.isAgg5
  z5 := Tryz.sizeOf5
  v5 := Tryz.zeroValue5
  t9 := Tryz.underlying9
  a9 := Tryz.isAgg9
  z9 := Tryz.sizeOf9
  v9 := Tryz.zeroValue9
  t20 := Tryz.underlying20
  a20 := Tryz.isAgg20
  z20 := Tryz.sizeOf20
  v20 := Tryz.zeroValue20
  t21 := Tryz.underlying21
  a21 := Tryz.isAgg21
  z21 := Tryz.sizeOf21
  v21 := Tryz.zeroValue21
  t37 := Tryz.underlying27
  a37 := Tryz.isAgg27
  z37 := Tryz.sizeOf27
  v37 := Tryz.zeroValue27
  t46 := Tryz.underlying117
  a46 := Tryz.isAgg117
  z46 := Tryz.sizeOf117
  v46 := Tryz.zeroValue117
  t51 := Tryz.underlying225
  a51 := Tryz.isAgg225
  z51 := Tryz.sizeOf225
  v51 := Tryz.zeroValue225
  t53 := Tryz.underlying122
  a53 := Tryz.isAgg122
  z53 := Tryz.sizeOf122
  v53 := Tryz.zeroValue122
  t75 := Tryz.underlying90
  a75 := Tryz.isAgg90
  z75 := Tryz.sizeOf90
  v75 := Tryz.zeroValue90
  t85 := Tryz.underlying217
  a85 := Tryz.isAgg217
  z85 := Tryz.sizeOf217
  v85 := Tryz.zeroValue217
  t127 := Tryz.underlying121
  a127 := Tryz.isAgg121
  z127 := Tryz.sizeOf121
  v127 := Tryz.zeroValue121
  t143 := Tryz.underlying487
  a143 := Tryz.isAgg487
  z143 := Tryz.sizeOf487
  v143 := Tryz.zeroValue487
  t145 := Tryz.underlying489
  a145 := Tryz.isAgg489
  z145 := Tryz.sizeOf489
  v145 := Tryz.zeroValue489
  t167 := Tryz.underlying425
  a167 := Tryz.isAgg425
  z167 := Tryz.sizeOf425
  v167 := Tryz.zeroValue425
  t168 := Tryz.underlying428
  a168 := Tryz.isAgg428
  z168 := Tryz.sizeOf428
  v168 := Tryz.zeroValue428
  t171 := Tryz.underlying219
  a171 := Tryz.isAgg219
  z171 := Tryz.sizeOf219
  v171 := Tryz.zeroValue219
  t173 := Tryz.underlying222
  a173 := Tryz.isAgg222
  z173 := Tryz.sizeOf222
  v173 := Tryz.zeroValue222
  t175 := Tryz.underlying426
  a175 := Tryz.isAgg426
  z175 := Tryz.sizeOf426
  v175 := Tryz.zeroValue426
  t210 := Tryz.underlying470
  a210 := Tryz.isAgg470
  z210 := Tryz.sizeOf470
  v210 := Tryz.zeroValue470
  t212 := Tryz.underlying330
  a212 := Tryz.isAgg330
  z212 := Tryz.sizeOf330
  v212 := Tryz.zeroValue330
  t213 := Tryz.underlying331
  a213 := Tryz.isAgg331
  z213 := Tryz.sizeOf331
  t232 := Tryz.underlying472
  a232 := Tryz.isAgg472
  z232 := Tryz.sizeOf472
  v232 := Tryz.zeroValue472
  t233 := Tryz.underlying473
  a233 := Tryz.isAgg473
  z233 := Tryz.sizeOf473
  v233 := Tryz.zeroValue473
  g15 := by kernel_rfl
  g16 := by kernel_rfl
  g17 := by kernel_rfl
  g18 := by kernel_rfl
  g19 := by kernel_rfl
  t80 := Tryz.underlying93
  a80 := Tryz.isAgg93
  z80 := Tryz.sizeOf93
  v80 := Tryz.zeroValue93
  i0 := by kernel_rfl
  i2 := by kernel_rfl
  i3 := by kernel_rfl
  i4 := by kernel_rfl
  i5 := by kernel_rfl
  i9 := by kernel_rfl
  i20 := by kernel_rfl
  i21 := by kernel_rfl
  i37 := by kernel_rfl
  i46 := by kernel_rfl
  i51 := by kernel_rfl
  i53 := by kernel_rfl
  i75 := by kernel_rfl
  i80 := by kernel_rfl
  i85 := by kernel_rfl
  i127 := by kernel_rfl
  i143 := by kernel_rfl
  i145 := by kernel_rfl
  i167 := by kernel_rfl
  i168 := by kernel_rfl
  i171 := by kernel_rfl
  i173 := by kernel_rfl
  i175 := by kernel_rfl
  i210 := by kernel_rfl
  i212 := by kernel_rfl
  i232 := by kernel_rfl
  i233 := by kernel_rfl
  m15 := by kernel_rfl
  m16 := by kernel_rfl
  m17 := by kernel_rfl
  m18 := by kernel_rfl
  m19 := by kernel_rfl
  c0 := by kernel_rfl
  c2 := by kernel_rfl
  c3 := by kernel_rfl
  c4 := by kernel_rfl
  c5 := by kernel_rfl
  c9 := by kernel_rfl
  c20 := by kernel_rfl
  c21 := by kernel_rfl
  c37 := by kernel_rfl
  c46 := by kernel_rfl
  c51 := by kernel_rfl
  c53 := by kernel_rfl
  c75 := by kernel_rfl
  c80 := by kernel_rfl
  c85 := by kernel_rfl
  c127 := by kernel_rfl
  c143 := by kernel_rfl
  c145 := by kernel_rfl
  c167 := by kernel_rfl
  c168 := by kernel_rfl
  c171 := by kernel_rfl
  c173 := by kernel_rfl
  c175 := by kernel_rfl
  c210 := by kernel_rfl
  c212 := by kernel_rfl
  c213 := by kernel_rfl
  c232 := by kernel_rfl
  c233 := by kernel_rfl }
open Go.RowKit in
theorem strconv_ParseInt_10_at64_ok (s : ByteArray) (hmax : s.size ≤ 9223372036854775806) (v : Int) (h : Lib.parseIntB 64 s.data.toList = .ok v) (w : World) :
    Calls Tryz.prog 131 #[.string s, .int .i64 10, .int .i64 64] w fun e w' => e = .returned (.tuple #[.int .i64 v, .nilIface]) ∧ (w' = w ∨ ∃ t, w' = Lib.bytesWorld w 5 t) := Any.strconv_ParseInt_10_at64_ok laysC174 s hmax v h w
open Go.RowKit in
theorem strconv_ParseInt_10_at64_syntax_var (s : ByteArray) (hlim : s.size ≤ 281474976710656) (h : Lib.parseIntB 64 s.data.toList = Lib.NumEnd.syntax) (tp : TypeId) (p : Value) (w : World) (hvar : w.var? Tryz.prog "strconv.ErrSyntax" = some #[.iface tp p]) :
    Calls Tryz.prog 131 #[.string s, .int .i64 10, .int .i64 64] w fun e w' => ∃ N, e = .returned (.tuple #[.int .i64 (0), .iface 428 (.pointer (some ⟨N, 0, none⟩))]) ∧ w.heap.size ≤ N ∧ w'.heap[N]? = some (.cells #[.string ⟨#[80, 97, 114, 115, 101, 73, 110, 116]⟩, .string s, .iface tp p] 470 (0, 0)) ∧ Below w.heap.size w w' := Any.strconv_ParseInt_10_at64_syntax_var laysC174 s hlim h tp p w hvar
open Go.RowKit in
theorem strconv_ParseInt_10_at64_range_var (s : ByteArray) (hlim : s.size ≤ 281474976710656) (h : Lib.parseIntB 64 s.data.toList = .range) (tp : TypeId) (p : Value) (w : World) (hvar : w.var? Tryz.prog "strconv.ErrRange" = some #[.iface tp p]) :
    Calls Tryz.prog 131 #[.string s, .int .i64 10, .int .i64 64] w fun e w' => ∃ N, e = .returned (.tuple #[.int .i64 (Lib.intSat 64 s.data.toList), .iface 428 (.pointer (some ⟨N, 0, none⟩))]) ∧ w.heap.size ≤ N ∧ w'.heap[N]? = some (.cells #[.string ⟨#[80, 97, 114, 115, 101, 73, 110, 116]⟩, .string s, .iface tp p] 470 (0, 0)) ∧ Below w.heap.size w w' := Any.strconv_ParseInt_10_at64_range_var laysC174 s hlim h tp p w hvar
def lays101_ren : Go.Shelf.Ren := ⟨fun | 101 => 129 | 208 => 202 | 206 => 278 | n => n, fun | 9 => 9 | 4 => 4 | 3 => 3 | n => n, fun | n => n⟩
theorem lays101 : Go.Proofs.Lays.n101 Tryz.prog lays101_ren := {
  mixed := by kernel_rfl
  f101 := Tryz.func129.trans (congrArg some (by kernel_rfl))
  f206 := Tryz.func278.trans (congrArg some (by kernel_rfl))
  f208 := Tryz.func202.trans (congrArg some (by kernel_rfl))
  t3 := Tryz.underlying3
  a3 := Tryz.isAgg3
  z3 := Tryz.sizeOf3
  v3 := Tryz.zeroValue3
  t4 := Tryz.underlying4
  a4 := Tryz.isAgg4
  z4 := Tryz.sizeOf4
  v4 := Tryz.zeroValue4
  t9 := Tryz.underlying9
  a9 := Tryz.isAgg9
  z9 := Tryz.sizeOf9
  v9 := Tryz.zeroValue9 }
open Go.RowKit Go.Lib in
theorem strings_TrimPrefix (s p : ByteArray) (w : World) :
    Calls Tryz.prog 129 #[.string s, .string p] w fun e w' => e = .returned (.string ⟨(Lib.trimPrefix s.data.toList p.data.toList).toArray⟩) ∧ w' = w := Any.strings_TrimPrefix lays101 s p w
end Go.Proofs.YtihkhomnhggifaaGreatDoor

/-
  The library's contracts that the numbers need, in the words of symbolic runs.
-/
namespace Go.Proofs.YtihkhomnhggifaaGreatDoor
open Go.RowKit
open Sy
set_option linter.unusedVariables false
set_option linter.unusedSimpArgs false
set_option maxRecDepth 100000
set_option maxHeartbeats 4000000

/-- the tables and the errors that the library reads -/
def NumW (w : World) : Prop := Lib.TabIs Tryz.prog w "internal/strconv.uint64pow10" .u64 Lib.pow10Tab ∧ (∃ tp p, w.var? Tryz.prog "strconv.ErrRange" = some #[.iface tp p]) ∧ ∃ tp p, w.var? Tryz.prog "strconv.ErrSyntax" = some #[.iface tp p]
theorem sat_base {l : List HP} {R : HP} {w : World} (s : Sat (sepL l R) w) : Sat R w := by
  obtain ⟨h, h1, s⟩ := s
  obtain ⟨h', e, s'⟩ := sub_nil s
  exact ⟨h', h1.mono e, s'⟩
theorem sFormat {R : HP} (hN : ∀ w, Sat R w → NumW w) (n : Int) (h0 : -9223372036854775808 ≤ n) (h1 : n ≤ 9223372036854775807) : PureR Tryz.prog R 62 [.int .i64 n, .int .i64 10] (.string (bs (Lib.itoa n))) := by
  refine PureR.of_below fun w hw => (strconv_FormatInt_10 n h0 h1 w (hN w hw).1).mono ?_
  rintro e w' ⟨rfl, k, os, rfl⟩
  exact ⟨rfl, Lib.below_grow _ w (Nat.le_refl _) k os⟩
theorem sTrim {R : HP} (l p : List UInt8) : PureR Tryz.prog R 129 [.string (bs l), .string (bs p)] (.string (bs (Lib.trimPrefix l p))) := by
  refine PureR.of_below fun w hw => (strings_TrimPrefix (bs l) (bs p) w).mono ?_
  rintro e w' ⟨rfl, rfl⟩
  exact ⟨by simp only [bs_toList]; rfl, Below.refl _ _⟩
theorem sParse {R : HP} (l : List UInt8) (hl : l.length ≤ 9223372036854775806) {v : Int} (h : Lib.parseIntB 64 l = .ok v) : PureR Tryz.prog R 131 [.string (bs l), .int .i64 10, .int .i64 64] (.tuple #[.int .i64 v, .nilIface]) := by
  refine PureR.of_below fun w hw => (strconv_ParseInt_10_at64_ok (bs l) (by simpa using hl) v (by simpa using h) w).mono ?_
  rintro e w' ⟨rfl, hw'⟩
  refine ⟨rfl, ?_⟩
  rcases hw' with rfl | ⟨t, rfl⟩
  · exact Below.refl _ _
  · exact Lib.bytesWorld_below _ _ _
theorem sParseBad {R : HP} (hN : ∀ w, Sat R w → NumW w) (l : List UInt8) (hl : l.length ≤ 281474976710656) (h : ∀ v, Lib.parseIntB 64 l ≠ .ok v) : FnR Tryz.prog R 131 [.string (bs l), .int .i64 10, .int .i64 64] [] fun r hs => ∃ z N, r = .tuple #[.int .i64 z, .iface 428 (.pointer (some ⟨N, 0, none⟩))] ∧ hs = [] := by
  rintro w ⟨g, g1, g2⟩
  have key : Calls Tryz.prog 131 #[.string (bs l), .int .i64 10, .int .i64 64] w fun e w' => ∃ z N, e = .returned (.tuple #[.int .i64 z, .iface 428 (.pointer (some ⟨N, 0, none⟩))]) ∧ Below w.heap.size w w' := by
    obtain ⟨_, ⟨tp, p, e1⟩, tp', p', e2⟩ := hN w ⟨g, g1, g2⟩
    cases c : Lib.parseIntB 64 l with
    | ok v => exact absurd c (h v)
    | range =>
      refine (strconv_ParseInt_10_at64_range_var (bs l) (by simpa using hl) (by simpa using c) tp p w e1).mono ?_
      rintro e w' ⟨N, rfl, _, _, hb⟩
      exact ⟨_, N, rfl, hb⟩
    | _ =>
      refine (strconv_ParseInt_10_at64_syntax_var (bs l) (by simpa using hl) (by simpa using c) tp' p' w e2).mono ?_
      rintro e w' ⟨N, rfl, _, _, hb⟩
      exact ⟨_, N, rfl, hb⟩
  refine key.mono ?_
  rintro e w' ⟨z, N, rfl, hb⟩
  exact ⟨_, [], rfl, ⟨z, N, rfl, rfl⟩, ⟨g, g1.below hb, g2⟩, .of_below hb⟩
end Go.Proofs.YtihkhomnhggifaaGreatDoor

/-
  num.Scan, num.Read, num.Print.
-/
namespace Go.Proofs.YtihkhomnhggifaaGreatDoor
open Go.RowKit
open Sy
set_option linter.unusedVariables false
set_option linter.unusedSimpArgs false
set_option maxRecDepth 100000
set_option maxHeartbeats 4000000

/-- one byte if it begins with a '-' -/
def sgn (r : List UInt8) : Nat := if r.head? = some 45 then 1 else 0
theorem trim_sgn (r : List UInt8) : Lib.trimPrefix r [45] = r.drop (sgn r) := by
  cases r with
  | nil => rfl
  | cons a r =>
    unfold Lib.trimPrefix Lib.hasPrefix sgn
    by_cases c : a = 45
    · subst c; simp
    · have : ¬ (45 : UInt8) = a := fun e => c e.symm
      simp [c, this]
def numOf (p : Lib.NumEnd Int) (e : Int) : Int × Int × Int := match p with
  | .ok v => (v, e, 0)
  | _ => (0, 0, 7)
def scan (l : List UInt8) (at' : Int) : Int × Int × Int :=
  if at' < 0 ∨ (l.length : Int) < at' then (0, 0, 11) else
  let r := l.drop at'.toNat
  let n := nd (r.drop (sgn r))
  if n = 0 ∨ ((r.drop (sgn r))[0]? = some 48 ∧ (1 < n ∨ 0 < sgn r)) then (0, 0, 12) else
  numOf (Lib.parseIntB 64 (r.take (sgn r + n))) (at' + sgn r + n)
abbrev scanV (x : Int × Int × Int) : Value := .tuple #[.int .i64 x.1, .int .i64 x.2.1, .int .i64 x.2.2]
theorem sgn_le (r : List UInt8) : sgn r ≤ r.length := by
  cases r with
  | nil => simp [sgn]
  | cons a r => unfold sgn; split <;> simp
theorem u8_48 {l : List UInt8} (h : 0 < l.length) : (byteAt (bs l) 0 = 48) ↔ l[0]? = some 48 := by
  cases l with
  | nil => simp at h
  | cons a l =>
    rw [byteAt_bs]
    simp only [List.getElem?_cons_zero, Option.getD_some, Option.some.injEq]
    constructor
    · intro e
      apply UInt8.toNat_inj.1
      have : a.toNat = 48 := by omega
      rw [this]; rfl
    · rintro rfl; rfl

theorem sScan {R : HP} (hN : ∀ w, Sat R w → NumW w) (l : List UInt8) (hl : l.length ≤ 1048576) (at' : Int) : PureR Tryz.prog R 82 [.string (bs l), .int .i64 at'] (scanV (scan l at')) := by
  refine fn_of_run0 false Tryz.func82 rfl hmix rfl fun w0 => ?_
  conv => whnf
  refine ⟨fun h1 => ?_, fun h1 => ?_⟩
  · have h1 : ¬ at' < 0 := of_decide_eq_false h1
    conv => whnf
    refine ⟨fun h2 => ?_, fun h2 => ?_⟩
    · have h2 : ((bs l).size : Int) < at' := of_decide_eq_true h2
      rw [bs_size] at h2
      have e : scan l at' = (0, 0, 11) := by unfold scan; rw [if_pos (.inr h2)]
      rw [e]
      conv => whnf
      exact ⟨trivial, fin_drop rfl⟩
    · have h2 : ¬ ((bs l).size : Int) < at' := of_decide_eq_false h2
      rw [bs_size] at h2
      obtain ⟨n, rfl⟩ : ∃ n : Nat, at' = (n : Int) := ⟨at'.toNat, by omega⟩
      have hn : n ≤ l.length := by omega
      have ext : (bs l).extract (n : Int).toNat ((bs l).size : Int).toNat = bs (l.drop n) := by
        rw [bs_extract, Int.toNat_natCast, Int.toNat_natCast, bs_size, List.take_length]
      obtain ⟨r, hr⟩ : ∃ r, l.drop n = r := ⟨_, rfl⟩
      have hrl : r.length = l.length - n := by rw [← hr]; simp
      obtain ⟨q, hq⟩ : ∃ q, r.drop (sgn r) = q := ⟨_, rfl⟩
      have hql : q.length = r.length - sgn r := by rw [← hq]; simp
      have hsg := sgn_le r
      have hnd := nd_le q
      conv => whnf
      refine ⟨⟨trivial, by rw [bs_size]; omega⟩, CallAt.pure (v := .string (bs q)) (fun R' hR' => ?_) ?_⟩
      · rw [ext, hr, ← hq, ← trim_sgn]
        exact sTrim r [45]
      conv => whnf
      refine ⟨⟨⟨trivial, by rw [bs_size]; unfold rng; omega⟩, by rw [bs_size, bs_size]; unfold rng; omega⟩, CallAt.pure (fun R' hR' => sDigits q (by omega)) ?_⟩
      have hN2 : (scan l (n : Int)) = (if nd q = 0 ∨ (q[0]? = some 48 ∧ (1 < nd q ∨ 0 < sgn r)) then (0, 0, 12) else
          numOf (Lib.parseIntB 64 (r.take (sgn r + nd q))) ((n : Int) + sgn r + nd q)) := by
        unfold scan
        rw [if_neg (by omega)]
        simp only [Int.toNat_natCast, hr, hq]
      have ext2 : (bs l).extract (n : Int).toNat ((n : Int) + (((bs l).size : Int) - n - ((bs q).size : Int)) + (nd q : Int)).toNat = bs (r.take (sgn r + nd q)) := by
        rw [bs_extract, bs_size, bs_size]
        congr 1
        rw [List.drop_take, Int.toNat_natCast, hr]
        congr 1
        omega
      have sub1 : (n : Int) + (((bs l).size : Int) - n - ((bs q).size : Int)) + (nd q : Int) = (n : Int) + sgn r + nd q := by rw [bs_size, bs_size]; omega
      have sub2 : ((bs l).size : Int) - n - ((bs q).size : Int) = sgn r := by rw [bs_size, bs_size]; omega
      rw [sub2] at ext2
      have hsl : (r.take (sgn r + nd q)).length ≤ 1048576 := by rw [List.length_take]; omega
      rw [sub2]
      conv => whnf
      refine ⟨fun h3 => ?_, fun h3 => ?_⟩
      · have h3 : ¬ (nd q : Int) = 0 := of_decide_eq_false h3
        have hq0 : 0 < q.length := by omega
        have h48 := u8_48 hq0
        conv => whnf
        refine ⟨fun h4 => ?_, fun h4 => ?_⟩
        · have h4 := h48.1 (of_decide_eq_true h4)
          conv => whnf
          refine ⟨fun h5 => ?_, fun h5 => ?_⟩
          · have h5 := of_decide_eq_false h5
            conv => whnf
            refine ⟨fun h6 => ?_, fun h6 => ?_⟩
            · have h6 := of_decide_eq_true h6
              rw [hN2, if_pos (.inr ⟨h4, .inr (by omega)⟩)]
              conv => whnf
              exact ⟨⟨trivial, by rw [bs_size]; omega⟩, fin_drop rfl⟩
            · have h6 := of_decide_eq_false h6
              rw [hN2, if_neg (by omega)]
              conv => whnf
              refine ⟨⟨⟨⟨⟨trivial, by rw [bs_size]; omega⟩, by unfold rng; omega⟩, by unfold rng; omega⟩, by rw [bs_size]; omega⟩, ?_⟩
              by_cases hp : ∃ v, Lib.parseIntB 64 (r.take (sgn r + nd q)) = .ok v
              · obtain ⟨v, hp⟩ := hp
                refine CallAt.pure (v := .tuple #[.int .i64 v, .nilIface]) (fun R' hR' => by rw [ext2]; exact sParse _ (by omega) hp) ?_
                conv => whnf
                rw [hp]
                refine iff_f rfl ?_
                conv => whnf
                exact ⟨trivial, fin_drop rfl⟩
              · refine CallAt.fn (pre := []) [] (fun h s => s) (fun R' hR' => by rw [ext2]; exact sParseBad (fun w hw => hN w (sat_base (hR' w hw))) _ (by omega) fun v hv => hp ⟨v, hv⟩) ?_
                rintro _ _ ⟨z, N, rfl, rfl⟩
                have e7 : numOf (Lib.parseIntB 64 (r.take (sgn r + nd q))) ((n : Int) + sgn r + nd q) = (0, 0, 7) := by
                  cases c : Lib.parseIntB 64 (r.take (sgn r + nd q)) with
                  | ok v => exact absurd ⟨v, c⟩ hp
                  | _ => rfl
                rw [e7]
                conv => whnf
                refine iff_t rfl ?_
                conv => whnf
                exact ⟨trivial, fin_drop rfl⟩
          · have h5 := of_decide_eq_true h5
            rw [hN2, if_pos (.inr ⟨h4, .inl (by omega)⟩)]
            conv => whnf
            exact ⟨⟨trivial, by rw [bs_size]; omega⟩, fin_drop rfl⟩
        · have h4 : ¬ q[0]? = some 48 := fun e => (of_decide_eq_false h4) (h48.2 e)
          rw [hN2, if_neg (by rintro (e | ⟨e, _⟩); omega; exact h4 e)]
          conv => whnf
          refine ⟨⟨⟨⟨⟨trivial, by rw [bs_size]; omega⟩, by unfold rng; omega⟩, by unfold rng; omega⟩, by rw [bs_size]; omega⟩, ?_⟩
          by_cases hp : ∃ v, Lib.parseIntB 64 (r.take (sgn r + nd q)) = .ok v
          · obtain ⟨v, hp⟩ := hp
            refine CallAt.pure (v := .tuple #[.int .i64 v, .nilIface]) (fun R' hR' => by rw [ext2]; exact sParse _ (by omega) hp) ?_
            conv => whnf
            rw [hp]
            refine iff_f rfl ?_
            conv => whnf
            exact ⟨trivial, fin_drop rfl⟩
          · refine CallAt.fn (pre := []) [] (fun h s => s) (fun R' hR' => by rw [ext2]; exact sParseBad (fun w hw => hN w (sat_base (hR' w hw))) _ (by omega) fun v hv => hp ⟨v, hv⟩) ?_
            rintro _ _ ⟨z, N, rfl, rfl⟩
            have e7 : numOf (Lib.parseIntB 64 (r.take (sgn r + nd q))) ((n : Int) + sgn r + nd q) = (0, 0, 7) := by
              cases c : Lib.parseIntB 64 (r.take (sgn r + nd q)) with
              | ok v => exact absurd ⟨v, c⟩ hp
              | _ => rfl
            rw [e7]
            conv => whnf
            refine iff_t rfl ?_
            conv => whnf
            exact ⟨trivial, fin_drop rfl⟩
      · have h3 := of_decide_eq_true h3
        rw [hN2, if_pos (.inl (by omega))]
        conv => whnf
        exact ⟨trivial, fin_drop rfl⟩
  · have h1 : at' < 0 := of_decide_eq_true h1
    have e : scan l at' = (0, 0, 11) := by unfold scan; rw [if_pos (.inl h1)]
    rw [e]
    conv => whnf
    exact ⟨trivial, fin_drop rfl⟩
def read (l : List UInt8) : Int × Int :=
  let x := scan l 0
  if x.2.2 ≠ 0 then (0, x.2.2) else if x.2.1 < l.length then (0, 12) else (x.1, 0)
theorem sRead {R : HP} (hN : ∀ w, Sat R w → NumW w) (l : List UInt8) (hl : l.length ≤ 1048576) : PureR Tryz.prog R 61 [.string (bs l)] (.tuple #[.int .i64 (read l).1, .int .i64 (read l).2]) := by
  obtain ⟨x, hx⟩ : ∃ x, scan l 0 = x := ⟨_, rfl⟩
  have hr : read l = (if x.2.2 ≠ 0 then (0, x.2.2) else if x.2.1 < l.length then (0, 12) else (x.1, 0)) := by unfold read; rw [hx]
  refine fn_of_run0 false Tryz.func61 rfl hmix rfl fun w0 => ?_
  conv => whnf
  refine ⟨trivial, CallAt.pure (v := scanV x) (fun R' hR' => by rw [← hx]; exact sScan (fun w hw => hN w (sat_base (hR' w hw))) l hl 0) ?_⟩
  obtain ⟨a, b, c⟩ := x
  simp only at hr
  conv => whnf
  refine ⟨fun h1 => ?_, fun h1 => ?_⟩
  · have h1 : c ≠ 0 := by simpa using h1
    rw [hr, if_pos h1]
    conv => whnf
    exact ⟨trivial, fin_drop rfl⟩
  · have h1 : c = 0 := by simpa using h1
    rw [hr, if_neg (by simpa using h1)]
    conv => whnf
    refine ⟨fun h2 => ?_, fun h2 => ?_⟩
    · have h2 := of_decide_eq_true h2
      rw [bs_size] at h2
      rw [if_pos h2]
      conv => whnf
      exact ⟨trivial, fin_drop rfl⟩
    · have h2 := of_decide_eq_false h2
      rw [bs_size] at h2
      rw [if_neg h2]
      conv => whnf
      exact ⟨trivial, fin_drop rfl⟩
theorem sPrint {R : HP} (hN : ∀ w, Sat R w → NumW w) (n : Int) (h0 : -9223372036854775808 ≤ n) (h1 : n ≤ 9223372036854775807) : PureR Tryz.prog R 50 [.int .i64 n] (.string (bs (Lib.itoa n))) := by
  refine fn_of_run0 false Tryz.func50 rfl hmix rfl fun w0 => ?_
  conv => whnf
  refine ⟨trivial, CallAt.pure (fun R' hR' => sFormat (fun w hw => hN w (sat_base (hR' w hw))) n h0 h1) ?_⟩
  conv => whnf
  exact ⟨trivial, fin_drop rfl⟩
end Go.Proofs.YtihkhomnhggifaaGreatDoor

/-
  What a run of digits stands for, and what strconv.ParseInt makes of it.
-/
namespace Go.Proofs.YtihkhomnhggifaaGreatDoor
open Go.RowKit
open Sy
set_option linter.unusedVariables false
set_option linter.unusedSimpArgs false
set_option maxRecDepth 100000
set_option maxHeartbeats 4000000

def dv (a : Nat) (l : List UInt8) : Nat := l.foldl (fun a c => a * 10 + (c.toNat - 48)) a
theorem dv_le : ∀ (l : List UInt8) (a : Nat), a ≤ dv a l
  | [], a => Nat.le_refl _
  | c :: l, a => by
    have := dv_le l (a * 10 + (c.toNat - 48))
    show a ≤ dv (a * 10 + (c.toNat - 48)) l
    omega
theorem dv_append (a : Nat) (l m : List UInt8) : dv a (l ++ m) = dv (dv a l) m := by simp [dv, List.foldl_append]
theorem dv_take_le (l : List UInt8) {i j : Nat} (h : i ≤ j) : dv 0 (l.take i) ≤ dv 0 (l.take j) := by
  have : l.take j = l.take i ++ (l.take j).drop i := by
    have := (List.take_append_drop i (l.take j)).symm
    rwa [List.take_take, Nat.min_eq_left h] at this
  rw [this, dv_append]
  exact dv_le _ _
theorem dv_succ (l : List UInt8) {i : Nat} (h : i < l.length) : dv 0 (l.take (i + 1)) = dv 0 (l.take i) * 10 + (l[i].toNat - 48) := by
  rw [List.take_succ_eq_append_getElem h, dv_append]
  rfl
theorem isD_iff {c : UInt8} : isD c = true ↔ 48 ≤ c.toNat ∧ c.toNat ≤ 57 := by simp [isD]
theorem pM : ∀ (l : List UInt8) (a : Nat), (∀ c ∈ l, isD c = true) → a ≤ 18446744073709551615 → Lib.parseUintM 18446744073709551615 a l = if dv a l ≤ 18446744073709551615 then .ok (dv a l) else .range
  | [], a, _, ha => by
    show Lib.NumEnd.ok a = _
    rw [show dv a [] = a from rfl, if_pos ha]
  | c :: l, a, h, ha => by
    have hc := isD_iff.1 (h c List.mem_cons_self)
    have e : dv a (c :: l) = dv (a * 10 + (c.toNat - 48)) l := rfl
    have h2 := dv_le l (a * 10 + (c.toNat - 48))
    rw [e]
    unfold Lib.parseUintM
    rw [if_pos hc]
    by_cases c1 : 1844674407370955162 ≤ a
    · rw [if_pos c1, if_neg (by omega)]
    · rw [if_neg c1]
      by_cases c2 : 18446744073709551615 < a * 10 + (c.toNat - 48)
      · rw [if_pos c2, if_neg (by omega)]
      · rw [if_neg c2]
        exact pM l _ (fun x hx => h x (List.mem_cons_of_mem _ hx)) (by omega)
theorem nd_all : ∀ (l : List UInt8), ∀ c ∈ l.take (nd l), isD c = true
  | [], c, h => by simp at h
  | a :: l, c, h => by
    unfold nd at h
    split at h
    · rename_i ha
      simp only [List.take_succ_cons, List.mem_cons] at h
      rcases h with rfl | h
      · exact ha
      · exact nd_all l c h
    · simp at h
theorem pU {l : List UInt8} (h0 : l ≠ []) (h : ∀ c ∈ l, isD c = true) : Lib.parseUintB 64 l = if dv 0 l ≤ 18446744073709551615 then .ok (dv 0 l) else .range := by
  unfold Lib.parseUintB
  rw [if_neg h0]
  exact pM l 0 h (by omega)
/-- what ParseInt makes of digits, with or without a '-' -/
theorem pI (r : List UInt8) (hn : 0 < nd (r.drop (sgn r))) (e : Int) : numOf (Lib.parseIntB 64 (r.take (sgn r + nd (r.drop (sgn r))))) e =
    if dv 0 ((r.drop (sgn r)).take (nd (r.drop (sgn r)))) ≤ 9223372036854775807 + sgn r then ((if sgn r = 1 then -(dv 0 ((r.drop (sgn r)).take (nd (r.drop (sgn r)))) : Int) else (dv 0 ((r.drop (sgn r)).take (nd (r.drop (sgn r)))) : Int)), e, 0) else (0, 0, 7) := by
  have hall := nd_all (r.drop (sgn r))
  have hle := nd_le (r.drop (sgn r))
  have hsplit : r.take (sgn r + nd (r.drop (sgn r))) = r.take (sgn r) ++ (r.drop (sgn r)).take (nd (r.drop (sgn r))) := List.take_add
  rw [hsplit]
  generalize hds : (r.drop (sgn r)).take (nd (r.drop (sgn r))) = ds at *
  have hne : ds ≠ [] := by
    intro c
    have : ds.length = nd (r.drop (sgn r)) := by rw [← hds, List.length_take]; omega
    rw [c] at this
    simp at this
    omega
  have hp := pU hne hall
  by_cases hs : r.head? = some 45
  · have h1 : sgn r = 1 := by unfold sgn; rw [if_pos hs]
    obtain ⟨q, rfl⟩ : ∃ q, r = 45 :: q := by
      cases r with
      | nil => simp at hs
      | cons a q => simp at hs; exact ⟨q, by rw [hs]⟩
    rw [h1]
    simp only [List.take_succ_cons, List.take_zero, List.cons_append, List.nil_append]
    have e1 : Lib.parseIntB 64 (45 :: ds) = match Lib.parseUintB 64 ds with
        | Lib.NumEnd.syntax => Lib.NumEnd.syntax
        | .range => .range
        | .ok u => if 9223372036854775808 < u then .range else .ok (-(u : Int)) := by
      unfold Lib.parseIntB
      simp
      cases Lib.parseUintB 64 ds <;> rfl
    rw [e1, hp]
    by_cases c : dv 0 ds ≤ 18446744073709551615
    · rw [if_pos c]
      by_cases c2 : 9223372036854775808 < dv 0 ds
      · simp only [c2, if_true]; rw [if_neg (by omega)]; rfl
      · simp only [c2, if_false]; rw [if_pos (by omega)]; rfl
    · rw [if_neg c, if_neg (by omega)]; rfl
  · have h1 : sgn r = 0 := by unfold sgn; rw [if_neg hs]
    rw [h1]
    simp only [List.take_zero, List.nil_append]
    obtain ⟨a, ds', rfl⟩ : ∃ a ds', ds = a :: ds' := by
      cases ds with
      | nil => exact absurd rfl hne
      | cons a ds' => exact ⟨a, ds', rfl⟩
    have ha := isD_iff.1 (hall a List.mem_cons_self)
    have e1 : Lib.parseIntB 64 (a :: ds') = match Lib.parseUintB 64 (a :: ds') with
        | Lib.NumEnd.syntax => Lib.NumEnd.syntax
        | .range => .range
        | .ok u => if 9223372036854775808 ≤ u then .range else .ok (u : Int) := by
      unfold Lib.parseIntB
      have n1 : ¬ a.toNat = 43 := by omega
      have n2 : ¬ a.toNat = 45 := by omega
      simp [n1, n2]
      cases Lib.parseUintB 64 (a :: ds') <;> rfl
    rw [e1, hp]
    generalize a :: ds' = ds at *
    by_cases c : dv 0 ds ≤ 18446744073709551615
    · rw [if_pos c]
      by_cases c2 : 9223372036854775808 ≤ dv 0 ds
      · simp only [c2, if_true]; rw [if_neg (by omega)]; rfl
      · simp only [c2, if_false]; rw [if_pos (by omega)]; rfl
    · rw [if_neg c, if_neg (by omega)]; rfl
end Go.Proofs.YtihkhomnhggifaaGreatDoor

/-
  The document's Scan.
-/
namespace Go.Proofs.YtihkhomnhggifaaGreatDoor
open Go.RowKit
open Sy
set_option linter.unusedVariables false
set_option linter.unusedSimpArgs false
set_option maxRecDepth 100000
set_option maxHeartbeats 4000000

theorem byte_q {l q : List UInt8} {frm i : Nat} (h : l.drop frm = q) (hi : i < q.length) : byteAt (bs l) (((frm + i : Nat) : Int)).toNat = (q[i].toNat : Int) := by
  rw [byteAt_bs, Int.toNat_natCast, ← List.getElem?_drop, h, List.getElem?_eq_getElem hi]
  rfl
theorem u8_is {a : UInt8} (k : UInt8) : ((a.toNat : Int) = (k.toNat : Int)) ↔ a = k := by
  constructor
  · intro e; exact UInt8.toNat_inj.1 (by omega)
  · rintro rfl; rfl
/-- the answer, once the digits are counted -/
theorem scan_of {l r q : List UInt8} {n i sg : Nat} (hn : n ≤ l.length) (hr : l.drop n = r) (hsg : sgn r = sg) (hqq : r.drop sg = q) (hNi : nd q = i) :
    scan l (n : Int) = if i = 0 ∨ (q[0]? = some 48 ∧ (1 < i ∨ 0 < sg)) then (0, 0, 12) else if dv 0 (q.take i) ≤ 9223372036854775807 + sg then ((if sg = 1 then -(dv 0 (q.take i) : Int) else (dv 0 (q.take i) : Int)), ((n + sg + i : Nat) : Int), 0) else (0, 0, 7) := by
  subst hsg hNi
  unfold scan
  rw [if_neg (by omega)]
  simp only [Int.toNat_natCast, hr, hqq]
  by_cases c : nd q = 0 ∨ (q[0]? = some 48 ∧ (1 < nd q ∨ 0 < sgn r))
  · rw [if_pos c, if_pos c]
  · rw [if_neg c, if_neg c]
    have h0 : 0 < nd (r.drop (sgn r)) := by rw [hqq]; omega
    have := pI r h0 ((n + sgn r + nd q : Nat) : Int)
    rw [hqq] at this
    rw [← this]
    congr 1
end Go.Proofs.YtihkhomnhggifaaGreatDoor

/-
  The document's Read and Print.
-/
namespace Go.Proofs.YtihkhomnhggifaaGreatDoor
open Go.RowKit
open Sy
set_option linter.unusedVariables false
set_option linter.unusedSimpArgs false
set_option maxRecDepth 100000
set_option maxHeartbeats 4000000

theorem scan_end {l : List UInt8} (x : Int × Int × Int) (h : scan l 0 = x) : x.2.1 ≤ l.length := by
  unfold scan at h
  split at h
  · subst h; simp
  · simp only [Int.toNat_zero, List.drop_zero] at h
    split at h
    · subst h; simp
    · have h1 := sgn_le l
      have h2 := nd_le (l.drop (sgn l))
      rw [List.length_drop] at h2
      unfold numOf at h
      split at h
      · subst h; simp only; omega
      · subst h; simp
def dg (u : Nat) : List UInt8 := if u = 0 then [] else Lib.decDigits u
theorem dg_step {u : Nat} (h : 0 < u) : dg u = dg (u / 10) ++ [UInt8.ofNat (48 + u % 10)] := by
  have h0 : u ≠ 0 := by omega
  unfold dg
  rw [if_neg h0, Lib.decDigits]
  split
  · rw [if_pos (by omega), Nat.mod_eq_of_lt (by omega)]; rfl
  · rw [if_neg (by omega)]
theorem sRefPrint {R : HP} (n : Int) (h0 : -9223372036854775808 ≤ n) (h1 : n ≤ 9223372036854775807) : PureR Tryz.prog R 40 [.int .i64 n] (.string (bs (Lib.itoa n))) := by
  have hlen := Lib.itoa_length_le n h0 h1
  refine fn_of_run0 true Tryz.func40 rfl hmix rfl fun w0 => ?_
  conv => whnf
  refine ⟨fun c => ?_, fun c => ?_⟩
  · have c := of_decide_eq_true c
    subst c
    have e : Lib.itoa 0 = [48] := by rw [Lib.itoa, if_neg (by omega)]; unfold Lib.decDigits; rfl
    rw [e]
    conv => whnf
    exact ⟨trivial, fin_drop rfl⟩
  · have c := of_decide_eq_false c
    conv => whnf
    refine ⟨fun d => ?_, fun d => ?_⟩
    · have d' := of_decide_eq_true d
      have hU : IntKind.u64.wrap (0 - IntKind.u64.wrap n) = ((n.natAbs : Nat) : Int) := by
        simp [IntKind.wrap, IntKind.bits, IntKind.signed]; omega
      conv => whnf
      rw [hU]
      refine ⟨trivial, LoopAt.heap (α := Nat × List UInt8) [0] (fun a => [(3, .v (.int .u64 (a.1 : Int))), (4, .v (.string (bs a.2)))]) (fun a => []) (fun a => dg n.natAbs = dg a.1 ++ a.2 ∧ a.1 ≤ n.natAbs) (fun a => a.1) (n.natAbs, []) ⟨by simp, Nat.le_refl _⟩ rfl ⟨⟨rfl, rfl⟩, ⟨rfl, rfl⟩, trivial⟩ ⟨⟨rfl, rfl⟩, trivial⟩ trivial (fun h s => sub_same s) ?_⟩
      rintro ⟨u, s⟩ ⟨hu, hle⟩
      simp only at hu hle
      have hsl : s.length ≤ 21 := by
        have : (dg n.natAbs).length ≤ 21 := by
          unfold dg
          rw [if_neg (by omega)]
          by_cases c0 : n < 0
          · have e : Lib.itoa n = 45 :: Lib.decDigits n.natAbs := by unfold Lib.itoa; rw [if_pos c0]
            rw [e, List.length_cons] at hlen; omega
          · have e : Lib.itoa n = Lib.decDigits n.natAbs := by unfold Lib.itoa; rw [if_neg c0, show n.toNat = n.natAbs by omega]
            rw [e] at hlen; exact hlen
        rw [hu, List.length_append] at this
        omega
      conv => whnf
      refine ⟨fun v => ?_, fun v => ?_⟩
      · have v := of_decide_eq_true v
        have hst := dg_step (u := u) (by omega)
        have hd : IntKind.u8.wrap (IntKind.u64.wrap (48 + (u : Int).tmod 10)) = ((UInt8.ofNat (48 + u % 10)).toNat : Int) := by
          rw [Int.tmod_eq_emod_of_nonneg (by omega), IntWalk.u64_in _ (by omega), IntWalk.u8_in _ (by omega), UInt8.toNat_ofNat']
          omega
        conv => whnf
        rw [hd]
        refine ⟨⟨trivial, by decide⟩, OpAt.lit [.int .u8 ((UInt8.ofNat (48 + u % 10)).toNat : Int)] 1 rfl rfl rfl rfl rfl (by decide) rfl rfl rfl (by simp [Value.cells]) rfl (by decide) fun g => ?_⟩
        conv => whnf
        refine ⟨trivial, OpAt.bytesStr g 1 1 [UInt8.ofNat (48 + u % 10)] [] rfl (fun h s => s) rfl rfl rfl rfl rfl ?_⟩
        conv => whnf
        have hq : (u : Int).tdiv 10 = ((u / 10 : Nat) : Int) := by rw [Int.tdiv_eq_ediv_of_nonneg (by omega)]; omega
        refine ⟨⟨⟨trivial, by simp only [bs_size, List.length_singleton]; omega⟩, by decide, by rw [hq]; exact IntWalk.u64_in _ (by omega)⟩, Next.heap (u / 10, UInt8.ofNat (48 + u % 10) :: s) ⟨by rw [hu, hst]; simp, by simp only; omega⟩ (by simp only; omega) ⟨⟨?_, rfl⟩, ⟨?_, rfl⟩, trivial⟩ ⟨⟨rfl, rfl⟩, trivial⟩ trivial rfl rfl fun h s => sub_nil s⟩
        · show some _ = some _
          rw [hq]
        · show some _ = some _
          rw [bs_append]
          rfl
      · have v := of_decide_eq_false v
        have hu0 : u = 0 := by omega
        subst hu0
        have hs : Lib.decDigits n.natAbs = s := by
          have : dg n.natAbs = s := by rw [hu]; rfl
          unfold dg at this
          rwa [if_neg (by omega)] at this
        subst hs
        conv => whnf
        refine iff_t d ?_
        have e : Lib.itoa n = 45 :: Lib.decDigits n.natAbs := by unfold Lib.itoa; rw [if_pos d']
        rw [e]
        conv => whnf
        refine ⟨⟨trivial, ?_⟩, fin_drop ?_⟩
        · show 1 + (bs (Lib.decDigits n.natAbs)).size ≤ 9223372036854775807
          rw [bs_size]; omega
        · show Value.string (bs [45] ++ bs (Lib.decDigits n.natAbs)) = _
          rw [bs_append]; rfl
    · have d' := of_decide_eq_false d
      have hU : IntKind.u64.wrap n = ((n.natAbs : Nat) : Int) := by
        rw [IntWalk.u64_in _ (by omega)]; omega
      conv => whnf
      rw [hU]
      refine ⟨trivial, LoopAt.heap (α := Nat × List UInt8) [0] (fun a => [(3, .v (.int .u64 (a.1 : Int))), (4, .v (.string (bs a.2)))]) (fun a => []) (fun a => dg n.natAbs = dg a.1 ++ a.2 ∧ a.1 ≤ n.natAbs) (fun a => a.1) (n.natAbs, []) ⟨by simp, Nat.le_refl _⟩ rfl ⟨⟨rfl, rfl⟩, ⟨rfl, rfl⟩, trivial⟩ ⟨⟨rfl, rfl⟩, trivial⟩ trivial (fun h s => sub_same s) ?_⟩
      rintro ⟨u, s⟩ ⟨hu, hle⟩
      simp only at hu hle
      have hsl : s.length ≤ 21 := by
        have : (dg n.natAbs).length ≤ 21 := by
          unfold dg
          rw [if_neg (by omega)]
          by_cases c0 : n < 0
          · have e : Lib.itoa n = 45 :: Lib.decDigits n.natAbs := by unfold Lib.itoa; rw [if_pos c0]
            rw [e, List.length_cons] at hlen; omega
          · have e : Lib.itoa n = Lib.decDigits n.natAbs := by unfold Lib.itoa; rw [if_neg c0, show n.toNat = n.natAbs by omega]
            rw [e] at hlen; exact hlen
        rw [hu, List.length_append] at this
        omega
      conv => whnf
      refine ⟨fun v => ?_, fun v => ?_⟩
      · have v := of_decide_eq_true v
        have hst := dg_step (u := u) (by omega)
        have hd : IntKind.u8.wrap (IntKind.u64.wrap (48 + (u : Int).tmod 10)) = ((UInt8.ofNat (48 + u % 10)).toNat : Int) := by
          rw [Int.tmod_eq_emod_of_nonneg (by omega), IntWalk.u64_in _ (by omega), IntWalk.u8_in _ (by omega), UInt8.toNat_ofNat']
          omega
        conv => whnf
        rw [hd]
        refine ⟨⟨trivial, by decide⟩, OpAt.lit [.int .u8 ((UInt8.ofNat (48 + u % 10)).toNat : Int)] 1 rfl rfl rfl rfl rfl (by decide) rfl rfl rfl (by simp [Value.cells]) rfl (by decide) fun g => ?_⟩
        conv => whnf
        refine ⟨trivial, OpAt.bytesStr g 1 1 [UInt8.ofNat (48 + u % 10)] [] rfl (fun h s => s) rfl rfl rfl rfl rfl ?_⟩
        conv => whnf
        have hq : (u : Int).tdiv 10 = ((u / 10 : Nat) : Int) := by rw [Int.tdiv_eq_ediv_of_nonneg (by omega)]; omega
        refine ⟨⟨⟨trivial, by simp only [bs_size, List.length_singleton]; omega⟩, by decide, by rw [hq]; exact IntWalk.u64_in _ (by omega)⟩, Next.heap (u / 10, UInt8.ofNat (48 + u % 10) :: s) ⟨by rw [hu, hst]; simp, by simp only; omega⟩ (by simp only; omega) ⟨⟨?_, rfl⟩, ⟨?_, rfl⟩, trivial⟩ ⟨⟨rfl, rfl⟩, trivial⟩ trivial rfl rfl fun h s => sub_nil s⟩
        · show some _ = some _
          rw [hq]
        · show some _ = some _
          rw [bs_append]
          rfl
      · have v := of_decide_eq_false v
        have hu0 : u = 0 := by omega
        subst hu0
        have hs : Lib.decDigits n.natAbs = s := by
          have : dg n.natAbs = s := by rw [hu]; rfl
          unfold dg at this
          rwa [if_neg (by omega)] at this
        subst hs
        conv => whnf
        refine iff_f d ?_
        have e : Lib.itoa n = Lib.decDigits n.natAbs := by
          unfold Lib.itoa
          rw [if_neg d', show n.toNat = n.natAbs by omega]
        rw [e]
        conv => whnf
        exact ⟨trivial, fin_drop rfl⟩
end Go.Proofs.YtihkhomnhggifaaGreatDoor

/-
  NumScans.
-/
namespace Go.Proofs.YtihkhomnhggifaaGreatDoor
open Go.RowKit
open Sy
set_option linter.unusedVariables false
set_option linter.unusedSimpArgs false
set_option maxRecDepth 100000
set_option maxHeartbeats 4000000

end Go.Proofs.YtihkhomnhggifaaGreatDoor

/-
  A number's text is read as the number, and only its own text is.
-/
namespace Go.Proofs.YtihkhomnhggifaaGreatDoor
open Go.RowKit
open Sy
set_option linter.unusedVariables false
set_option linter.unusedSimpArgs false
set_option maxRecDepth 100000
set_option maxHeartbeats 4000000

theorem dec_one {u : Nat} (h : u < 10) : Lib.decDigits u = [UInt8.ofNat (48 + u)] := by rw [Lib.decDigits, dif_pos h]
theorem dec_more {u : Nat} (h : ¬ u < 10) : Lib.decDigits u = Lib.decDigits (u / 10) ++ [UInt8.ofNat (48 + u % 10)] := by rw [Lib.decDigits, dif_neg h]
theorem dig_nat {k : Nat} (h : k < 10) : (UInt8.ofNat (48 + k)).toNat = 48 + k := by rw [UInt8.toNat_ofNat']; omega
/-- digits, no needless 0 ahead, and the value -/
theorem dec_facts : ∀ u : Nat, (∀ c ∈ Lib.decDigits u, isD c = true) ∧ dv 0 (Lib.decDigits u) = u ∧ Lib.decDigits u ≠ [] ∧ ((Lib.decDigits u)[0]? = some 48 → u = 0) := by
  intro u
  induction u using Nat.strongRecOn with
  | _ u ih =>
    by_cases c : u < 10
    · rw [dec_one c]
      refine ⟨fun x hx => ?_, ?_, by simp, fun h => ?_⟩
      · simp only [List.mem_singleton] at hx
        subst hx
        rw [isD_iff, dig_nat c]
        omega
      · show 0 * 10 + ((UInt8.ofNat (48 + u)).toNat - 48) = u
        rw [dig_nat c]; omega
      · simp only [List.getElem?_cons_zero, Option.some.injEq] at h
        have := dig_nat c
        rw [h] at this
        have e : (48 : UInt8).toNat = 48 := rfl
        omega
    · obtain ⟨h1, h2, h3, h4⟩ := ih (u / 10) (by omega)
      rw [dec_more c]
      have hm : u % 10 < 10 := Nat.mod_lt _ (by omega)
      refine ⟨fun x hx => ?_, ?_, by simp, fun h => ?_⟩
      · rcases List.mem_append.1 hx with hx | hx
        · exact h1 x hx
        · simp only [List.mem_singleton] at hx
          subst hx
          rw [isD_iff, dig_nat hm]
          omega
      · rw [dv_append, h2]
        show u / 10 * 10 + ((UInt8.ofNat (48 + u % 10)).toNat - 48) = u
        rw [dig_nat hm]; omega
      · have hp : 0 < (Lib.decDigits (u / 10)).length := List.length_pos_iff.2 h3
        rw [List.getElem?_append_left hp] at h
        have := h4 h
        omega
theorem nd_pre : ∀ {ds rest : List UInt8}, (∀ c ∈ ds, isD c = true) → (∀ c, rest[0]? = some c → isD c = false) → nd (ds ++ rest) = ds.length
  | [], [], _, _ => rfl
  | [], c :: rest, _, h => by
    show (if isD c = true then _ else _) = _
    rw [h c rfl]
    rfl
  | c :: ds, rest, h, h' => by
    show (if isD c = true then nd (ds ++ rest) + 1 else 0) = _
    rw [if_pos (h c List.mem_cons_self), nd_pre (fun x hx => h x (List.mem_cons_of_mem _ hx)) h']
    rfl
/-- a number's text, with something behind that is no digit -/
theorem scan_itoa (n : Int) (h0 : -9223372036854775808 ≤ n) (h1 : n ≤ 9223372036854775807) (rest : List UInt8) (hr : ∀ c, rest[0]? = some c → isD c = false) : scan (Lib.itoa n ++ rest) 0 = (n, ((Lib.itoa n).length : Int), 0) := by
  obtain ⟨f1, f2, f3, f4⟩ := dec_facts n.natAbs
  have hl := List.length_pos_iff.2 f3
  have hnd := nd_pre f1 hr
  by_cases c : n < 0
  · have e : Lib.itoa n = 45 :: Lib.decDigits n.natAbs := by unfold Lib.itoa; rw [if_pos c]
    have hs : sgn (Lib.itoa n ++ rest) = 1 := by rw [e]; rfl
    have hq : (Lib.itoa n ++ rest).drop 1 = Lib.decDigits n.natAbs ++ rest := by rw [e]; rfl
    have := scan_of (l := Lib.itoa n ++ rest) (n := 0) (Nat.zero_le _) rfl hs hq hnd
    rw [show ((0 : Nat) : Int) = 0 from rfl] at this
    rw [this, if_neg, List.take_left, f2, if_pos (by omega), e]
    · simp only [if_true, List.length_cons]
      refine Prod.ext (by simp only; omega) (Prod.ext (by simp only; omega) rfl)
    · rw [List.getElem?_append_left hl]
      rintro (h | ⟨h, _⟩)
      · omega
      · have := f4 h; omega
  · have e : Lib.itoa n = Lib.decDigits n.natAbs := by
      unfold Lib.itoa
      rw [if_neg c, show n.toNat = n.natAbs by omega]
    have hs : sgn (Lib.itoa n ++ rest) = 0 := by
      rw [e]
      unfold sgn
      rw [if_neg]
      rw [List.head?_eq_getElem?, List.getElem?_append_left hl, List.getElem?_eq_getElem hl, Option.some.injEq]
      intro h
      have h5 := isD_iff.1 (f1 _ (List.getElem_mem hl))
      rw [h] at h5
      have e : (45 : UInt8).toNat = 45 := rfl
      omega
    have hq : (Lib.itoa n ++ rest).drop 0 = Lib.decDigits n.natAbs ++ rest := by rw [e]; rfl
    have := scan_of (l := Lib.itoa n ++ rest) (n := 0) (Nat.zero_le _) rfl hs hq hnd
    rw [show ((0 : Nat) : Int) = 0 from rfl] at this
    rw [this, if_neg, List.take_left, f2, if_pos (by omega), e]
    · refine Prod.ext (by simp; omega) (Prod.ext (by simp) rfl)
    · rw [List.getElem?_append_left hl]
      rintro (h | ⟨h, h2 | h2⟩)
      · omega
      · have h5 := f4 h
        rw [h5, dec_one (by omega)] at h2
        simp at h2
      · omega
theorem read_itoa (n : Int) (h0 : -9223372036854775808 ≤ n) (h1 : n ≤ 9223372036854775807) : read (Lib.itoa n) = (n, 0) := by
  have := scan_itoa n h0 h1 [] (by simp)
  rw [List.append_nil] at this
  unfold read
  rw [this]
  simp
end Go.Proofs.YtihkhomnhggifaaGreatDoor

/-
  NumPrints, NumReads: the walks.
-/
namespace Go.Proofs.YtihkhomnhggifaaGreatDoor
open Go.RowKit
open Sy
set_option linter.unusedVariables false
set_option linter.unusedSimpArgs false
set_option maxRecDepth 100000
set_option maxHeartbeats 4000000

theorem dv_pos {a : UInt8} {l : List UInt8} (h : isD a = true) (h0 : a ≠ 48) : 0 < dv 0 (a :: l) := by
  have h1 := dv_le l (0 * 10 + (a.toNat - 48))
  have h2 := isD_iff.1 h
  have h3 : a.toNat ≠ 48 := fun e => h0 (UInt8.toNat_inj.1 (by rw [e]; rfl))
  show 0 < dv (0 * 10 + (a.toNat - 48)) l
  omega
theorem dec_dv : ∀ (n : Nat) (ds : List UInt8), ds.length = n → (∀ c ∈ ds, isD c = true) → ds ≠ [] → (ds[0]? = some 48 → ds.length = 1) → Lib.decDigits (dv 0 ds) = ds := by
  intro n
  induction n with
  | zero => intro ds hl hd hne; exact absurd (List.length_eq_zero_iff.1 hl) hne
  | succ n ih =>
    intro ds hl hd hne h48
    obtain ⟨bs1, c, rfl⟩ : ∃ bs1 c, ds = bs1 ++ [c] := ⟨ds.dropLast, ds.getLast hne, (List.dropLast_concat_getLast hne).symm⟩
    have hc := isD_iff.1 (hd c (by simp))
    have hcc : UInt8.ofNat (48 + (c.toNat - 48)) = c := by
      apply UInt8.toNat_inj.1
      rw [UInt8.toNat_ofNat']
      omega
    rw [dv_append]
    show Lib.decDigits (dv 0 bs1 * 10 + (c.toNat - 48)) = _
    cases bs1 with
    | nil =>
      show Lib.decDigits (0 * 10 + (c.toNat - 48)) = [c]
      rw [Nat.zero_mul, Nat.zero_add, dec_one (by omega), hcc]
    | cons a bs1 =>
      have ha : a ≠ 48 := fun e => by
        subst e
        have := h48 (by simp)
        simp at this
      have hp := dv_pos (l := bs1) (hd a (by simp)) ha
      have hi := ih (a :: bs1) (by simpa using hl) (fun x hx => hd x (List.mem_append_left _ hx)) (by simp) (fun h => by simp at h; exact absurd h ha)
      rw [dec_more (by omega)]
      have e1 : (dv 0 (a :: bs1) * 10 + (c.toNat - 48)) / 10 = dv 0 (a :: bs1) := by omega
      have e2 : (dv 0 (a :: bs1) * 10 + (c.toNat - 48)) % 10 = c.toNat - 48 := by omega
      rw [e1, e2, hi, hcc]
/-- what is read is printed as it was -/
theorem itoa_read {l : List UInt8} {n : Int} (h : read l = (n, 0)) : Lib.itoa n = l := by
  have hs := scan_of (l := l) (r := l) (q := l.drop (sgn l)) (n := 0) (Nat.zero_le _) rfl rfl rfl rfl
  rw [show ((0 : Nat) : Int) = 0 from rfl] at hs
  unfold read at h
  have hq := nd_le (l.drop (sgn l))
  have hsl := sgn_le l
  have hlen : (l.drop (sgn l)).length = l.length - sgn l := by simp
  have hall := nd_all (l.drop (sgn l))
  by_cases c : nd (l.drop (sgn l)) = 0 ∨ ((l.drop (sgn l))[0]? = some 48 ∧ (1 < nd (l.drop (sgn l)) ∨ 0 < sgn l))
  · rw [if_pos c] at hs
    rw [hs] at h
    simp at h
  · rw [if_neg c] at hs
    split at hs
    · rename_i hv
      rw [hs] at h
      simp only [ne_eq, not_true_eq_false, if_false] at h
      split at h
      · simp at h
      · rename_i hlt
        have ht : (l.drop (sgn l)).take (nd (l.drop (sgn l))) = l.drop (sgn l) := List.take_of_length_le (by omega)
        rw [ht] at hall h
        have hdd := dec_dv _ (l.drop (sgn l)) rfl hall (fun e => c (.inl (by rw [e]; rfl))) (fun e => by
          by_cases c1 : 1 < nd (l.drop (sgn l))
          · exact absurd (.inr ⟨e, .inl c1⟩) c
          · omega)
        have hn : (if sgn l = 1 then -(dv 0 (l.drop (sgn l)) : Int) else (dv 0 (l.drop (sgn l)) : Int)) = n := (Prod.ext_iff.1 h).1
        cases l with
        | nil => simp [nd] at c
        | cons a l =>
          by_cases ca : a = 45
          · subst ca
            have e1 : sgn (45 :: l) = 1 := rfl
            rw [e1] at hn hdd hall c
            simp only [List.drop_succ_cons, List.drop_zero, if_true] at hn hdd hall c
            have hp : 0 < dv 0 l := by
              cases l with
              | nil => simp [nd] at c
              | cons b l =>
                refine dv_pos (hall b (by simp)) fun e => ?_
                subst e
                exact c (.inr ⟨rfl, .inr (by omega)⟩)
            unfold Lib.itoa
            rw [if_pos (by omega), show n.natAbs = dv 0 l by omega, hdd]
          · have e1 : sgn (a :: l) = 0 := by simp [sgn, ca]
            rw [e1] at hn hdd
            simp only [List.drop_zero, Nat.zero_ne_one, if_false] at hn hdd
            unfold Lib.itoa
            rw [if_neg (by omega), show n.toNat = dv 0 (a :: l) by omega, hdd]
    · rw [hs] at h
      simp at h
theorem read_rng {l : List UInt8} : -9223372036854775808 ≤ (read l).1 ∧ (read l).1 ≤ 9223372036854775807 := by
  have hs := scan_of (l := l) (r := l) (q := l.drop (sgn l)) (n := 0) (Nat.zero_le _) rfl rfl rfl rfl
  rw [show ((0 : Nat) : Int) = 0 from rfl] at hs
  have h1 : sgn l ≤ 1 := by unfold sgn; split <;> omega
  unfold read
  rw [hs]
  by_cases c : nd (l.drop (sgn l)) = 0 ∨ ((l.drop (sgn l))[0]? = some 48 ∧ (1 < nd (l.drop (sgn l)) ∨ 0 < sgn l))
  · rw [if_pos c]; simp
  · rw [if_neg c]
    split
    · rename_i hv
      simp only [ne_eq, not_true_eq_false, if_false]
      split
      · simp
      · simp only
        split <;> omega
    · simp

end Go.Proofs.YtihkhomnhggifaaGreatDoor

