/-
  Texts of the proofs, one behind the other: Keep, SyOwn, SyBox, SyMem, SyPart, SyStr, SyCx, Hmix.
-/
import Derived.Test.YtgfiakgahmpfkaaGreatDoorSNg01
import Derived.Deep.QuietTactic
import Derived.BigQuiet
import Derived.Deep.RegionHeld3
import Derived.StillTailTactics
import Derived.IntWalk
import Derived.Test.YtgfiakgahmpfkaaGreatDoorSNg04
import Derived.Great.FillDense
import Derived.Great.BuildSlice
import Derived.Laws.MakeOwn
import Derived.Deep.RegionHeld
import Derived.Laws.StructEq
import Derived.ChangeKeysEq
import Derived.Lib.OthersKept
import Derived.Laws.IdiomStrings
import Derived.Test.YtgfiakgahmpfkaaGreatDoorSNg03
import Derived.Test.YtgfiakgahmpfkaaGreatDoorProg
import Derived.KernelRfl
namespace Go.Proofs.YtgfiakgahmpfkaaGreatDoor
open Go.RowKit

theorem ret_int {k : IntKind} {a b : Int} (h : a = b) : Ending.returned (.int k a) = .returned (.int k b) := by rw [h]

section
variable {B b : Nat} {w w' : World} {v0 v1 v2 v3 : Value}
end
/-- things of k cells each, laid one behind the other -/
def flt {α : Type} (enc : α → List Value) (l : List α) : List Value := l.flatMap enc
section
variable {α : Type} {enc : α → List Value} {k : Nat}
theorem flt_nil : flt enc [] = [] := rfl
end
theorem own_shape' {w : World} {base : Nat} {e : TypeId} {size n : Nat} {v : Value} {xs : List Value} (h : w.ownsRow base e size v n xs) : ∃ A c, v = .slice A n c ∧ n ≤ c ∧ c ≤ 9223372036854775807 ∧ (A = none → n = 0 ∧ c = 0) := by
  rcases h.2 with ⟨rfl, rfl⟩ | ⟨g, cap, cur, rfl, _, _, hn, hm, _⟩
  · exact ⟨_, _, rfl, Nat.le_refl _, by omega, fun _ => ⟨rfl, rfl⟩⟩
  · exact ⟨_, _, rfl, hn, hm, fun h => by cases h⟩
namespace Sy
set_option linter.unusedVariables false
set_option linter.unusedSimpArgs false

def pull : Nat → List HP → List HP
  | 0, l => l
  | _ + 1, [] => []
  | n + 1, A :: l => match pull n l with
    | [] => [A]
    | B :: r => B :: A :: r
theorem sepL_pull {R : HP} : ∀ (n : Nat) {l : List HP} {h : Hl}, sepL l R h → sepL (pull n l) R h
  | 0, l, h, s => s
  | n + 1, [], h, s => s
  | n + 1, A :: l, h, s => by
    obtain ⟨h1, h2, d, e, a, s⟩ := s
    have s' := sepL_pull n s
    have hp : pull n l = [] ∨ ∃ B r, pull n l = B :: r := by cases pull n l <;> simp
    unfold pull
    rcases hp with hp | ⟨B, r, hp⟩
    · rw [hp] at s' ⊢
      exact ⟨h1, h2, d, e, a, s'⟩
    · rw [hp] at s' ⊢
      exact sep_swap ⟨h1, h2, d, e, a, s'⟩
theorem Sat.left {A B : HP} {w : World} (s : Sat (sep A B) w) : Sat A w := by
  obtain ⟨h, hs, h1, h2, d, rfl, a, b⟩ := s
  exact ⟨h1, hs.left, a⟩
theorem Sat.right {A B : HP} {w : World} (s : Sat (sep A B) w) : Sat B w := by
  obtain ⟨h, hs, h1, h2, d, rfl, a, b⟩ := s
  exact ⟨h2, hs.right d, b⟩
theorem Sat.in_ {R A : HP} {w : World} : ∀ (n : Nat) {l : List HP}, Sat (sepL l R) w → l[n]? = some A → Sat A w
  | n, [], s, h => by simp at h
  | 0, B :: l, s, h => by simp at h; subst h; exact Sat.left s
  | n + 1, B :: l, s, h => Sat.in_ n (l := l) (Sat.right s) (by simpa using h)
theorem Sat.rest {R : HP} {w : World} : ∀ {l : List HP}, Sat (sepL l R) w → Sat R w
  | [], s => s
  | B :: l, s => Sat.rest (l := l) (Sat.right s)

/-- a slice that owns its row -/
def rowH (v : Value) (n : Nat) (e : TypeId) (size : Nat) (xs : List Value) : HP := fun h =>
  xs.length = n * size ∧ ((v = .slice none 0 0 ∧ n = 0 ∧ ∀ i, h i = none) ∨
    ∃ g cap cur, v = .slice (some ⟨g, 0, none⟩) n cap ∧ (∀ i, h i = if i = g then some (.cells cur e (0, 0)) else none) ∧ n ≤ cap ∧ cap ≤ maxLen ∧ cur.size = cap * size ∧ cur.toList.take (n * size) = xs)
theorem rowH_own {v : Value} {n size : Nat} {e : TypeId} {xs : List Value} {h : Hl} {w : World} (r : rowH v n e size xs h) (s : Sub h w) : w.ownsRow 0 e size v n xs := by
  obtain ⟨hl, hr⟩ := r
  refine ⟨hl, ?_⟩
  rcases hr with ⟨h1, h2, _⟩ | ⟨g, cap, cur, h1, h2, h3⟩
  · exact .inl ⟨h1, h2⟩
  · exact .inr ⟨g, cap, cur, h1, Nat.zero_le _, s g _ (by rw [h2]; simp), h3⟩
theorem own_rowH {v : Value} {n size base : Nat} {e : TypeId} {xs : List Value} {w : World} (r : w.ownsRow base e size v n xs) : ∃ h, rowH v n e size xs h ∧ Sub h w ∧ ∀ i, h i ≠ none → v.ownBlock = some i ∧ base ≤ i := by
  obtain ⟨hl, hr⟩ := r
  rcases hr with ⟨h1, h2⟩ | ⟨g, cap, cur, h1, hg, h2, h3⟩
  · exact ⟨fun _ => none, ⟨hl, .inl ⟨h1, h2, fun _ => rfl⟩⟩, (fun i o e => by cases e), fun i c => absurd rfl c⟩
  · refine ⟨fun i => if i = g then some (.cells cur e (0, 0)) else none, ⟨hl, .inr ⟨g, cap, cur, h1, fun _ => rfl, h3⟩⟩, fun i o e => ?_, fun i c => ?_⟩
    · simp only at e
      split at e
      · rename_i hi; subst hi; rw [← e]; exact h2
      · cases e
    · simp only at c
      split at c
      · rename_i hi; subst hi; exact ⟨by rw [h1]; rfl, hg⟩
      · exact absurd rfl c
/-- a row that is new -/
theorem sat_row {A : HP} {w w' : World} {v : Value} {n size : Nat} {e : TypeId} {xs : List Value} (s : Sat A w) (hb : Below w.heap.size w w') (r : w'.ownsRow w.heap.size e size v n xs) : Sat (sep (rowH v n e size xs) A) w' := by
  obtain ⟨h2, s2, a⟩ := s
  obtain ⟨h1, r1, s1, d⟩ := own_rowH r
  refine ⟨un h1 h2, s1.un (s2.below hb), h1, h2, fun i => ?_, rfl, r1, a⟩
  by_cases c : h1 i = none
  · exact .inl c
  · exact .inr (s2.none (d i c).2)

theorem putK_go {G : Gl} {st : St} {d : Option Nat} {x : SV} {K : St → Prop} (h : putK G st d x none K) {ρ : List Nat} {a : Act} {w : World} {v : Value} (hx : x.den ρ = some v) (m : Tm G st ρ a) (mm : Mem G st ρ w) : ∃ st', K st' ∧ Tm G st' ρ (a.put d v) ∧ Mem G st' ρ w := by
  obtain ⟨t, o, n, hh, c⟩ := st
  unfold putK at h
  cases d with
  | some i =>
    simp only at h
    split at h
    · rename_i hi
      have hi' : i < G.N := Nat.le_of_ble_eq_true hi
      exact ⟨_, h, m.put_ hi' hx _ _ _ _, mm.same rfl rfl rfl⟩
    · exact h.elim
  | none => exact ⟨_, h, m, mm⟩
/-- an operation's own law, apart from R -/
def SemR (P : Program) (R : HP) (s : Sem Go.Next) (pre : List HP) (post : Value → List HP → Prop) : Prop :=
  ∀ w, Sat (sepL pre R) w → ∃ v hs w', s.run P w = .ok (.value v) w' ∧ post v hs ∧ Sat (sepL hs R) w' ∧ Wd w w'
theorem OpAt.sem {G : Gl} {o : Oper} {st : St} {K : St → Prop} {pre : List HP} {post : Value → List HP → Prop} (rest : List HP) (hp : ∀ h, sepL st.h G.R h → sepL (pre ++ rest) G.R h) (hsel : notSel o.op = true) (hr : allR st o.op.operands.toList = true)
    (hf : ∀ R', (∀ w, Sat R' w → Sat (sepL rest G.R) w) → SemR G.P R' (execOp (evR st) o) pre post) (k : ∀ v hs, post v hs → putK G { st with h := hs ++ rest } o.dst (.v v) none K) : OpAt G o st K := by
  refine .mk fun ρ a w m mm => ?_
  obtain ⟨h, h1, h2, h3, h4⟩ := mem_split mm
  have h2 := hp h h2
  rw [sepL_append] at h2
  obtain ⟨v, hs, w', hrun, hv, ⟨g, g1, s⟩, hw⟩ := hf (plus (obj st ρ w) (sepL rest G.R)) (by
    rintro w' ⟨g, g1, ⟨g2, d, rfl, s⟩⟩
    exact ⟨g2, g1.right d, s⟩) w ⟨_, h4.un h1, plus_in h3 h2⟩
  have hc : execOp a.eval o = execOp (evR st) o := execOp_congr o (fun cs b => notSel_spec hsel cs b) fun x hx => allR_sound m hr x (by simpa using hx)
  have mm' : Mem G { st with h := hs ++ rest } ρ w' := by
    refine mem_join mm hw g1 ?_
    have := plus_out s
    rwa [sepL_append]
  obtain ⟨st', k', m', mm2⟩ := putK_go (k v hs hv) (ρ := ρ) (v := v) rfl (m.same rfl) mm'
  unfold Oper.wp
  rw [hc, hrun]
  exact ⟨st', ρ, k', m', mm2, Ext.refl _⟩

def dens : Nat → List (Nat × Operand) → Bool
  | _, [] => true
  | n, (i, _) :: l => match Nat.beq i n with
    | true => dens (n + 1) l
    | false => false
theorem dens_eq {ev : Operand → Value} : ∀ {l : List (Nat × Operand)} {n : Nat}, dens n l = true → l.map (fun (i, x) => (i, ev x)) = ((l.map fun p => ev p.2).zipIdx n).map fun x => (x.2, x.1)
  | [], n, _ => rfl
  | (i, x) :: l, n, h => by
    unfold dens at h
    split at h
    · rename_i e
      have := beq_of e
      subst this
      simp [dens_eq h]
    · cases h

/-- what the cells of values are, one behind the other -/
def cellsOf (vs : List Value) : List Value := vs.flatMap fun v => v.cells.toList
theorem fill_all {size : Nat} (hs : 0 < size) (vs : List Value) (cells : Array Value) (hv : ∀ v ∈ vs, v.cells.size = size) (hc : cells.size = vs.length * size) :
    Instr.fill (fun i => some (i * size, size)) cells ((vs.zipIdx 0).map fun x => (x.2, x.1)) = some (cellsOf vs).toArray := by
  obtain ⟨r, h1, h2, h3⟩ := Great.fill_dense hs vs 0 cells hv (by rw [hc]; simp)
  rw [h1]
  congr 1
  apply Array.ext_getElem?
  intro k
  rw [h3 k]
  have hlen : ∀ (l : List Value), (∀ v ∈ l, v.cells.size = size) → (cellsOf l).length = l.length * size := by
    intro l hl
    induction l with
    | nil => simp [cellsOf]
    | cons v l ih =>
      have := ih fun v hv => hl v (List.mem_cons_of_mem _ hv)
      simp only [cellsOf, List.flatMap_cons, List.length_append, Array.length_toList, List.length_cons] at this ⊢
      rw [this, hl v List.mem_cons_self, Nat.add_mul]
      omega
  have hat : ∀ (l : List Value) (k : Nat), (∀ v ∈ l, v.cells.size = size) → k < l.length * size → (cellsOf l)[k]? = (l[k / size]?).bind fun v => v.cells[k % size]? := by
    intro l
    induction l with
    | nil => intro k _ h; simp at h
    | cons v l ih =>
      intro k hl hk
      have hvs := hl v List.mem_cons_self
      have hl' := fun u hu => hl u (List.mem_cons_of_mem _ hu)
      simp only [cellsOf, List.flatMap_cons]
      by_cases c : k < size
      · rw [List.getElem?_append_left (by simp [hvs, c]), Nat.div_eq_of_lt c, Nat.mod_eq_of_lt c]
        simp
      · rw [List.getElem?_append_right (by simp [hvs]; omega)]
        have e1 : k / size = (k - size) / size + 1 := by
          rw [Nat.div_eq k, if_pos ⟨hs, by omega⟩]
        have e2 : k % size = (k - size) % size := by
          rw [Nat.mod_eq k, if_pos ⟨hs, by omega⟩]
        rw [e1, e2]
        have := ih (k - size) hl' (by simp only [List.length_cons, Nat.add_mul] at hk; omega)
        simp only [cellsOf] at this
        simp only [Array.length_toList, hvs, this, List.getElem?_cons_succ]
  by_cases c : k < vs.length * size
  · rw [if_pos ⟨by omega, by simpa using c⟩]
    simp only [List.getElem?_toArray]
    rw [hat vs k hv c]
    simp
  · rw [if_neg (by simp; omega)]
    rw [Array.getElem?_eq_none (by omega)]
    simp only [List.getElem?_toArray]
    rw [List.getElem?_eq_none]
    rw [hlen vs hv]
    omega

theorem cellsOf_len {size : Nat} : ∀ {l : List Value}, (∀ v ∈ l, v.cells.size = size) → (cellsOf l).length = l.length * size
  | [], _ => by simp [cellsOf]
  | v :: l, hl => by
    have := cellsOf_len fun u hu => hl u (List.mem_cons_of_mem _ hu)
    simp only [cellsOf, List.flatMap_cons, List.length_append, Array.length_toList, List.length_cons] at this ⊢
    rw [this, hl v List.mem_cons_self, Nat.add_mul]
    omega
/-- a slice literal -/
theorem OpAt.lit {G : Gl} {o : Oper} {st : St} {K : St → Prop} {t e : TypeId} {len : Nat} {parts : Array (Nat × Operand)} {ie : TypeInfo} {z : Value} (vs : List Value) (size : Nat) (ho : o.op = .buildSlice t len parts) (hu : G.P.underlying t = some (.slice e)) (hie : G.P.info? e = some ie) (hz : ie.zero = some z)
    (hsz : ie.size = size) (hpos : 0 < size) (hd : dens 0 parts.toList = true) (hr : allR st o.op.operands.toList = true) (hvs : vs = parts.toList.map fun p => evR st p.2) (hcs : ∀ v ∈ vs, v.cells.size = size) (hl : len = vs.length) (hsm : len * size ≤ 16777216)
    (k : ∀ g, putK G { st with h := rowH (.slice (some ⟨g, 0, none⟩) len len) len e size (cellsOf vs) :: st.h } o.dst (.v (.slice (some ⟨g, 0, none⟩) len len)) none K) : OpAt G o st K := by
  refine OpAt.sem (pre := []) (post := fun v hs => ∃ g, v = .slice (some ⟨g, 0, none⟩) len len ∧ hs = [rowH (.slice (some ⟨g, 0, none⟩) len len) len e size (cellsOf vs)]) st.h (fun h s => s) (by rw [ho]; rfl) hr ?_ ?_
  · intro R' _ w s
    refine ⟨_, _, w.alloc (.cells (cellsOf vs).toArray e), ?_, ⟨w.heap.size, rfl, rfl⟩, ?_, .of_below ((Below.refl _ _).alloc (Nat.le_refl _) _)⟩
    · have hfill : Instr.fill (fun i => some (i * ie.size, ie.size)) ((Array.range (len * ie.size)).map (z.cells[· % z.cells.size]!)) (parts.map fun (i, x) => (i, evR st x)).toList = some (cellsOf vs).toArray := by
        rw [Array.toList_map, dens_eq hd, ← hvs, hsz]
        exact fill_all hpos vs _ hcs (by simp [hl])
      simp only [execOp, ho, Sem.run_bind]
      by_cases h0 : len = 0
      · have hv0 : vs = [] := List.eq_nil_of_length_eq_zero (by omega)
        have hp0 : parts.toList = [] := by
          rw [hv0] at hvs
          exact List.map_eq_nil_iff.1 hvs.symm
        have hp1 : (parts.map fun (i, x) => (i, evR st x)).toList = [] := by rw [Array.toList_map, hp0]; rfl
        subst h0 hv0
        simp [Instr.buildSlice, run_underlying hu, sizeOf, typeInfo, hie, newRow, newObj, hp0, Instr.fill, cellsOf]
        rw [show Array.map (fun _ => (default : Value)) (Array.range 0) = #[] from by apply Array.ext'; simp]
        rfl
      · rw [run_buildSlice w t e len _ (cellsOf vs).toArray ie z hu hie hz (by rw [hsz]; omega) (by rw [hsz]; exact Nat.mul_ne_zero h0 (by omega)) hfill]
        simp
    · refine sat_row s ((Below.refl _ _).alloc (Nat.le_refl _) _) ⟨?_, .inr ⟨_, len, (cellsOf vs).toArray, rfl, Nat.le_refl _, heap_alloc_new w _, Nat.le_refl _, by simp only [maxLen]; have : len ≤ len * size := Nat.le_mul_of_pos_right _ hpos; omega, ?_, ?_⟩⟩
      all_goals
        have hlen : (cellsOf vs).length = len * size := by rw [hl]; exact cellsOf_len hcs
      · exact hlen
      · simpa using hlen
      · simp only [List.toList_toArray]
        rw [List.take_of_length_le (by omega)]
  · rintro v hs ⟨g, rfl, rfl⟩
    exact k g

theorem rowH_ne {v : Value} {n size : Nat} {e : TypeId} {xs : List Value} {h : Hl} (r : rowH v n e size xs h) {g : Nat} (hg : v.ownBlock = some g) : h g ≠ none := by
  rcases r.2 with ⟨rfl, _, _⟩ | ⟨g', cap, cur, rfl, h2, _⟩
  · cases hg
  · have : g' = g := by simpa [Value.ownBlock] using hg
    subst this
    rw [h2]; simp

/-- append to a slice of the call's own -/
theorem OpAt.append {G : Gl} {o : Oper} {st : St} {K : St → Prop} {t e : TypeId} {s x : Operand} {i : TypeInfo} {z : Value} (v : Value) (n size bytes : Nat) (xs news : List Value) (A : Option Addr) (m c : Nat) (rest : List HP)
    (ho : o.op = .call { callee := .builtin .append, args := #[s, x], argTypes := #[t, t] }) (hp : ∀ h, sepL st.h G.R h → sepL (rowH v n e size xs :: rest) G.R h) (hs : evR st s = v) (hx : evR st x = .slice A m c) (hr : allR st o.op.operands.toList = true)
    (hu : G.P.underlying t = some (.slice e)) (hi : G.P.info? e = some i) (hz : i.zero = some z) (hsize : i.size = size) (hby : i.bytes = bytes) (hzs : z.cells.size = size) (hsz : 0 < size)
    (src : ∀ w, Sat (sepL rest G.R) w → Reads w w.heap.size size A m news) (h1 : ∀ u ∈ news, u.oneCell' = true) (h63 : n + m ≤ maxLen) (hbytes : (n + m) * bytes ≤ 140737488355328)
    (k : ∀ A' c', putK G { st with h := rowH (.slice A' (n + m) c') (n + m) e size (xs ++ news) :: rest } o.dst (.v (.slice A' (n + m) c')) none K) : OpAt G o st K := by
  refine OpAt.sem (pre := [rowH v n e size xs]) (post := fun v' hs => ∃ A' c', v' = .slice A' (n + m) c' ∧ hs = [rowH (.slice A' (n + m) c') (n + m) e size (xs ++ news)]) rest hp (by rw [ho]; rfl) hr ?_ ?_
  · rintro R' hR' w ⟨h, hsub, h1', h2, d, rfl, hrow, hrest⟩
    have hown := rowH_own hrow hsub.left
    have hrd := src w (hR' w ⟨h2, hsub.right d, hrest⟩)
    obtain ⟨v', w', hrun, hown', hB, hg, hat⟩ := run_append_appl (P := G.P) w 0 t o.type e i z size bytes hu hi hz hsize hby hzs hsz v n xs (.inl hown) w.heap.size A m c news hrd h1 (.inr hown) h63 hbytes (Nat.zero_le _)
    obtain ⟨A', c', rfl, _⟩ := own_shape' hown'
    obtain ⟨h1'', r1, s1, dom⟩ := own_rowH hown'
    have s2 : Sub h2 w' := fun j ob e' => by
      have hj := hsub.right d j ob e'
      have hlt := (Array.getElem?_eq_some_iff.1 hj).1
      rw [hg.block j hlt ?_]
      · exact hj
      · intro c0
        rcases d j with c1 | c1
        · exact rowH_ne hrow c0.symm c1
        · rw [c1] at e'; cases e'
    refine ⟨_, _, w', ?_, ⟨A', c', rfl, rfl⟩, ⟨_, s1.un s2, h1'', h2, fun j => ?_, rfl, r1, hrest⟩, ⟨hg.os, hg.tape, hg.output, hg.size⟩⟩
    · have ha : (#[s, x] : Array Operand).map (evR st) = #[v, .slice A m c] := by simp [hs, hx]
      simp only [execOp, ho, resolve, invoke, builtin, Sem.run_bind, Sem.run_pure, Result.andThen_ok, ha, hrun]
    · by_cases c0 : h1'' j = none
      · exact .inl c0
      · right
        have hj := (dom j c0).1
        rcases hat with hat | ⟨g, hat, hge⟩
        · rw [hat] at hj
          rcases d j with c1 | c1
          · exact absurd c1 (rowH_ne hrow hj)
          · exact c1
        · rw [hat] at hj
          injection hj with hj
          subst hj
          exact (hsub.right d).none hge
  · rintro v' hs' ⟨A', c', rfl, rfl⟩
    exact k A' c'

/-- what a row shows -/
theorem rowH_reads {v : Value} {A : Option Addr} {n c size : Nat} {e : TypeId} {xs : List Value} {w : World} (hv : v = .slice A n c) (s : Sat (rowH v n e size xs) w) : Reads w w.heap.size size A n xs := by
  obtain ⟨h, hs, r⟩ := s
  subst hv
  exact Reads.of_own (rowH_own r hs)
/-- where the first cell of a row is -/
theorem rowH_at {A : Option Addr} {n c size : Nat} {e : TypeId} {xs : List Value} {w : World} (s : Sat (rowH (.slice A n c) n e size xs) w) (hn : 0 < n) : ∃ g, A = some ⟨g, 0, none⟩ ∧ ∀ j u, xs[j]? = some u → w.cell? ⟨g, j, none⟩ = some u := by
  obtain ⟨h, hs, hl, r⟩ := s
  rcases r with ⟨h1, h2, _⟩ | ⟨g, cap, cur, h1, h2, h3, h4, h5, h6⟩
  · omega
  · injection h1 with h1 h1' h1''
    refine ⟨g, h1, fun j u hu => ?_⟩
    have hb : Blk w g e cur := hs g _ (by rw [h2]; simp)
    rw [hb.cell]
    rw [← h6, List.getElem?_take] at hu
    split at hu
    · simpa using hu
    · cases hu

/-- a loop that leaves the objects as they are -/
theorem LoopAt.heap {G : Gl} {body : St → (St → Prop) → Prop} {st : St} {α : Type} (Kp : List Nat) (S : α → List (Nat × SV)) (H : α → List HP) (pre : α → Prop) (μ : α → Nat) (a0 : α) (h0 : pre a0)
    (hB : Nat.ble G.B.length st.n = true) (s0 : leT st.n st.t (S a0)) (kk : leT st.n st.t (keepT st.t Kp)) (ho : leO st.n st.o st.o) (hh : ∀ h, sepL st.h G.R h → ∃ h', (∀ i o, h' i = some o → h i = some o) ∧ sepL (H a0) G.R h')
    (round : ∀ a, pre a → forceL (S a ++ keepT st.t Kp) fun t => body ⟨t, st.o, st.n, H a, True⟩ fun st' => stp st' fun st' => Next G pre μ (fun a => hd (S a) Kp st.o (H a) st) (μ a) st') : LoopAt G body st :=
  LoopAt.of Kp S (fun _ => st.o) H pre μ a0 h0 (Le.of (Nat.le_refl _) (Nat.le_of_ble_eq_true hB) (leT_append s0 kk) ho hh) round
theorem Next.heap {G : Gl} {st st' : St} {α : Type} {Kp : List Nat} {S : α → List (Nat × SV)} {H : α → List HP} {pre : α → Prop} {μ : α → Nat} {m : Nat} (a : α) (h : pre a) (hlt : μ a < m)
    (s0 : leT st.n st'.t (S a)) (kk : leT st.n st'.t (keepT st.t Kp)) (ho : leO st.n st'.o st.o) (hn : Nat.ble st.n st'.n = true) (hB : Nat.ble G.B.length st.n = true) (hh : ∀ h, sepL st'.h G.R h → ∃ h', (∀ i o, h' i = some o → h i = some o) ∧ sepL (H a) G.R h') :
    Next G pre μ (fun a => hd (S a) Kp st.o (H a) st) m st' :=
  ⟨a, h, hlt, Le.of (Nat.le_of_ble_eq_true hn) (Nat.le_of_ble_eq_true hB) (leT_append s0 kk) ho hh⟩
theorem sub_tail {A : HP} {l : List HP} {R : HP} {h : Hl} (s : sepL (A :: l) R h) : ∃ h', (∀ i o, h' i = some o → h i = some o) ∧ sepL l R h' := by
  obtain ⟨h1, h2, d, rfl, a, s⟩ := s
  refine ⟨h2, fun i o e => ?_, s⟩
  unfold un
  rcases d i with c | c
  · rw [c, e]; rfl
  · rw [c] at e; cases e
theorem sub_same {l : List HP} {R : HP} {h : Hl} (s : sepL l R h) : ∃ h', (∀ i o, h' i = some o → h i = some o) ∧ sepL l R h' := ⟨h, fun _ _ e => e, s⟩
end Sy
namespace Sy
set_option linter.unusedVariables false
set_option linter.unusedSimpArgs false

/-! groups: operations that only compute or read, in open order with a chain of others; behind a group comes what waits for all of it -/
inductive Stp | T (k : Nat) | H (k : Nat)
def HdG (P : Program) (ops : Array Oper) (Q : Exit → Act → World → Prop) (S : World → Prop) (n : Nat) (L : Array Bool → Act → World → Prop) : Nat → Array Bool → Act → World → Prop
  | 0, ls, a, w => L ls a w
  | f + 1, ls, a, w => Region.ready .any ops ls ≠ [] ∧ ∀ i, i ∈ Region.ready .any ops ls → i < n ∧ wpOp P ops Q i (fun a' w' => S w' ∧ HdG P ops Q S n L f (ls.setIfInBounds i true) a' w') a w
theorem HdG.any {P : Program} {ops : Array Oper} {Q : Exit → Act → World → Prop} {S : World → Prop} {n g : Nat} {L : Array Bool → Act → World → Prop} (hL : ∀ ls a w, L ls a w → wpAny P .any ops Q g ls a w) :
    ∀ (f : Nat) (ls : Array Bool) (a : Act) (w : World), HdG P ops Q S n L f ls a w → wpAny P .any ops Q (f + g) ls a w
  | 0, ls, a, w, h => by rw [Nat.zero_add]; exact hL ls a w h
  | f + 1, ls, a, w, h => by
    rw [show f + 1 + g = (f + g) + 1 by omega]
    exact ⟨fun h0 => absurd h0 h.1, fun i hi => wpOp_mono (fun a' w' h' => HdG.any hL f _ a' w' h'.2) (h.2 i hi).2⟩
def wallB (ops : Array Oper) (n : Nat) : Prop := ops.size ≤ n ∨ (n < ops.size ∧ Region.sinkB .any ops n = true ∧ chainW ops n = true)
theorem wall_lt {ops : Array Oper} {n : Nat} (hn : wallB ops n) {ls : Array Bool} (inv : HeadInv .any ops n ls) {i : Nat} (hin : i < n) (hun : ls.getD i true = false) {j : Nat} (hj : j ∈ Region.ready .any ops ls) : j < n := by
  rcases hn with h | ⟨h1, h2, h3⟩
  · obtain ⟨_, oj, hoj, _⟩ := mem_ready.1 hj
    have := (Array.getElem?_eq_some_iff.1 hoj).1
    omega
  · exact Nat.lt_of_not_le fun c => tail_waitsW h2 h3 h1 inv _ i rfl hin hun j c hj
theorem HdG.take {P : Program} {ops : Array Oper} {Q : Exit → Act → World → Prop} {S : World → Prop} {n i : Nat} {oi : Oper} {v : Value} {L : Array Bool → Act → World → Prop} (hi : ops[i]? = some oi) (hsel : Region.noSelect ops = true) (hn : wallB ops n) (hin : i < n)
    (hQ : ∀ c a w, Q (.panic c) (a.put oi.dst v) w → Q (.panic c) a w) (hdone : ∀ ls a w, L ls a w → ∀ j ∈ Region.ready .any ops ls, n ≤ j) :
    ∀ (f : Nat) (ls : Array Bool) (a : Act) (w : World), HeadInv .any ops n ls →
      (∀ j oj, ops[j]? = some oj → j ≠ i → ls.getD j true = false → (∀ e ∈ oj.after, Region.binds .any e = true → e.on ≠ i) → oi.apart ops oj = true) →
      i ∈ Region.ready .any ops ls → YieldsIf P ops S oi v a → S w → HdG P ops Q S n L f (ls.setIfInBounds i true) (a.put oi.dst v) w → HdG P ops Q S n L (f + 1) ls a w := by
  have sel := Region.noSelect_spec hsel
  intro f
  induction f with
  | zero =>
    intro ls a w inv _ hr hy hS H
    have hun := (mem_ready.1 hr).1
    refine ⟨List.ne_nil_of_mem hr, fun j hj => ?_⟩
    have hjn := wall_lt hn inv hin hun hj
    refine ⟨hjn, ?_⟩
    by_cases hji : j = i
    · subst hji; exact hy.wpOp hi hS ⟨hS, H⟩
    · have := hdone _ _ _ H j (ready_mono hj hji)
      omega
  | succ f ih =>
    intro ls a w inv hfree hr hy hS H
    have hun := (mem_ready.1 hr).1
    refine ⟨List.ne_nil_of_mem hr, fun j hj => ?_⟩
    have hjn := wall_lt hn inv hin hun hj
    refine ⟨hjn, ?_⟩
    by_cases hji : j = i
    · subst hji; exact hy.wpOp hi hS ⟨hS, H⟩
    · have h1 := (H.2 j (ready_mono hj hji)).2
      obtain ⟨hjun, oj, hoj, hall⟩ := mem_ready.1 hj
      have hnot : ∀ e ∈ oj.after, Region.binds .any e = true → e.on ≠ i := by
        intro e he hb heq
        have h3 := hall e he hb
        rw [heq, getD_both hun] at h3
        cases h3
      have h2 := wpOp_putIf hoj (hfree j oj hoj hji hjun hnot) (fun cs b => sel i oi cs b hi) (fun cs b => sel j oj cs b hoj) hQ hy h1
      refine wpOp_mono (fun a' w' h3 => ⟨h3.2.1, ih (ls.setIfInBounds j true) a' w' (inv.set hj hjn) ?_ (ready_mono hr (Ne.symm hji)) h3.1 h3.2.1 ?_⟩) h2
      · intro k ok hk hki hunk hno
        refine hfree k ok hk hki ?_ hno
        by_cases hjk : j = k
        · subst hjk; exact hjun
        · rw [getD_set_ne true hjk] at hunk; exact hunk
      · rw [Array.setIfInBounds_comm _ _ hji]
        exact h3.2.2

def hasT : List Stp → Bool
  | [] => false
  | .T _ :: _ => true
  | .H _ :: r => hasT r
end Sy
namespace Sy
set_option linter.unusedVariables false
set_option linter.unusedSimpArgs false

/-- an operation whose value the model's own text gives -/
theorem OpAt.val {G : Gl} {o : Oper} {st : St} {K : St → Prop} (v : Value) (hsel : notSel o.op = true) (hr : allR st o.op.operands.toList = true) (hrun : ∀ w, Sat (sepL st.h G.R) w → (execOp (evR st) o).run G.P w = .ok (.value v) w) (k : putK G st o.dst (.v v) none K) : OpAt G o st K := by
  refine .mk fun ρ a w m mm => ?_
  have hc : execOp a.eval o = execOp (evR st) o := execOp_congr o (fun cs b => notSel_spec hsel cs b) fun x hx => allR_sound m hr x (by simpa using hx)
  obtain ⟨st', k', m', mm2⟩ := putK_go k (ρ := ρ) (v := v) rfl m mm
  unfold Oper.wp
  rw [hc, hrun w mm.sat]
  exact ⟨st', ρ, k', m', mm2, Ext.refl _⟩
/-- a struct read whole -/
theorem LoadAt.agg {G : Gl} {st : St} {K : SV → Prop} {t : TypeId} {b off : Nat} {d : TypeDesc} (vs : List Value) (hu : G.P.underlying t = some d) (hd : d.isRow = true) (hi : (G.P.info? t).map (·.size) = some vs.length)
    (h : ∀ w, Sat (sepL st.h G.R) w → ∀ (j : Nat) (v : Value), vs[j]? = some v → w.cell? ⟨b, off + j, none⟩ = some v) (k : K (.v (.agg vs.toArray))) : LoadAt G t ⟨b, off, none⟩ st K :=
  .mk _ (fun ρ w m => run_loadAt_mid w b off t vs d (fun j v hv => h w m.sat j v hv) hu hd hi) k

/-- cells put in place of others -/
def putL (xs : List Value) (off : Nat) (ys : List Value) : List Value := xs.take off ++ ys ++ xs.drop (off + ys.length)
theorem putL_len {xs ys : List Value} {off : Nat} (h : off + ys.length ≤ xs.length) : (putL xs off ys).length = xs.length := by simp [putL]; omega
theorem putL_get {xs ys : List Value} {off : Nat} (h : off + ys.length ≤ xs.length) (k : Nat) : (putL xs off ys)[k]? = if off ≤ k ∧ k < off + ys.length then ys[k - off]? else xs[k]? := by
  unfold putL
  by_cases c : k < off
  · rw [List.append_assoc, List.getElem?_append_left (by simp; omega), List.getElem?_take_of_lt c, if_neg (by omega)]
  · by_cases c2 : k < off + ys.length
    · rw [List.append_assoc, List.getElem?_append_right (by simp; omega), List.getElem?_append_left (by simp; omega), if_pos ⟨by omega, c2⟩]
      congr 1
      simp; omega
    · rw [List.getElem?_append_right (by simp; omega), List.getElem?_drop, if_neg (by omega)]
      congr 1
      simp; omega

/-- a cell, or some, of a part of the heap written -/
theorem OpAt.store {G : Gl} {o : Oper} {st : St} {K : St → Prop} {t : TypeId} {x y : Operand} {A A' : HP} {i : TypeInfo} (b off : Nat) (v : Value) (rest : List HP) (ho : o.op = .store t x y) (hp : ∀ h, sepL st.h G.R h → sepL (A :: rest) G.R h) (hx : evR st x = .pointer (some ⟨b, off, none⟩)) (hy : evR st y = v)
    (hr : allR st o.op.operands.toList = true) (hi : G.P.info? t = some i) (hsz : v.cells.size = i.size) (h1 : ∀ u ∈ v.cells.toList, u.oneCell' = true)
    (hA : ∀ h, A h → ∃ ty cs, h b = some (.cells cs ty (0, 0)) ∧ off + v.cells.size ≤ cs.size ∧ A' fun j => if j = b then some (.cells (putL cs.toList off v.cells.toList).toArray ty (0, 0)) else h j)
    (k : putK G { st with h := A' :: rest } o.dst (.v undef) none K) : OpAt G o st K := by
  refine .mk fun ρ a w m mm => ?_
  obtain ⟨h, s1, s2, d0, s3⟩ := mem_split mm
  obtain ⟨g1, g2, d, rfl, a1, a2⟩ := hp h s2
  obtain ⟨ty, cs, hb, hoff, hA'⟩ := hA g1 a1
  have hc : execOp a.eval o = execOp (evR st) o := execOp_congr o (fun cs b => notSel_spec (by rw [ho]; rfl) cs b) fun x hx => allR_sound m hr x (by simpa using hx)
  have hwb : w.heap[b]? = some (.cells cs ty (0, 0)) := s1.left b _ hb
  have hg2 : g2 b = none := by
    rcases d b with e | e
    · rw [hb] at e; cases e
    · exact e
  have hob : obj st ρ w b = none := by
    rcases d0 b with e | e
    · exact e
    · unfold un at e; rw [hb] at e; cases e
  have hrun := run_storeCells_at (P := G.P) b off ty v.cells.toList 0 cs w hwb (by simp; omega) h1
  simp only [Nat.add_zero] at hrun
  have hrun' : (execOp (evR st) o).run G.P w = .ok .skip (w.setRow b (putL cs.toList off v.cells.toList).toArray) := by
    simp only [execOp, ho, hx, hy, Instr.storeAt, Instr.sureAddr, storeVar, sizeOf, typeInfo, Sem.run_bind, Sem.run_pure, Result.andThen_ok]
    simp [hi, hsz, hrun, putL]
  generalize hW : w.setRow b (putL cs.toList off v.cells.toList).toArray = w' at hrun'
  have hh : w'.heap[b]? = some (.cells (putL cs.toList off v.cells.toList).toArray ty (0, 0)) := by rw [← hW]; exact setRow_heap w b cs _ ty (0, 0) hwb
  have hne : ∀ j, j ≠ b → w'.heap[j]? = w.heap[j]? := fun j hj => by
    rw [← hW]
    simp only [World.setRow, Array.getElem?_modify]
    rw [if_neg (fun e => hj e.symm)]
  have hwd : Wd w w' := by
    rw [← hW]
    exact ⟨rfl, rfl, rfl, by simp [World.setRow]⟩
  have old : ∀ {g : Hl}, g b = none → Sub g w → Sub g w' := fun {g} hgb s j ob e => by
    have : j ≠ b := fun c => by subst c; rw [hgb] at e; cases e
    rw [hne j this]; exact s j ob e
  generalize hq : (fun j => if j = b then some (Obj.cells (putL cs.toList off v.cells.toList).toArray ty (0, 0)) else g1 j) = g1' at hA'
  have dom : ∀ j, g1' j = none ↔ g1 j = none := fun j => by
    rw [← hq]
    simp only
    by_cases c : j = b
    · subst c; simp [hb]
    · simp [c]
  have sub1 : Sub g1' w' := fun j ob e => by
    rw [← hq] at e
    simp only at e
    by_cases c : j = b
    · subst c; rw [if_pos rfl] at e; rw [← e]; exact hh
    · rw [if_neg c] at e; rw [hne j c]; exact s1.left j ob e
  have mm' : Mem G { st with h := A' :: rest } ρ w' := by
    refine mem_join (g := un (obj st ρ w) (un g1' g2)) mm hwd ((old hob s3).un (sub1.un (old hg2 (s1.right d)))) ⟨un g1' g2, fun j => ?_, rfl, g1', g2, fun j => ?_, rfl, hA', a2⟩
    · rcases d0 j with e | e
      · exact .inl e
      · exact .inr (un_none.2 ⟨(dom j).2 (un_none.1 e).1, (un_none.1 e).2⟩)
    · rcases d j with e | e
      · exact .inl ((dom j).2 e)
      · exact .inr e
  obtain ⟨st', k', m', mm2⟩ := putK_go k (ρ := ρ) (v := undef) rfl (m.same rfl) mm'
  unfold Oper.wp
  rw [hc, hrun']
  exact ⟨st', ρ, k', m', mm2, Ext.refl _⟩
/-- into a row -/
theorem row_put {g n cap size off : Nat} {e : TypeId} {xs ys : List Value} (h : off + ys.length ≤ n * size) {hl : Hl} (r : rowH (.slice (some ⟨g, 0, none⟩) n cap) n e size xs hl) :
    ∃ ty cs, hl g = some (.cells cs ty (0, 0)) ∧ off + ys.length ≤ cs.size ∧ rowH (.slice (some ⟨g, 0, none⟩) n cap) n e size (putL xs off ys) fun j => if j = g then some (.cells (putL cs.toList off ys).toArray ty (0, 0)) else hl j := by
  obtain ⟨hx, r⟩ := r
  rcases r with ⟨c, _⟩ | ⟨g', cap', cur, h1, h2, h3, h4, h5, h6⟩
  · cases c
  injection h1 with e1 e2 e3
  injection e1 with e1
  injection e1 with e1
  subst e1 e3
  have hcur : n * size ≤ cur.size := by rw [h5]; exact Nat.mul_le_mul_right _ h3
  refine ⟨e, cur, by rw [h2]; simp, by omega, by rw [putL_len (by omega)]; exact hx, .inr ⟨g, cap, (putL cur.toList off ys).toArray, rfl, fun j => ?_, h3, h4, ?_, ?_⟩⟩
  · by_cases c : j = g
    · subst c; simp
    · simp [c, h2]
  · simp only [List.size_toArray]
    rw [putL_len (by simp; omega)]
    simpa using h5
  · apply List.ext_getElem?
    intro k
    simp only [List.toList_toArray]
    rw [List.getElem?_take]
    by_cases c : k < n * size
    · rw [if_pos c, putL_get (by simp; omega), putL_get (by omega)]
      split
      · rfl
      · rw [← h6, List.getElem?_take_of_lt c]
    · rw [if_neg c, List.getElem?_eq_none]
      rw [putL_len (by omega)]; omega

/-- the world as it was -/
def was (w : World) : HP := fun g => g = fun i => w.heap[i]?
theorem was_ext {w w' : World} (s : Sat (was w) w') {i : Nat} {o : Obj} (h : w.heap[i]? = some o) : w'.heap[i]? = some o := by
  obtain ⟨g, g1, rfl⟩ := s
  exact g1 i o h
end Sy
namespace Sy
set_option linter.unusedVariables false
set_option linter.unusedSimpArgs false

theorem sub_nil {R : HP} : ∀ {l : List HP} {h : Hl}, sepL l R h → ∃ h' : Hl, (∀ i o, h' i = some o → h i = some o) ∧ sepL [] R h'
  | [], h, s => ⟨h, fun _ _ e => e, s⟩
  | A :: l, h, s => by
    obtain ⟨h1, e1, s1⟩ := sub_tail s
    obtain ⟨h2, e2, s2⟩ := sub_nil s1
    exact ⟨h2, fun i o e => e1 i o (e2 i o e), s2⟩
theorem OpAt.append1 {G : Gl} {o : Oper} {st : St} {K : St → Prop} {t e : TypeId} {s x : Operand} {i : TypeInfo} {z : Value} (v : Value) (n size bytes : Nat) (xs news : List Value) (A : Option Addr) (m c : Nat) (rest : List HP)
    (ho : o.op = .call { callee := .builtin .append, args := #[s, x], argTypes := #[t, t] }) (hp : ∀ h, sepL st.h G.R h → sepL (rowH v n e size xs :: rest) G.R h) (hs : evR st s = v) (hx : evR st x = .slice A m c) (hr : allR st o.op.operands.toList = true)
    (hu : G.P.underlying t = some (.slice e)) (hi : G.P.info? e = some i) (hz : i.zero = some z) (hsize : i.size = size) (hby : i.bytes = bytes) (hzs : z.cells.size = size) (hsz : 0 < size)
    (src : ∀ w, Sat (sepL rest G.R) w → Reads w w.heap.size size A m news) (h1 : ∀ u ∈ news, u.oneCell' = true) (h63 : n + m ≤ maxLen) (hbytes : (n + m) * bytes ≤ 140737488355328)
    (hpos : 0 < n + m) (k : ∀ g c', putK G { st with h := rowH (.slice (some ⟨g, 0, none⟩) (n + m) c') (n + m) e size (xs ++ news) :: rest } o.dst (.v (.slice (some ⟨g, 0, none⟩) (n + m) c')) none K) : OpAt G o st K := by
  refine OpAt.sem (pre := [rowH v n e size xs]) (post := fun v' hs => ∃ g c', v' = .slice (some ⟨g, 0, none⟩) (n + m) c' ∧ hs = [rowH (.slice (some ⟨g, 0, none⟩) (n + m) c') (n + m) e size (xs ++ news)]) rest hp (by rw [ho]; rfl) hr ?_ ?_
  · rintro R' hR' w ⟨h, hsub, h1', h2, d, rfl, hrow, hrest⟩
    have hown := rowH_own hrow hsub.left
    have hrd := src w (hR' w ⟨h2, hsub.right d, hrest⟩)
    obtain ⟨v', w', hrun, hown', hB, hg, hat⟩ := run_append_appl (P := G.P) w 0 t o.type e i z size bytes hu hi hz hsize hby hzs hsz v n xs (.inl hown) w.heap.size A m c news hrd h1 (.inr hown) h63 hbytes (Nat.zero_le _)
    obtain ⟨A', c', rfl, _⟩ := own_shape' hown'
    obtain ⟨g0, rfl⟩ : ∃ g0, A' = some ⟨g0, 0, none⟩ := by
      rcases hown'.2 with ⟨h1, h2⟩ | ⟨g0, cap, cur, h1, _⟩
      · omega
      · injection h1 with h1; exact ⟨g0, h1⟩
    obtain ⟨h1'', r1, s1, dom⟩ := own_rowH hown'
    have s2 : Sub h2 w' := fun j ob e' => by
      have hj := hsub.right d j ob e'
      have hlt := (Array.getElem?_eq_some_iff.1 hj).1
      rw [hg.block j hlt ?_]
      · exact hj
      · intro c0
        rcases d j with c1 | c1
        · exact rowH_ne hrow c0.symm c1
        · rw [c1] at e'; cases e'
    refine ⟨_, _, w', ?_, ⟨g0, c', rfl, rfl⟩, ⟨_, s1.un s2, h1'', h2, fun j => ?_, rfl, r1, hrest⟩, ⟨hg.os, hg.tape, hg.output, hg.size⟩⟩
    · have ha : (#[s, x] : Array Operand).map (evR st) = #[v, .slice A m c] := by simp [hs, hx]
      simp only [execOp, ho, resolve, invoke, builtin, Sem.run_bind, Sem.run_pure, Result.andThen_ok, ha, hrun]
    · by_cases c0 : h1'' j = none
      · exact .inl c0
      · right
        have hj := (dom j c0).1
        rcases hat with hat | ⟨g, hat, hge⟩
        · rw [hat] at hj
          rcases d j with c1 | c1
          · exact absurd c1 (rowH_ne hrow hj)
          · exact c1
        · rw [hat] at hj
          injection hj with hj
          subst hj
          exact (hsub.right d).none hge
  · rintro v' hs' ⟨A', c', rfl, rfl⟩
    exact k A' c'

end Sy
namespace Sy
set_option linter.unusedVariables false
set_option linter.unusedSimpArgs false

/-- a string of these bytes -/
def bs (l : List UInt8) : ByteArray := ⟨l.toArray⟩
@[simp] theorem bs_size (l : List UInt8) : (bs l).size = l.length := by simp [bs, ByteArray.size]
@[simp] theorem bs_toList (l : List UInt8) : (bs l).data.toList = l := by simp [bs]
theorem bs_inj {a b : List UInt8} : bs a = bs b ↔ a = b := ⟨fun h => by have := congrArg (fun s => s.data.toList) h; simpa using this, fun h => by rw [h]⟩
/-- what the function made for itself is let go -/
theorem fin_drop {G : Gl} {st : St} {v r : Value} (e : r = v) : Fin G r st fun r hs => r = v ∧ hs = [] := ⟨[], fun w ⟨h, h1, s⟩ => by
  obtain ⟨h', e', s'⟩ := sub_nil s
  exact ⟨h', h1.mono e', s'⟩, e, rfl⟩

end Sy
namespace Sy
set_option linter.unusedVariables false
set_option linter.unusedSimpArgs false

/-- a body's first n parts, and its end -/
def cutC : Nat → Code → Option (Code × Code)
  | 0, c => some (.skip, c)
  | n + 1, .seq x y => match cutC n y with
    | some r => some (.seq x r.1, r.2)
    | none => none
  | _ + 1, _ => none
theorem run_cut {G : Gl} (hm : G.P.follows .mixedOrders = true) : ∀ (n : Nat) {c c1 d : Code}, cutC n c = some (c1, d) → ∀ {st : St} {K : St → Prop} {E : Nat → St → Prop} {R : St → Prop}, run G c1 st K E R → Good K → (∀ j, Good (E j)) → Good R →
    ∀ ρ a w Q, (∀ e a w, PXE G e a w → Q e a w) → Tm G st ρ a → Mem G st ρ w → (∀ st ρ a w, K st → Tm G st ρ a → Mem G st ρ w → d.wp G.P Q a w) → (∀ j st ρ a w, E j st → Tm G st ρ a → Mem G st ρ w → Q (.exit j) a w) →
      (∀ st ρ a w, R st → Tm G st ρ a → Mem G st ρ w → Q .ret a w) → c.wp G.P Q a w
  | 0, c, c1, d, e, st, K, E, R, h, hK, hE, hR => by
    simp only [cutC, Option.some.injEq, Prod.mk.injEq] at e
    obtain ⟨rfl, rfl⟩ := e
    unfold run at h
    exact fun ρ a w Q hx m mm q1 q2 q3 => q1 _ _ _ _ h m mm
  | n + 1, .seq x y, c1, d, e, st, K, E, R, h, hK, hE, hR => by
    simp only [cutC] at e
    split at e
    · rename_i r hr
      obtain ⟨c2, d2⟩ := r
      simp only [Option.some.injEq, Prod.mk.injEq] at e
      obtain ⟨rfl, rfl⟩ := e
      unfold run at h
      obtain ⟨hc, hw⟩ := run_sound hm x h (fun st h => (run_sound hm c2 h hK hE hR).1) hE hR
      refine fun ρ a w Q hx m mm q1 q2 q3 => wp_seq ?_
      refine hw ρ a w _ (fun e a w hp => by obtain ⟨ch, e', h'⟩ := hp; subst e'; exact hx _ _ _ ⟨ch, rfl, h'⟩) m mm (fun st ρ a w k m mm => ?_) q2 q3
      exact run_cut hm n hr k hK hE hR ρ a w Q hx m mm q1 q2 q3
    · cases e
/-- the end of a body, run from nothing known, comes to v -/
noncomputable def endSays (P : Program) (fuel : Nat) (orc : Cx.Callee) (T : List (Nat × Cx.Ob)) (n : Nat) (fn : Func) (d : Code) (v : Value) : Bool :=
  Cx.hpK T fun h => match Cx.code P (Cx.callO P fuel orc n) fuel fn.ntmps d ⟨.lf, h, 0⟩ with
    | some (ex, s) => (match ex with
      | .exit _ => false
      | _ => true) && (match Cx.resV P s fn.results.toList with
        | some l => Cx.veq (Cx.mkRes l) v && (Nat.ble s.c Cx.gbase && Cx.keptT T s.h)
        | none => false)
    | none => false
/-- a function's body behind its first n parts -/
noncomputable def tailOf (n : Nat) (fn : Func) : Code := match fn.body with
  | some c => match cutC n c with
    | some r => r.2
    | none => .skip
  | none => .skip
theorem fn_of_run_cut {P : Program} {R : HP} {f : FuncId} {fn : Func} {c c1 d : Code} {args : List Value} {v : Value} (tr : Bool) (k : Nat)
    (hf : P.funcs[f]? = some fn) (hb : fn.body = some c) (hcut : cutC k c = some (c1, d)) (hm : P.follows .mixedOrders = true) (hN : Nat.ble args.length fn.ntmps = true) (hcap : Nat.ble fn.ntmps Cx.cap0 = true)
    {fuel n : Nat} {orc : Cx.Callee} (ho : Cx.CallOK P orc) {T : List (Nat × Cx.Ob)} (hs : Cx.smallT T = true) (hT : ∀ w, Sat R w → Cx.LaidT T w) (hv : Cx.flat v = true) (he : endSays P fuel orc T n fn d v = true)
    (h : ∀ w0, run (gl P R w0 fn.ntmps tr []) c1 ⟨startT 0 (toSVs args), [], 0, [], True⟩ (fun st => st.c) (fun _ _ => False) (retK (gl P R w0 fn.ntmps tr []) fn fun r hs => r = v ∧ hs = [])) :
    PureR P R f args v := by
  intro w hsat
  have hN := Nat.le_of_ble_eq_true hN
  obtain ⟨hp, hsub, hr⟩ := hsat
  refine calls_of_wp hf hb ?_
  refine run_cut (G := gl P R w fn.ntmps tr []) hm k hcut (h w) (fun st h => h) (fun _ _ h => h.elim) good_ret [] _ w _ (fun e a w hp => by obtain ⟨_, _, _, _, hf, _⟩ := hp; exact hf.elim) ⟨?_, rfl, ?_⟩ ⟨Wd.refl w, by simp, List.nodup_nil, by simp, by simp, (by intro y hy; cases hy), ⟨[], by simp [gl]⟩, hp, hsub, hr, (by intro y hy; cases hy)⟩ ?_ (fun _ _ _ _ _ h => h.elim) ?_
  · simp [gl]; omega
  · intro t x ht
    obtain ⟨_, h2⟩ := startT_get ht
    simp only [Nat.sub_zero] at h2
    obtain ⟨u, h3, h4⟩ := denL_at (toSVs_den (ρ := []) args) h2
    have hlt := (List.getElem?_eq_some_iff.1 h3).1
    refine ⟨by simp only [gl]; omega, ?_⟩
    rw [h4]
    have h3' : args[t] = u := (List.getElem?_eq_some_iff.1 h3).2
    simp [Array.getElem?_append, hlt, h3']
  · intro st ρ a w1 _ m mm
    have hR : Sat R w1 := by
      obtain ⟨g, g1, g2, _⟩ := mm.hp
      obtain ⟨h', e, s2⟩ := sub_nil g2
      exact ⟨h', g1.mono e, s2⟩
    unfold endSays at he
    rw [Cx.hpK_eq] at he
    split at he
    · rename_i ex s hcode
      rw [Bool.and_eq_true] at he
      obtain ⟨hex, he⟩ := he
      split at he
      · rename_i l hl
        simp only [Bool.and_eq_true] at he
        obtain ⟨e1, e2, e3⟩ := he
        have e1 := Cx.veq_eq e1
        refine (Cx.code_sound hm (Nat.le_of_ble_eq_true hcap) (Cx.callO_sound hm fuel ho n) d hcode).2 (Cx.rnT T) a w1 _ (Cx.rnT_ok T) ⟨m.size, fun k v hk => by cases hk⟩ (Cx.lay_hpT hs (hT _ hR)) (Cx.rnT_free (Nat.le_of_ble_eq_true e2)) fun ρ' a' w' m' rn dd => ?_
        have hbel := Cx.ran_below hs (hT _ hR) rn (Cx.keptT_get e3)
        obtain ⟨vs, k1, k2⟩ := Cx.resV_sound m' rn.lay hl
        have hd := Cx.mkRes_den k1
        rw [e1] at hd
        have hfin : (results fn a'.tmps).run P w' = .ok v w' := by rw [Cx.results_run k2, hd.flat_eq hv]
        have hdef : a'.defers = [] := by rw [dd]; exact m.defs
        have hend : ∃ r hs, Ending.returned v = .returned r ∧ (r = v ∧ hs = []) ∧ Sat (sepL hs R) w' ∧ Wd w w' := by
          obtain ⟨g, g1, g2⟩ := hR
          exact ⟨v, [], rfl, ⟨rfl, rfl⟩, ⟨g, g1.below hbel, g2⟩, mm.wd.trans (.of_below hbel)⟩
        cases ex with
        | normal => exact ⟨hdef, _, hfin, hend⟩
        | ret => exact ⟨hdef, _, hfin, hend⟩
        | exit j => cases hex
      · cases he
    · cases he
  · intro st ρ a w' k m mm
    obtain ⟨xs, k, hx⟩ := resK_sound k
    obtain ⟨vs, e1, e2⟩ := hx _ ρ a w' m mm.ob
    rcases (expA_sound k).2 ρ a w' (by simp) m mm with k | ⟨vs', st', k, e3, m', mm'⟩
    · exact k.elim
    obtain ⟨_, ⟨hs, hent, k⟩⟩ := stp_iff.1 k
    rw [e1] at e3
    injection e3 with e3
    subst e3
    have hsat : Sat (sepL hs R) w' := by
      obtain ⟨g, g1, g2, _⟩ := mm'.hp
      exact hent w' ⟨g, g1, g2⟩
    exact ⟨m.defs, _, results_run e2, _, hs, rfl, k, hsat, mm.wd⟩
end Sy

theorem hmix : Tryz.prog.follows .mixedOrders = true := by kernel_rfl
end Go.Proofs.YtgfiakgahmpfkaaGreatDoor
