/-
  Symbolic runs: slices of the call's own: made, appended to, read.
-/
import Derived.Test.YteplckkoiffnnaaGreatDoorSyDraw
import Derived.Test.YteplckkoiffnnaaGreatDoorKeep
import Derived.Great.FillDense
import Derived.Great.BuildSlice
import Derived.Laws.MakeOwn
namespace Go.Proofs.YteplckkoiffnnaaGreatDoor
open Go.RowKit
namespace Sy
set_option linter.unusedVariables false
set_option linter.unusedSimpArgs false

def pull : Nat → List HP → List HP
  | 0, l => l
  | _ + 1, [] => []
  | n + 1, A :: l => match pull n l with
    | [] => [A]
    | B :: r => B :: A :: r
theorem sepL_pull {R : HP} : ∀ (n : Nat) {l : List HP} {h : Hl}, sepL l R h → sepL (pull n l) R h
  | 0, l, h, s => s
  | n + 1, [], h, s => s
  | n + 1, A :: l, h, s => by
    obtain ⟨h1, h2, d, e, a, s⟩ := s
    have s' := sepL_pull n s
    have hp : pull n l = [] ∨ ∃ B r, pull n l = B :: r := by cases pull n l <;> simp
    unfold pull
    rcases hp with hp | ⟨B, r, hp⟩
    · rw [hp] at s' ⊢
      exact ⟨h1, h2, d, e, a, s'⟩
    · rw [hp] at s' ⊢
      exact sep_swap ⟨h1, h2, d, e, a, s'⟩
theorem Sat.left {A B : HP} {w : World} (s : Sat (sep A B) w) : Sat A w := by
  obtain ⟨h, hs, h1, h2, d, rfl, a, b⟩ := s
  exact ⟨h1, hs.left, a⟩
theorem Sat.right {A B : HP} {w : World} (s : Sat (sep A B) w) : Sat B w := by
  obtain ⟨h, hs, h1, h2, d, rfl, a, b⟩ := s
  exact ⟨h2, hs.right d, b⟩
theorem Sat.in_ {R A : HP} {w : World} : ∀ (n : Nat) {l : List HP}, Sat (sepL l R) w → l[n]? = some A → Sat A w
  | n, [], s, h => by simp at h
  | 0, B :: l, s, h => by simp at h; subst h; exact Sat.left s
  | n + 1, B :: l, s, h => Sat.in_ n (l := l) (Sat.right s) (by simpa using h)
theorem Sat.rest {R : HP} {w : World} : ∀ {l : List HP}, Sat (sepL l R) w → Sat R w
  | [], s => s
  | B :: l, s => Sat.rest (l := l) (Sat.right s)

/-- a slice that owns its row -/
def rowH (v : Value) (n : Nat) (e : TypeId) (size : Nat) (xs : List Value) : HP := fun h =>
  xs.length = n * size ∧ ((v = .slice none 0 0 ∧ n = 0 ∧ ∀ i, h i = none) ∨
    ∃ g cap cur, v = .slice (some ⟨g, 0, none⟩) n cap ∧ (∀ i, h i = if i = g then some (.cells cur e (0, 0)) else none) ∧ n ≤ cap ∧ cap ≤ maxLen ∧ cur.size = cap * size ∧ cur.toList.take (n * size) = xs)
theorem rowH_own {v : Value} {n size : Nat} {e : TypeId} {xs : List Value} {h : Hl} {w : World} (r : rowH v n e size xs h) (s : Sub h w) : w.ownsRow 0 e size v n xs := by
  obtain ⟨hl, hr⟩ := r
  refine ⟨hl, ?_⟩
  rcases hr with ⟨h1, h2, _⟩ | ⟨g, cap, cur, h1, h2, h3⟩
  · exact .inl ⟨h1, h2⟩
  · exact .inr ⟨g, cap, cur, h1, Nat.zero_le _, s g _ (by rw [h2]; simp), h3⟩
theorem own_rowH {v : Value} {n size base : Nat} {e : TypeId} {xs : List Value} {w : World} (r : w.ownsRow base e size v n xs) : ∃ h, rowH v n e size xs h ∧ Sub h w ∧ ∀ i, h i ≠ none → v.ownBlock = some i ∧ base ≤ i := by
  obtain ⟨hl, hr⟩ := r
  rcases hr with ⟨h1, h2⟩ | ⟨g, cap, cur, h1, hg, h2, h3⟩
  · exact ⟨fun _ => none, ⟨hl, .inl ⟨h1, h2, fun _ => rfl⟩⟩, (fun i o e => by cases e), fun i c => absurd rfl c⟩
  · refine ⟨fun i => if i = g then some (.cells cur e (0, 0)) else none, ⟨hl, .inr ⟨g, cap, cur, h1, fun _ => rfl, h3⟩⟩, fun i o e => ?_, fun i c => ?_⟩
    · simp only at e
      split at e
      · rename_i hi; subst hi; rw [← e]; exact h2
      · cases e
    · simp only at c
      split at c
      · rename_i hi; subst hi; exact ⟨by rw [h1]; rfl, hg⟩
      · exact absurd rfl c
/-- a row that is new -/
theorem sat_row {A : HP} {w w' : World} {v : Value} {n size : Nat} {e : TypeId} {xs : List Value} (s : Sat A w) (hb : Below w.heap.size w w') (r : w'.ownsRow w.heap.size e size v n xs) : Sat (sep (rowH v n e size xs) A) w' := by
  obtain ⟨h2, s2, a⟩ := s
  obtain ⟨h1, r1, s1, d⟩ := own_rowH r
  refine ⟨un h1 h2, s1.un (s2.below hb), h1, h2, fun i => ?_, rfl, r1, a⟩
  by_cases c : h1 i = none
  · exact .inl c
  · exact .inr (s2.none (d i c).2)

theorem putK_go {G : Gl} {st : St} {d : Option Nat} {x : SV} {K : St → Prop} (h : putK G st d x none K) {ρ : List Nat} {a : Act} {w : World} {v : Value} (hx : x.den ρ = some v) (m : Tm G st ρ a) (mm : Mem G st ρ w) : ∃ st', K st' ∧ Tm G st' ρ (a.put d v) ∧ Mem G st' ρ w := by
  obtain ⟨t, o, n, hh, c⟩ := st
  unfold putK at h
  cases d with
  | some i =>
    simp only at h
    split at h
    · rename_i hi
      have hi' : i < G.N := Nat.le_of_ble_eq_true hi
      exact ⟨_, h, m.put_ hi' hx _ _ _ _, mm.same rfl rfl rfl⟩
    · exact h.elim
  | none => exact ⟨_, h, m, mm⟩
/-- an operation's own law, apart from R -/
def SemR (P : Program) (R : HP) (s : Sem Go.Next) (pre : List HP) (post : Value → List HP → Prop) : Prop :=
  ∀ w, Sat (sepL pre R) w → ∃ v hs w', s.run P w = .ok (.value v) w' ∧ post v hs ∧ Sat (sepL hs R) w' ∧ Wd w w'
theorem OpAt.sem {G : Gl} {o : Oper} {st : St} {K : St → Prop} {pre : List HP} {post : Value → List HP → Prop} (rest : List HP) (hp : ∀ h, sepL st.h G.R h → sepL (pre ++ rest) G.R h) (hsel : notSel o.op = true) (hr : allR st o.op.operands.toList = true)
    (hf : ∀ R', (∀ w, Sat R' w → Sat (sepL rest G.R) w) → SemR G.P R' (execOp (evR st) o) pre post) (k : ∀ v hs, post v hs → putK G { st with h := hs ++ rest } o.dst (.v v) none K) : OpAt G o st K := by
  refine .mk fun ρ a w m mm => ?_
  obtain ⟨h, h1, h2, h3, h4⟩ := mem_split mm
  have h2 := hp h h2
  rw [sepL_append] at h2
  obtain ⟨v, hs, w', hrun, hv, ⟨g, g1, s⟩, hw⟩ := hf (plus (obj st ρ w) (sepL rest G.R)) (by
    rintro w' ⟨g, g1, ⟨g2, d, rfl, s⟩⟩
    exact ⟨g2, g1.right d, s⟩) w ⟨_, h4.un h1, plus_in h3 h2⟩
  have hc : execOp a.eval o = execOp (evR st) o := execOp_congr o (fun cs b => notSel_spec hsel cs b) fun x hx => allR_sound m hr x (by simpa using hx)
  have mm' : Mem G { st with h := hs ++ rest } ρ w' := by
    refine mem_join mm hw g1 ?_
    have := plus_out s
    rwa [sepL_append]
  obtain ⟨st', k', m', mm2⟩ := putK_go (k v hs hv) (ρ := ρ) (v := v) rfl (m.same rfl) mm'
  unfold Oper.wp
  rw [hc, hrun]
  exact ⟨st', ρ, k', m', mm2, Ext.refl _⟩

def dens : Nat → List (Nat × Operand) → Bool
  | _, [] => true
  | n, (i, _) :: l => match Nat.beq i n with
    | true => dens (n + 1) l
    | false => false
theorem dens_eq {ev : Operand → Value} : ∀ {l : List (Nat × Operand)} {n : Nat}, dens n l = true → l.map (fun (i, x) => (i, ev x)) = ((l.map fun p => ev p.2).zipIdx n).map fun x => (x.2, x.1)
  | [], n, _ => rfl
  | (i, x) :: l, n, h => by
    unfold dens at h
    split at h
    · rename_i e
      have := beq_of e
      subst this
      simp [dens_eq h]
    · cases h

/-- what the cells of values are, one behind the other -/
def cellsOf (vs : List Value) : List Value := vs.flatMap fun v => v.cells.toList
theorem fill_all {size : Nat} (hs : 0 < size) (vs : List Value) (cells : Array Value) (hv : ∀ v ∈ vs, v.cells.size = size) (hc : cells.size = vs.length * size) :
    Instr.fill (fun i => some (i * size, size)) cells ((vs.zipIdx 0).map fun x => (x.2, x.1)) = some (cellsOf vs).toArray := by
  obtain ⟨r, h1, h2, h3⟩ := Great.fill_dense hs vs 0 cells hv (by rw [hc]; simp)
  rw [h1]
  congr 1
  apply Array.ext_getElem?
  intro k
  rw [h3 k]
  have hlen : ∀ (l : List Value), (∀ v ∈ l, v.cells.size = size) → (cellsOf l).length = l.length * size := by
    intro l hl
    induction l with
    | nil => simp [cellsOf]
    | cons v l ih =>
      have := ih fun v hv => hl v (List.mem_cons_of_mem _ hv)
      simp only [cellsOf, List.flatMap_cons, List.length_append, Array.length_toList, List.length_cons] at this ⊢
      rw [this, hl v List.mem_cons_self, Nat.add_mul]
      omega
  have hat : ∀ (l : List Value) (k : Nat), (∀ v ∈ l, v.cells.size = size) → k < l.length * size → (cellsOf l)[k]? = (l[k / size]?).bind fun v => v.cells[k % size]? := by
    intro l
    induction l with
    | nil => intro k _ h; simp at h
    | cons v l ih =>
      intro k hl hk
      have hvs := hl v List.mem_cons_self
      have hl' := fun u hu => hl u (List.mem_cons_of_mem _ hu)
      simp only [cellsOf, List.flatMap_cons]
      by_cases c : k < size
      · rw [List.getElem?_append_left (by simp [hvs, c]), Nat.div_eq_of_lt c, Nat.mod_eq_of_lt c]
        simp
      · rw [List.getElem?_append_right (by simp [hvs]; omega)]
        have e1 : k / size = (k - size) / size + 1 := by
          rw [Nat.div_eq k, if_pos ⟨hs, by omega⟩]
        have e2 : k % size = (k - size) % size := by
          rw [Nat.mod_eq k, if_pos ⟨hs, by omega⟩]
        rw [e1, e2]
        have := ih (k - size) hl' (by simp only [List.length_cons, Nat.add_mul] at hk; omega)
        simp only [cellsOf] at this
        simp only [Array.length_toList, hvs, this, List.getElem?_cons_succ]
  by_cases c : k < vs.length * size
  · rw [if_pos ⟨by omega, by simpa using c⟩]
    simp only [List.getElem?_toArray]
    rw [hat vs k hv c]
    simp
  · rw [if_neg (by simp; omega)]
    rw [Array.getElem?_eq_none (by omega)]
    simp only [List.getElem?_toArray]
    rw [List.getElem?_eq_none]
    rw [hlen vs hv]
    omega

theorem cellsOf_len {size : Nat} : ∀ {l : List Value}, (∀ v ∈ l, v.cells.size = size) → (cellsOf l).length = l.length * size
  | [], _ => by simp [cellsOf]
  | v :: l, hl => by
    have := cellsOf_len fun u hu => hl u (List.mem_cons_of_mem _ hu)
    simp only [cellsOf, List.flatMap_cons, List.length_append, Array.length_toList, List.length_cons] at this ⊢
    rw [this, hl v List.mem_cons_self, Nat.add_mul]
    omega
/-- a slice literal -/
theorem OpAt.lit {G : Gl} {o : Oper} {st : St} {K : St → Prop} {t e : TypeId} {len : Nat} {parts : Array (Nat × Operand)} {ie : TypeInfo} {z : Value} (vs : List Value) (size : Nat) (ho : o.op = .buildSlice t len parts) (hu : G.P.underlying t = some (.slice e)) (hie : G.P.info? e = some ie) (hz : ie.zero = some z)
    (hsz : ie.size = size) (hpos : 0 < size) (hd : dens 0 parts.toList = true) (hr : allR st o.op.operands.toList = true) (hvs : vs = parts.toList.map fun p => evR st p.2) (hcs : ∀ v ∈ vs, v.cells.size = size) (hl : len = vs.length) (hsm : len * size ≤ 16777216)
    (k : ∀ g, putK G { st with h := rowH (.slice (some ⟨g, 0, none⟩) len len) len e size (cellsOf vs) :: st.h } o.dst (.v (.slice (some ⟨g, 0, none⟩) len len)) none K) : OpAt G o st K := by
  refine OpAt.sem (pre := []) (post := fun v hs => ∃ g, v = .slice (some ⟨g, 0, none⟩) len len ∧ hs = [rowH (.slice (some ⟨g, 0, none⟩) len len) len e size (cellsOf vs)]) st.h (fun h s => s) (by rw [ho]; rfl) hr ?_ ?_
  · intro R' _ w s
    refine ⟨_, _, w.alloc (.cells (cellsOf vs).toArray e), ?_, ⟨w.heap.size, rfl, rfl⟩, ?_, .of_below ((Below.refl _ _).alloc (Nat.le_refl _) _)⟩
    · have hfill : Instr.fill (fun i => some (i * ie.size, ie.size)) ((Array.range (len * ie.size)).map (z.cells[· % z.cells.size]!)) (parts.map fun (i, x) => (i, evR st x)).toList = some (cellsOf vs).toArray := by
        rw [Array.toList_map, dens_eq hd, ← hvs, hsz]
        exact fill_all hpos vs _ hcs (by simp [hl])
      simp only [execOp, ho, Sem.run_bind]
      by_cases h0 : len = 0
      · have hv0 : vs = [] := List.eq_nil_of_length_eq_zero (by omega)
        have hp0 : parts.toList = [] := by
          rw [hv0] at hvs
          exact List.map_eq_nil_iff.1 hvs.symm
        have hp1 : (parts.map fun (i, x) => (i, evR st x)).toList = [] := by rw [Array.toList_map, hp0]; rfl
        subst h0 hv0
        simp [Instr.buildSlice, run_underlying hu, sizeOf, typeInfo, hie, newRow, newObj, hp0, Instr.fill, cellsOf]
        rw [show Array.map (fun _ => (default : Value)) (Array.range 0) = #[] from by apply Array.ext'; simp]
        rfl
      · rw [run_buildSlice w t e len _ (cellsOf vs).toArray ie z hu hie hz (by rw [hsz]; omega) (by rw [hsz]; exact Nat.mul_ne_zero h0 (by omega)) hfill]
        simp
    · refine sat_row s ((Below.refl _ _).alloc (Nat.le_refl _) _) ⟨?_, .inr ⟨_, len, (cellsOf vs).toArray, rfl, Nat.le_refl _, heap_alloc_new w _, Nat.le_refl _, by simp only [maxLen]; have : len ≤ len * size := Nat.le_mul_of_pos_right _ hpos; omega, ?_, ?_⟩⟩
      all_goals
        have hlen : (cellsOf vs).length = len * size := by rw [hl]; exact cellsOf_len hcs
      · exact hlen
      · simpa using hlen
      · simp only [List.toList_toArray]
        rw [List.take_of_length_le (by omega)]
  · rintro v hs ⟨g, rfl, rfl⟩
    exact k g

theorem rowH_ne {v : Value} {n size : Nat} {e : TypeId} {xs : List Value} {h : Hl} (r : rowH v n e size xs h) {g : Nat} (hg : v.ownBlock = some g) : h g ≠ none := by
  rcases r.2 with ⟨rfl, _, _⟩ | ⟨g', cap, cur, rfl, h2, _⟩
  · cases hg
  · have : g' = g := by simpa [Value.ownBlock] using hg
    subst this
    rw [h2]; simp

/-- append to a slice of the call's own -/
theorem OpAt.append {G : Gl} {o : Oper} {st : St} {K : St → Prop} {t e : TypeId} {s x : Operand} {i : TypeInfo} {z : Value} (v : Value) (n size bytes : Nat) (xs news : List Value) (A : Option Addr) (m c : Nat) (rest : List HP)
    (ho : o.op = .call { callee := .builtin .append, args := #[s, x], argTypes := #[t, t] }) (hp : ∀ h, sepL st.h G.R h → sepL (rowH v n e size xs :: rest) G.R h) (hs : evR st s = v) (hx : evR st x = .slice A m c) (hr : allR st o.op.operands.toList = true)
    (hu : G.P.underlying t = some (.slice e)) (hi : G.P.info? e = some i) (hz : i.zero = some z) (hsize : i.size = size) (hby : i.bytes = bytes) (hzs : z.cells.size = size) (hsz : 0 < size)
    (src : ∀ w, Sat (sepL rest G.R) w → Reads w w.heap.size size A m news) (h1 : ∀ u ∈ news, u.oneCell' = true) (h63 : n + m ≤ maxLen) (hbytes : (n + m) * bytes ≤ 140737488355328)
    (k : ∀ A' c', putK G { st with h := rowH (.slice A' (n + m) c') (n + m) e size (xs ++ news) :: rest } o.dst (.v (.slice A' (n + m) c')) none K) : OpAt G o st K := by
  refine OpAt.sem (pre := [rowH v n e size xs]) (post := fun v' hs => ∃ A' c', v' = .slice A' (n + m) c' ∧ hs = [rowH (.slice A' (n + m) c') (n + m) e size (xs ++ news)]) rest hp (by rw [ho]; rfl) hr ?_ ?_
  · rintro R' hR' w ⟨h, hsub, h1', h2, d, rfl, hrow, hrest⟩
    have hown := rowH_own hrow hsub.left
    have hrd := src w (hR' w ⟨h2, hsub.right d, hrest⟩)
    obtain ⟨v', w', hrun, hown', hB, hg, hat⟩ := run_append_appl (P := G.P) w 0 t o.type e i z size bytes hu hi hz hsize hby hzs hsz v n xs (.inl hown) w.heap.size A m c news hrd h1 (.inr hown) h63 hbytes (Nat.zero_le _)
    obtain ⟨A', c', rfl, _⟩ := own_shape' hown'
    obtain ⟨h1'', r1, s1, dom⟩ := own_rowH hown'
    have s2 : Sub h2 w' := fun j ob e' => by
      have hj := hsub.right d j ob e'
      have hlt := (Array.getElem?_eq_some_iff.1 hj).1
      rw [hg.block j hlt ?_]
      · exact hj
      · intro c0
        rcases d j with c1 | c1
        · exact rowH_ne hrow c0.symm c1
        · rw [c1] at e'; cases e'
    refine ⟨_, _, w', ?_, ⟨A', c', rfl, rfl⟩, ⟨_, s1.un s2, h1'', h2, fun j => ?_, rfl, r1, hrest⟩, ⟨hg.os, hg.tape, hg.output, hg.size⟩⟩
    · have ha : (#[s, x] : Array Operand).map (evR st) = #[v, .slice A m c] := by simp [hs, hx]
      simp only [execOp, ho, resolve, invoke, builtin, Sem.run_bind, Sem.run_pure, Result.andThen_ok, ha, hrun]
    · by_cases c0 : h1'' j = none
      · exact .inl c0
      · right
        have hj := (dom j c0).1
        rcases hat with hat | ⟨g, hat, hge⟩
        · rw [hat] at hj
          rcases d j with c1 | c1
          · exact absurd c1 (rowH_ne hrow hj)
          · exact c1
        · rw [hat] at hj
          injection hj with hj
          subst hj
          exact (hsub.right d).none hge
  · rintro v' hs' ⟨A', c', rfl, rfl⟩
    exact k A' c'

/-- what a row shows -/
theorem rowH_reads {v : Value} {A : Option Addr} {n c size : Nat} {e : TypeId} {xs : List Value} {w : World} (hv : v = .slice A n c) (s : Sat (rowH v n e size xs) w) : Reads w w.heap.size size A n xs := by
  obtain ⟨h, hs, r⟩ := s
  subst hv
  exact Reads.of_own (rowH_own r hs)
/-- where the first cell of a row is -/
theorem rowH_at {A : Option Addr} {n c size : Nat} {e : TypeId} {xs : List Value} {w : World} (s : Sat (rowH (.slice A n c) n e size xs) w) (hn : 0 < n) : ∃ g, A = some ⟨g, 0, none⟩ ∧ ∀ j u, xs[j]? = some u → w.cell? ⟨g, j, none⟩ = some u := by
  obtain ⟨h, hs, hl, r⟩ := s
  rcases r with ⟨h1, h2, _⟩ | ⟨g, cap, cur, h1, h2, h3, h4, h5, h6⟩
  · omega
  · injection h1 with h1 h1' h1''
    refine ⟨g, h1, fun j u hu => ?_⟩
    have hb : Blk w g e cur := hs g _ (by rw [h2]; simp)
    rw [hb.cell]
    rw [← h6, List.getElem?_take] at hu
    split at hu
    · simpa using hu
    · cases hu

/-- a loop that leaves the objects as they are -/
theorem LoopAt.heap {G : Gl} {body : St → (St → Prop) → Prop} {st : St} {α : Type} (Kp : List Nat) (S : α → List (Nat × SV)) (H : α → List HP) (pre : α → Prop) (μ : α → Nat) (a0 : α) (h0 : pre a0)
    (hB : Nat.ble G.B.length st.n = true) (s0 : leT st.n st.t (S a0)) (kk : leT st.n st.t (keepT st.t Kp)) (ho : leO st.n st.o st.o) (hh : ∀ h, sepL st.h G.R h → ∃ h', (∀ i o, h' i = some o → h i = some o) ∧ sepL (H a0) G.R h')
    (round : ∀ a, pre a → forceL (S a ++ keepT st.t Kp) fun t => body ⟨t, st.o, st.n, H a, True⟩ fun st' => stp st' fun st' => Next G pre μ (fun a => hd (S a) Kp st.o (H a) st) (μ a) st') : LoopAt G body st :=
  LoopAt.of Kp S (fun _ => st.o) H pre μ a0 h0 (Le.of (Nat.le_refl _) (Nat.le_of_ble_eq_true hB) (leT_append s0 kk) ho hh) round
theorem Next.heap {G : Gl} {st st' : St} {α : Type} {Kp : List Nat} {S : α → List (Nat × SV)} {H : α → List HP} {pre : α → Prop} {μ : α → Nat} {m : Nat} (a : α) (h : pre a) (hlt : μ a < m)
    (s0 : leT st.n st'.t (S a)) (kk : leT st.n st'.t (keepT st.t Kp)) (ho : leO st.n st'.o st.o) (hn : Nat.ble st.n st'.n = true) (hB : Nat.ble G.B.length st.n = true) (hh : ∀ h, sepL st'.h G.R h → ∃ h', (∀ i o, h' i = some o → h i = some o) ∧ sepL (H a) G.R h') :
    Next G pre μ (fun a => hd (S a) Kp st.o (H a) st) m st' :=
  ⟨a, h, hlt, Le.of (Nat.le_of_ble_eq_true hn) (Nat.le_of_ble_eq_true hB) (leT_append s0 kk) ho hh⟩
theorem sub_tail {A : HP} {l : List HP} {R : HP} {h : Hl} (s : sepL (A :: l) R h) : ∃ h', (∀ i o, h' i = some o → h i = some o) ∧ sepL l R h' := by
  obtain ⟨h1, h2, d, rfl, a, s⟩ := s
  refine ⟨h2, fun i o e => ?_, s⟩
  unfold un
  rcases d i with c | c
  · rw [c, e]; rfl
  · rw [c] at e; cases e
theorem sub_same {l : List HP} {R : HP} {h : Hl} (s : sepL l R h) : ∃ h', (∀ i o, h' i = some o → h i = some o) ∧ sepL l R h' := ⟨h, fun _ _ e => e, s⟩
end Sy
end Go.Proofs.YteplckkoiffnnaaGreatDoor
