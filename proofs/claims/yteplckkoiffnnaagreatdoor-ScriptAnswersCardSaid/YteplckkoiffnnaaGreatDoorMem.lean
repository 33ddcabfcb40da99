/-
  Words on memory that every walk of this family uses: a slice that reads as a list of cells (nil and empty ones too); a slice that may be appended to; appending to it; bytes as cells; a slice of bytes made a string.
-/
import Derived.WalkKit
import Derived.WalkSpells
import Derived.ArgAppend
import Derived.Maps.AppendAt
import Derived.Deep.AppendLies
import Derived.Deep.Draws
import Derived.Laws.IdiomStrings
import Derived.Lib.Hide
namespace Go.Proofs.YteplckkoiffnnaaGreatDoor
open Go.RowKit

theorem add_block (a : Addr) (n : Nat) : (a.add n).block = a.block := by unfold Addr.add; split <;> rfl
theorem add_twice (a : Addr) (i j : Nat) : (a.add i).add j = a.add (i + j) := by
  unfold Addr.add
  by_cases hi : i = 0 <;> by_cases hj : j = 0 <;> simp [hi, hj, Nat.add_assoc]
theorem add_plain (b o k : Nat) : (⟨b, o, none⟩ : Addr).add k = ⟨b, o + k, none⟩ := by
  unfold Addr.add; split <;> simp_all

/-- the slice value '.slice A n c' shows the cells xs ('size' cells an element), and lies below block B -/
def Reads (w : World) (B size : Nat) (A : Option Addr) (n : Nat) (xs : List Value) : Prop :=
  xs.length = n * size ∧ (0 < n → ∃ ad, A = some ad ∧ ad.block < B ∧ ∀ j u, xs[j]? = some u → w.cell? (ad.add j) = some u)

section
variable {w w' : World} {B B' size n : Nat} {A : Option Addr} {xs : List Value}
theorem Reads.empty : Reads w B size A 0 [] := ⟨by simp, fun h => absurd h (by omega)⟩
theorem Reads.keep (h : Reads w B size A n xs) (hk : ∀ p : Addr, p.block < B → w'.cell? p = w.cell? p) : Reads w' B size A n xs := by
  refine ⟨h.1, fun hn => ?_⟩
  obtain ⟨ad, e, hb, hc⟩ := h.2 hn
  exact ⟨ad, e, hb, fun j u hu => (hk _ (by rw [add_block]; exact hb)).trans (hc j u hu)⟩
theorem Reads.wide (h : Reads w B size A n xs) (hB : B ≤ B') : Reads w B' size A n xs := by
  refine ⟨h.1, fun hn => ?_⟩
  obtain ⟨ad, e, hb, hc⟩ := h.2 hn
  exact ⟨ad, e, Nat.lt_of_lt_of_le hb hB, hc⟩
theorem Reads.below (h : Reads w B size A n xs) (hb : Below B w w') : Reads w' B size A n xs := h.keep fun _ hp => hb.cell hp
theorem Reads.later (h : Reads w B size A n xs) (hb : Below B' w w') (hB : B ≤ B') : Reads w' B size A n xs := h.keep fun _ hp => hb.cell (by omega)
theorem Reads.drewN (h : Reads w B size A n xs) (k : Nat) : Reads (w.drewN k) B size A n xs := h
theorem Reads.alloc (h : Reads w B size A n xs) (hB : B ≤ w.heap.size) (o : Obj) : Reads (w.alloc o) B size A n xs := h.keep fun p hp => World.cell?_alloc_lt w o p (by omega)
theorem Reads.setCell (h : Reads w B size A n xs) {p : Addr} (hB : B ≤ p.block) (u : Value) : Reads (w.setCell p u) B size A n xs :=
  h.keep fun q hq => World.cell?_setCell_other w p q u (fun e => by subst e; omega)
theorem Reads.grown (h : Reads w B size A n xs) {row : Option Nat} (hg : w.grownBy w' row) (hB : B ≤ w.heap.size) (hr : ∀ g, row = some g → B ≤ g) : Reads w' B size A n xs :=
  h.keep fun p hp => World.cell?_of_block (hg.block p.block (by omega) (fun e => by have := hr _ e.symm; omega))
/-- 's[k:]' -/
theorem Reads.cut (h : Reads w B size A n xs) {k cap : Nat} (hk : k ≤ n) (hc : n ≤ cap) :
    Reads w B size (if cap = k then A else A.map (·.add (k * size))) (n - k) (xs.drop (k * size)) := by
  refine ⟨by rw [List.length_drop, h.1, Nat.sub_mul], fun hn => ?_⟩
  obtain ⟨ad, rfl, hb, hcell⟩ := h.2 (by omega)
  rw [if_neg (by omega)]
  refine ⟨ad.add (k * size), rfl, by rw [add_block]; exact hb, fun j u hu => ?_⟩
  rw [add_twice]
  exact hcell _ u (by rw [← hu, List.getElem?_drop])
/-- 's[:k]' -/
theorem Reads.take (h : Reads w B size A n xs) {k : Nat} (hk : k ≤ n) : Reads w B size A k (xs.take (k * size)) := by
  refine ⟨by rw [List.length_take, h.1]; exact Nat.min_eq_left (Nat.mul_le_mul_right _ hk), fun hn => ?_⟩
  obtain ⟨ad, rfl, hb, hcell⟩ := h.2 (by omega)
  refine ⟨ad, rfl, hb, fun j u hu => hcell j u ?_⟩
  rw [List.getElem?_take] at hu
  split at hu
  · exact hu
  · cases hu
theorem Reads.of_own {base : Nat} {e : TypeId} {c : Nat} (h : w.ownsRow base e size (.slice A n c) n xs) : Reads w w.heap.size size A n xs := by
  refine ⟨h.1, fun hn => ?_⟩
  obtain ⟨g, cap, hv, _, hlt⟩ := h.form hn
  have hA : A = some ⟨g, 0, none⟩ := by injection hv
  subst hA
  exact ⟨_, rfl, hlt, h.cells (g := g) rfl⟩
end

theorem grownBy_any {w w' : World} (h : w.grownBy w' none) (row : Option Nat) : w.grownBy w' row :=
  ⟨h.os, h.tape, h.output, h.size, fun i hi _ => h.block i hi (by simp)⟩
theorem ownsRow_low {w : World} {base base' : Nat} {e : TypeId} {size n : Nat} {v : Value} {xs : List Value} (h : w.ownsRow base e size v n xs) (hb : base' ≤ base) : w.ownsRow base' e size v n xs := by
  refine ⟨h.1, ?_⟩
  rcases h.2 with h2 | ⟨g, cap, cur, hv, hg, h3⟩
  · exact .inl h2
  · exact .inr ⟨g, cap, cur, hv, Nat.le_trans hb hg, h3⟩
theorem ownsRow_below {w w' : World} {base B : Nat} {e : TypeId} {size n : Nat} {v : Value} {xs : List Value} (h : w.ownsRow base e size v n xs) (hb : Below B w w') (hB : w.heap.size ≤ B) : w'.ownsRow base e size v n xs := by
  refine ⟨h.1, ?_⟩
  rcases h.2 with h2 | ⟨g, cap, cur, hv, hg, hh, h3⟩
  · exact .inl h2
  · have hlt : g < w.heap.size := by
      rcases Nat.lt_or_ge g w.heap.size with hlt | hge
      · exact hlt
      · rw [Array.getElem?_eq_none hge] at hh; cases hh
    exact .inr ⟨g, cap, cur, hv, hg, (hb.block g (by omega)).trans hh, h3⟩
theorem bel_drewN {B : Nat} {a w : World} (h : Below B a w) (n : Nat) : Below B a (w.drewN n) := ⟨h.os, h.tape, h.output, h.size, h.block⟩
theorem below_of_grown {w w' : World} (h : w.grownBy w' none) : Below w.heap.size w w' := (Below.refl _ _).grown h (Nat.le_refl _) (by simp)

/-- a slice to which one may append without touching what another one holds: a row of the call's own, or one without spare room -/
def Appl (w : World) (base : Nat) (e : TypeId) (size : Nat) (v : Value) (n : Nat) (xs : List Value) : Prop :=
  w.ownsRow base e size v n xs ∨ ∃ A, v = .slice A n n ∧ (A = none → n = 0) ∧ Reads w w.heap.size size A n xs
section
variable {w w' : World} {base n size : Nat} {e : TypeId} {v : Value} {xs : List Value}
theorem Appl.len (h : Appl w base e size v n xs) : xs.length = n * size := by
  rcases h with h | ⟨_, _, _, h⟩
  · exact h.1
  · exact h.1
theorem Appl.shape (h : Appl w base e size v n xs) : ∃ A c, v = .slice A n c ∧ n ≤ c ∧ Reads w w.heap.size size A n xs := by
  rcases h with h | ⟨A, hv, _, hr⟩
  · rcases h.2 with ⟨rfl, rfl⟩ | ⟨g, cap, cur, rfl, _, _, hn, _⟩
    · exact ⟨none, 0, rfl, Nat.le_refl _, ⟨h.1, fun h => absurd h (by omega)⟩⟩
    · exact ⟨_, cap, rfl, hn, Reads.of_own h⟩
  · exact ⟨A, n, hv, Nat.le_refl _, hr⟩
theorem Appl.alloc (h : Appl w base e size v n xs) (o : Obj) : Appl (w.alloc o) base e size v n xs := by
  rcases h with h | ⟨A, hv, hn, hr⟩
  · exact .inl (h.alloc o)
  · exact .inr ⟨A, hv, hn, (hr.alloc (Nat.le_refl _) o).wide (by simp)⟩
theorem Appl.nil : Appl w base e size (.slice none 0 0) 0 [] := .inl (World.ownsRow_nil _ _ _ _)
end

section
variable {P : Program} (w : World)
theorem run_append_appl_ad (base : Nat) (t ty e : TypeId) (i : TypeInfo) (z : Value) (size bytes : Nat) (ht : P.underlying t = some (.slice e)) (hi : P.info? e = some i) (hz : i.zero = some z)
    (hsize : i.size = size) (hby : i.bytes = bytes) (hzs : z.cells.size = size) (hsz : 0 < size)
    (v : Value) (n : Nat) (xs : List Value) (ha : Appl w base e size v n xs)
    (ad : Addr) (m c : Nat) (news : List Value) (hn : news.length = m * size) (hcells : ∀ j u, news[j]? = some u → w.cell? (ad.add j) = some u) (h1 : ∀ u ∈ news, u.oneCell' = true)
    (hm : 0 < m) (h63 : n + m ≤ maxLen) (hbytes : (n + m) * bytes ≤ 140737488355328) (hbase : base ≤ w.heap.size) :
    ∃ v' w', (Builtin.append_ #[t, t] ty #[v, .slice (some ad) m c]).run P w = .ok v' w' ∧ w'.ownsRow base e size v' (n + m) (xs ++ news) ∧ Below base w w' ∧ w.grownBy w' v.ownBlock ∧
      (v'.ownBlock = v.ownBlock ∨ ∃ g, v'.ownBlock = some g ∧ w.heap.size ≤ g) := by
  rcases ha with hown | ⟨A, rfl, hnil, hr⟩
  · obtain ⟨v', w', hrun, h2, h3, _, h5⟩ := run_append_own_at (P := P) w base t ty e i z size bytes ht hi hz hsize hby hzs hsz v n xs hown ad m c news hn hcells h1 h63 hbytes hbase
    refine ⟨v', w', hrun, h2, (Below.refl _ _).grown h3 hbase (fun k hk => (hown.lt k hk).1), h3, ?_⟩
    rcases h5 with h5 | h5
    · exact .inl h5
    · exact .inr ⟨_, h5, Nat.le_refl _⟩
  · have key : ∃ v' w', (Builtin.append_ #[t, t] ty #[.slice A n n, .slice (some ad) m c]).run P w = .ok v' w' ∧ w'.ownsRow w.heap.size e size v' (n + m) (xs ++ news) ∧ w.grownBy w' none := by
      rcases A with _ | b
      · have hn0 := hnil rfl
        subst hn0
        have hx : xs = [] := List.eq_nil_of_length_eq_zero (by simpa using hr.1)
        subst hx
        obtain ⟨v', w', hrun, h2, h3, _⟩ := run_append_own (P := P) w w.heap.size t ty e i z size bytes ht hi hz hsize hby hzs hsz (.slice none 0 0) 0 [] (World.ownsRow_nil _ _ _ _) ad m c news hn hcells h1 h63 hbytes (Nat.le_refl _)
        exact ⟨v', w', hrun, h2, h3⟩
      · refine run_append_arg_grows (P := P) w t ty e i z size bytes ht hi hz hsize hby hzs hsz b n n xs hr.1 (fun j u hu => ?_) ad m c news hn hcells (by omega) h63 hbytes
        have hpos : 0 < n := by
          rcases Nat.eq_zero_or_pos n with h0 | h0
          · subst h0
            have hx : xs = [] := List.eq_nil_of_length_eq_zero (by simpa using hr.1)
            subst hx
            simp at hu
          · exact h0
        obtain ⟨ad', e', _, hc⟩ := hr.2 hpos
        injection e' with e'
        subst e'
        exact hc j u hu
    obtain ⟨v', w', hrun, h2, h3⟩ := key
    refine ⟨v', w', hrun, ownsRow_low h2 hbase, (below_of_grown h3).mono hbase, grownBy_any h3 _, ?_⟩
    rcases h2.2 with ⟨_, h0⟩ | ⟨g, cap, cur, rfl, hg, _⟩
    · omega
    · exact .inr ⟨g, rfl, hg⟩

theorem run_append_appl (base : Nat) (t ty e : TypeId) (i : TypeInfo) (z : Value) (size bytes : Nat) (ht : P.underlying t = some (.slice e)) (hi : P.info? e = some i) (hz : i.zero = some z)
    (hsize : i.size = size) (hby : i.bytes = bytes) (hzs : z.cells.size = size) (hsz : 0 < size)
    (v : Value) (n : Nat) (xs : List Value) (ha : Appl w base e size v n xs)
    (B : Nat) (A : Option Addr) (m c : Nat) (news : List Value) (hr : Reads w B size A m news) (h1 : ∀ u ∈ news, u.oneCell' = true)
    (hm : 0 < m ∨ w.ownsRow base e size v n xs) (h63 : n + m ≤ maxLen) (hbytes : (n + m) * bytes ≤ 140737488355328) (hbase : base ≤ w.heap.size) :
    ∃ v' w', (Builtin.append_ #[t, t] ty #[v, .slice A m c]).run P w = .ok v' w' ∧ w'.ownsRow base e size v' (n + m) (xs ++ news) ∧ Below base w w' ∧ w.grownBy w' v.ownBlock ∧
      (v'.ownBlock = v.ownBlock ∨ ∃ g, v'.ownBlock = some g ∧ w.heap.size ≤ g) := by
  rcases Nat.eq_zero_or_pos m with h0 | h0
  · subst h0
    have hn : news = [] := List.eq_nil_of_length_eq_zero (by simpa using hr.1)
    subst hn
    have hown : w.ownsRow base e size v n xs := by
      rcases hm with hm | hm
      · omega
      · exact hm
    rcases A with _ | ad
    · refine ⟨v, w, ?_, by simpa using hown, Below.refl _ _, World.grownBy.refl w _, .inl rfl⟩
      rcases hown.2 with ⟨rfl, rfl⟩ | ⟨g, cap, cur, rfl, _, _, hnc, _⟩
      · simp [Builtin.append_, run_underlying ht, sizeOf, typeInfo, hi, Builtin.lenOf, Builtin.firstCells]
      · simp [Builtin.append_, run_underlying ht, sizeOf, typeInfo, hi, Builtin.lenOf, Builtin.firstCells, hnc, storeCells]
    · obtain ⟨v', w', hrun, h2, h3, _, h5⟩ := run_append_own_at (P := P) w base t ty e i z size bytes ht hi hz hsize hby hzs hsz v n xs hown ad 0 c [] hr.1 (by simp) h1 h63 hbytes hbase
      refine ⟨v', w', hrun, h2, (Below.refl _ _).grown h3 hbase (fun k hk => (hown.lt k hk).1), h3, ?_⟩
      rcases h5 with h5 | h5
      · exact .inl h5
      · exact .inr ⟨_, h5, Nat.le_refl _⟩
  · obtain ⟨ad, rfl, _, hc⟩ := hr.2 h0
    exact run_append_appl_ad w base t ty e i z size bytes ht hi hz hsize hby hzs hsz v n xs ha ad m c news hr.1 hc h1 h0 h63 hbytes hbase

theorem wp_append_appl {o : Oper} {a : Act} {K : Act → World → Prop} {Q : Exit → Act → World → Prop} (s x : Operand) (t : TypeId)
    (ho : o.op = .call { callee := .builtin .append, args := #[s, x], argTypes := #[t, t] })
    (base : Nat) (e : TypeId) (i : TypeInfo) (z : Value) (size bytes : Nat) (ht : P.underlying t = some (.slice e)) (hi : P.info? e = some i) (hz : i.zero = some z)
    (hsize : i.size = size) (hby : i.bytes = bytes) (hzs : z.cells.size = size) (hsz : 0 < size)
    (v : Value) (n : Nat) (xs : List Value) (hs : a.eval s = v) (ha : Appl w base e size v n xs)
    (B : Nat) (A : Option Addr) (m c : Nat) (news : List Value) (hx : a.eval x = .slice A m c) (hr : Reads w B size A m news) (h1 : ∀ u ∈ news, u.oneCell' = true)
    (hm : 0 < m ∨ w.ownsRow base e size v n xs) (h63 : n + m ≤ maxLen) (hbytes : (n + m) * bytes ≤ 140737488355328) (hbase : base ≤ w.heap.size)
    (h : ∀ v' w', w'.ownsRow base e size v' (n + m) (xs ++ news) → Below base w w' → w.grownBy w' v.ownBlock → (v'.ownBlock = v.ownBlock ∨ ∃ g, v'.ownBlock = some g ∧ w.heap.size ≤ g) → K (a.put o.dst v') w') : o.wp P a w K Q := by
  obtain ⟨v', w', hrun, h2, hB, h3, h4⟩ := run_append_appl (P := P) w base t o.type e i z size bytes ht hi hz hsize hby hzs hsz v n xs ha B A m c news hr h1 hm h63 hbytes hbase
  unfold Oper.wp execOp
  simp only [ho, resolve, invoke, builtin, Sem.run_bind, Sem.run_pure, Result.andThen_ok, List.map_toArray, List.map_cons, List.map_nil, hs, hx, hrun]
  exact h v' w' h2 hB h3 h4

theorem wpList_append_appl {ops : Array Oper} {rest : List Oper} {o : Oper} {a : Act} {Q : Exit → Act → World → Prop} (hgd : o.guard = none) (s x : Operand) (t : TypeId)
    (ho : o.op = .call { callee := .builtin .append, args := #[s, x], argTypes := #[t, t] })
    (base : Nat) (e : TypeId) (i : TypeInfo) (z : Value) (size bytes : Nat) (ht : P.underlying t = some (.slice e)) (hi : P.info? e = some i) (hz : i.zero = some z)
    (hsize : i.size = size) (hby : i.bytes = bytes) (hzs : z.cells.size = size) (hsz : 0 < size)
    (v : Value) (n : Nat) (xs : List Value) (hs : a.eval s = v) (ha : Appl w base e size v n xs)
    (B : Nat) (A : Option Addr) (m c : Nat) (news : List Value) (hx : a.eval x = .slice A m c) (hr : Reads w B size A m news) (h1 : ∀ u ∈ news, u.oneCell' = true)
    (hm : 0 < m ∨ w.ownsRow base e size v n xs) (h63 : n + m ≤ maxLen) (hbytes : (n + m) * bytes ≤ 140737488355328) (hbase : base ≤ w.heap.size)
    (h : ∀ v' w', w'.ownsRow base e size v' (n + m) (xs ++ news) → Below base w w' → w.grownBy w' v.ownBlock → (v'.ownBlock = v.ownBlock ∨ ∃ g, v'.ownBlock = some g ∧ w.heap.size ≤ g) → wpList P ops Q rest (a.put o.dst v') w') : wpList P ops Q (o :: rest) a w :=
  wpList_plain hgd fun _ hK => wp_append_appl w s x t ho base e i z size bytes ht hi hz hsize hby hzs hsz v n xs hs ha B A m c news hx hr h1 hm h63 hbytes hbase fun v' w' h2 hB h3 h4 => hK _ _ (h v' w' h2 hB h3 h4)
end

theorem reads_new1 (w : World) (u : Value) (e : TypeId) : Reads (w.alloc (.cells #[u] e)) (w.heap.size + 1) 1 (some ⟨w.heap.size, 0, none⟩) 1 [u] := by
  refine ⟨rfl, fun _ => ⟨_, rfl, Nat.lt_succ_self _, fun j x hj => ?_⟩⟩
  match j, hj with
  | 0, hj => simp at hj; subst hj; simp [Addr.add]

/-- bytes as cells -/
def byts (l : List UInt8) : List Value := l.map fun b => Value.int .u8 (b.toNat : Int)
@[simp] theorem byts_length (l : List UInt8) : (byts l).length = l.length := by simp [byts]
theorem byts_append (a b : List UInt8) : byts (a ++ b) = byts a ++ byts b := by simp [byts]
theorem byts_take (l : List UInt8) (k : Nat) : (byts l).take k = byts (l.take k) := by simp [byts]
theorem byts_drop (l : List UInt8) (k : Nat) : (byts l).drop k = byts (l.drop k) := by simp [byts]
theorem byts_one (l : List UInt8) : ∀ u ∈ byts l, u.oneCell' = true := by
  intro u hu
  simp only [byts, List.mem_map] at hu
  obtain ⟨b, _, rfl⟩ := hu
  rfl
theorem byts_at (l : List UInt8) (k : Nat) (h : k < l.length) : (byts l)[k]? = some (.int .u8 (l[k].toNat : Int)) := by
  simp [byts, List.getElem?_eq_getElem h]

/-- the slice '.slice A n _' shows the bytes l -/
def Bts (w : World) (B : Nat) (A : Option Addr) (n : Nat) (l : List UInt8) : Prop := Reads w B 1 A n (byts l)
theorem Bts.len {w : World} {B : Nat} {A : Option Addr} {n : Nat} {l : List UInt8} (h : Bts w B A n l) : l.length = n := by have := h.1; simpa using this
theorem Bts.at {w : World} {B : Nat} {A : Option Addr} {n : Nat} {l : List UInt8} (h : Bts w B A n l) {k : Nat} (hk : k < n) :
    ∃ ad, A = some ad ∧ ad.block < B ∧ w.cell? (ad.add k) = some (.int .u8 ((l[k]'(by have := h.len; omega)).toNat : Int)) := by
  obtain ⟨ad, e, hb, hc⟩ := h.2 (by omega)
  exact ⟨ad, e, hb, hc k _ (byts_at l k (by have := h.len; omega))⟩

theorem Bts.plain {w : World} {B : Nat} {A : Option Addr} {n : Nat} {l : List UInt8} (h : Bts w B A n l) (hn : 0 < n) :
    ∃ b off, A = some ⟨b, off, none⟩ ∧ b < B ∧ ∀ (k : Nat) (hk : k < l.length), w.cell? ⟨b, off + k, none⟩ = some (.int .u8 (l[k].toNat : Int)) := by
  obtain ⟨ad, e, hb, hc⟩ := h.2 hn
  obtain ⟨b, off, spot⟩ := ad
  have hl := h.len
  have h0 := hc 0 _ (byts_at l 0 (by omega))
  have hs : spot = none := by simpa [Addr.add] using World.cell?_spot h0
  subst hs
  refine ⟨b, off, e, hb, fun k hk => ?_⟩
  have := hc k _ (byts_at l k hk)
  rwa [add_plain] at this

theorem conv_bytes {P : Program} {w : World} {B : Nat} {A : Option Addr} {n : Nat} {l : List UInt8} (src dst e : TypeId) (hs : P.underlying src = some (.slice e)) (he : P.underlying e = some (.int .u8)) (hd : P.underlying dst = some .string)
    (h : Bts w B A n l) (c : Nat) : (convert src dst (.slice A n c)).run P w = .ok (.string ⟨l.toArray⟩) w := by
  have hl := h.len
  subst hl
  rcases A with _ | ad
  · have h0 : l = [] := by
      rcases l with _ | ⟨b, l⟩
      · rfl
      · obtain ⟨ad, h1, _⟩ := h.2 (by simp)
        cases h1
    subst h0
    rw [run_convert_bytes_string w src dst e _ _ c hs he hd]
    simp [Conv.bytesToString]
    rfl
  · refine run_convert_bytes_back w src dst e ad c l hs he hd fun j hj => ?_
    obtain ⟨ad', h1, _, h2⟩ := h.at hj
    injection h1 with h1
    subst h1
    exact h2

/-- a slice of bytes that came in -/
theorem bts_of_ints {w : World} {x : Addr} {len cap : Nat} {zs : List Int} (hl : len ≤ cap) (hz : zs.length = cap) (hcell : ∀ i, i < zs.length → w.cell? (x.add i) = some (.int .u8 (zs.getD i 0)))
    (hwz : ∀ n ∈ zs, (Lit.int .u8 n).wf = true) : ∃ l, Bts w w.heap.size (some x) len l := by
  refine ⟨(zs.take len).map fun z => UInt8.ofNat z.toNat, ?_, fun hn => ⟨x, rfl, ?_, fun j u hu => ?_⟩⟩
  · simp; omega
  · have h := hcell 0 (by omega)
    rcases Nat.lt_or_ge x.block w.heap.size with hlt | hge
    · exact hlt
    · have : (x.add 0).block = x.block := add_block x 0
      simp [World.cell?, this, Array.getElem?_eq_none hge] at h
  · have hj : j < len := by
      have := (List.getElem?_eq_some_iff.1 hu).1
      simp at this; omega
    rw [hcell j (by omega)]
    rw [byts_at _ j (by simp; omega)] at hu
    rw [← hu]
    simp only [List.getElem_map, List.getElem_take]
    have hm := hwz zs[j] (List.getElem_mem _)
    have hb : 0 ≤ zs[j] ∧ zs[j] ≤ 255 := by
      simp [Lit.wf, IntKind.min, IntKind.max, IntKind.bits, IntKind.signed] at hm
      omega
    rw [UInt8.toNat_ofNat']
    congr 2
    simp [List.getD, List.getElem?_eq_getElem (show j < zs.length by omega)]
    omega

theorem cat_list (a b : List UInt8) : (({ data := a.toArray } : ByteArray) ++ { data := b.toArray }).toList = a ++ b := by
  rw [ByteArray.toList_eq]; simp

theorem bts_mark (w : World) (e : TypeId) (l : List UInt8) (C : Array Value) (hC : C = (byts l).toArray) (mk : Nat × Nat) : Bts (w.alloc (.cells C e mk)) (w.heap.size + 1) (some ⟨w.heap.size, 0, none⟩) l.length l := by
  subst hC
  refine ⟨by simp, fun _ => ⟨_, rfl, Nat.lt_succ_self _, fun j u hu => ?_⟩⟩
  rw [add_plain, Nat.zero_add]
  rw [World.cell?_alloc_mark]
  simpa using hu

theorem reads_newN (w : World) (xs : List Value) (e : TypeId) (C : Array Value) (hC : C = xs.toArray) : Reads (w.alloc (.cells C e)) (w.heap.size + 1) 1 (some ⟨w.heap.size, 0, none⟩) xs.length xs := by
  subst hC
  refine ⟨by simp, fun _ => ⟨_, rfl, Nat.lt_succ_self _, fun j u hu => ?_⟩⟩
  rw [add_plain, Nat.zero_add, World.cell?_alloc_mark]
  simpa using hu
end Go.Proofs.YteplckkoiffnnaaGreatDoor
