/-
  Texts of the proofs, one behind the other: Mem, ShelfLen, Own, Blk, Rect, Keep, Sizes, RectAll, RectMore, ShelfMul, Hmix.
-/
import Derived.WalkKit
import Derived.WalkSpells
import Derived.ArgAppend
import Derived.Maps.AppendAt
import Derived.Deep.AppendLies
import Derived.Deep.Draws
import Derived.Laws.IdiomStrings
import Derived.Lib.Hide
import Derived.Shelf.Strconv.Itoa0
import Derived.Test.YtojlgfkjnkjcmaaGreatDoorProg
import Derived.Test.YtojlgfkjnkjcmaaGreatDoorRows
import Derived.Laws.OwnMore
import Derived.Laws.Rows
import Derived.Deep.Light
import Derived.Deep.QuietTactic
import Derived.BigQuiet
import Derived.Deep.RegionHeld3
import Derived.StillTailTactics
import Derived.IntWalk
import Derived.Laws.BitsAllLaws
import Derived.Shelf.Bits.Mul64
import Derived.KernelRfl
/-
  Words on memory that every walk of this family uses: a slice that reads as a list of cells (nil and empty ones too); a slice that may be appended to; appending to it; bytes as cells; a slice of bytes made a string.
-/
namespace Go.Proofs.YtojlgfkjnkjcmaaGreatDoor
open Go.RowKit

theorem add_block (a : Addr) (n : Nat) : (a.add n).block = a.block := by unfold Addr.add; split <;> rfl
theorem add_twice (a : Addr) (i j : Nat) : (a.add i).add j = a.add (i + j) := by
  unfold Addr.add
  by_cases hi : i = 0 <;> by_cases hj : j = 0 <;> simp [hi, hj, Nat.add_assoc]
theorem add_plain (b o k : Nat) : (⟨b, o, none⟩ : Addr).add k = ⟨b, o + k, none⟩ := by
  unfold Addr.add; split <;> simp_all

/-- the slice value '.slice A n c' shows the cells xs ('size' cells an element), and lies below block B -/
def Reads (w : World) (B size : Nat) (A : Option Addr) (n : Nat) (xs : List Value) : Prop :=
  xs.length = n * size ∧ (0 < n → ∃ ad, A = some ad ∧ ad.block < B ∧ ∀ j u, xs[j]? = some u → w.cell? (ad.add j) = some u)

section
variable {w w' : World} {B B' size n : Nat} {A : Option Addr} {xs : List Value}
theorem Reads.empty : Reads w B size A 0 [] := ⟨by simp, fun h => absurd h (by omega)⟩
theorem Reads.keep (h : Reads w B size A n xs) (hk : ∀ p : Addr, p.block < B → w'.cell? p = w.cell? p) : Reads w' B size A n xs := by
  refine ⟨h.1, fun hn => ?_⟩
  obtain ⟨ad, e, hb, hc⟩ := h.2 hn
  exact ⟨ad, e, hb, fun j u hu => (hk _ (by rw [add_block]; exact hb)).trans (hc j u hu)⟩
theorem Reads.wide (h : Reads w B size A n xs) (hB : B ≤ B') : Reads w B' size A n xs := by
  refine ⟨h.1, fun hn => ?_⟩
  obtain ⟨ad, e, hb, hc⟩ := h.2 hn
  exact ⟨ad, e, Nat.lt_of_lt_of_le hb hB, hc⟩
theorem Reads.below (h : Reads w B size A n xs) (hb : Below B w w') : Reads w' B size A n xs := h.keep fun _ hp => hb.cell hp
theorem Reads.later (h : Reads w B size A n xs) (hb : Below B' w w') (hB : B ≤ B') : Reads w' B size A n xs := h.keep fun _ hp => hb.cell (by omega)
theorem Reads.drewN (h : Reads w B size A n xs) (k : Nat) : Reads (w.drewN k) B size A n xs := h
theorem Reads.alloc (h : Reads w B size A n xs) (hB : B ≤ w.heap.size) (o : Obj) : Reads (w.alloc o) B size A n xs := h.keep fun p hp => World.cell?_alloc_lt w o p (by omega)
theorem Reads.setCell (h : Reads w B size A n xs) {p : Addr} (hB : B ≤ p.block) (u : Value) : Reads (w.setCell p u) B size A n xs :=
  h.keep fun q hq => World.cell?_setCell_other w p q u (fun e => by subst e; omega)
theorem Reads.grown (h : Reads w B size A n xs) {row : Option Nat} (hg : w.grownBy w' row) (hB : B ≤ w.heap.size) (hr : ∀ g, row = some g → B ≤ g) : Reads w' B size A n xs :=
  h.keep fun p hp => World.cell?_of_block (hg.block p.block (by omega) (fun e => by have := hr _ e.symm; omega))
/-- 's[k:]' -/
theorem Reads.cut (h : Reads w B size A n xs) {k cap : Nat} (hk : k ≤ n) (hc : n ≤ cap) :
    Reads w B size (if cap = k then A else A.map (·.add (k * size))) (n - k) (xs.drop (k * size)) := by
  refine ⟨by rw [List.length_drop, h.1, Nat.sub_mul], fun hn => ?_⟩
  obtain ⟨ad, rfl, hb, hcell⟩ := h.2 (by omega)
  rw [if_neg (by omega)]
  refine ⟨ad.add (k * size), rfl, by rw [add_block]; exact hb, fun j u hu => ?_⟩
  rw [add_twice]
  exact hcell _ u (by rw [← hu, List.getElem?_drop])
/-- 's[:k]' -/
theorem Reads.take (h : Reads w B size A n xs) {k : Nat} (hk : k ≤ n) : Reads w B size A k (xs.take (k * size)) := by
  refine ⟨by rw [List.length_take, h.1]; exact Nat.min_eq_left (Nat.mul_le_mul_right _ hk), fun hn => ?_⟩
  obtain ⟨ad, rfl, hb, hcell⟩ := h.2 (by omega)
  refine ⟨ad, rfl, hb, fun j u hu => hcell j u ?_⟩
  rw [List.getElem?_take] at hu
  split at hu
  · exact hu
  · cases hu
theorem Reads.of_own {base : Nat} {e : TypeId} {c : Nat} (h : w.ownsRow base e size (.slice A n c) n xs) : Reads w w.heap.size size A n xs := by
  refine ⟨h.1, fun hn => ?_⟩
  obtain ⟨g, cap, hv, _, hlt⟩ := h.form hn
  have hA : A = some ⟨g, 0, none⟩ := by injection hv
  subst hA
  exact ⟨_, rfl, hlt, h.cells (g := g) rfl⟩
end

theorem grownBy_any {w w' : World} (h : w.grownBy w' none) (row : Option Nat) : w.grownBy w' row :=
  ⟨h.os, h.tape, h.output, h.size, fun i hi _ => h.block i hi (by simp)⟩
theorem ownsRow_low {w : World} {base base' : Nat} {e : TypeId} {size n : Nat} {v : Value} {xs : List Value} (h : w.ownsRow base e size v n xs) (hb : base' ≤ base) : w.ownsRow base' e size v n xs := by
  refine ⟨h.1, ?_⟩
  rcases h.2 with h2 | ⟨g, cap, cur, hv, hg, h3⟩
  · exact .inl h2
  · exact .inr ⟨g, cap, cur, hv, Nat.le_trans hb hg, h3⟩
theorem ownsRow_below {w w' : World} {base B : Nat} {e : TypeId} {size n : Nat} {v : Value} {xs : List Value} (h : w.ownsRow base e size v n xs) (hb : Below B w w') (hB : w.heap.size ≤ B) : w'.ownsRow base e size v n xs := by
  refine ⟨h.1, ?_⟩
  rcases h.2 with h2 | ⟨g, cap, cur, hv, hg, hh, h3⟩
  · exact .inl h2
  · have hlt : g < w.heap.size := by
      rcases Nat.lt_or_ge g w.heap.size with hlt | hge
      · exact hlt
      · rw [Array.getElem?_eq_none hge] at hh; cases hh
    exact .inr ⟨g, cap, cur, hv, hg, (hb.block g (by omega)).trans hh, h3⟩
theorem bel_drewN {B : Nat} {a w : World} (h : Below B a w) (n : Nat) : Below B a (w.drewN n) := ⟨h.os, h.tape, h.output, h.size, h.block⟩
theorem below_of_grown {w w' : World} (h : w.grownBy w' none) : Below w.heap.size w w' := (Below.refl _ _).grown h (Nat.le_refl _) (by simp)

/-- a slice to which one may append without touching what another one holds: a row of the call's own, or one without spare room -/
def Appl (w : World) (base : Nat) (e : TypeId) (size : Nat) (v : Value) (n : Nat) (xs : List Value) : Prop :=
  w.ownsRow base e size v n xs ∨ ∃ A, v = .slice A n n ∧ (A = none → n = 0) ∧ Reads w w.heap.size size A n xs
section
variable {w w' : World} {base n size : Nat} {e : TypeId} {v : Value} {xs : List Value}
theorem Appl.len (h : Appl w base e size v n xs) : xs.length = n * size := by
  rcases h with h | ⟨_, _, _, h⟩
  · exact h.1
  · exact h.1
theorem Appl.shape (h : Appl w base e size v n xs) : ∃ A c, v = .slice A n c ∧ n ≤ c ∧ Reads w w.heap.size size A n xs := by
  rcases h with h | ⟨A, hv, _, hr⟩
  · rcases h.2 with ⟨rfl, rfl⟩ | ⟨g, cap, cur, rfl, _, _, hn, _⟩
    · exact ⟨none, 0, rfl, Nat.le_refl _, ⟨h.1, fun h => absurd h (by omega)⟩⟩
    · exact ⟨_, cap, rfl, hn, Reads.of_own h⟩
  · exact ⟨A, n, hv, Nat.le_refl _, hr⟩
theorem Appl.alloc (h : Appl w base e size v n xs) (o : Obj) : Appl (w.alloc o) base e size v n xs := by
  rcases h with h | ⟨A, hv, hn, hr⟩
  · exact .inl (h.alloc o)
  · exact .inr ⟨A, hv, hn, (hr.alloc (Nat.le_refl _) o).wide (by simp)⟩
theorem Appl.nil : Appl w base e size (.slice none 0 0) 0 [] := .inl (World.ownsRow_nil _ _ _ _)
end

section
variable {P : Program} (w : World)
theorem run_append_appl_ad (base : Nat) (t ty e : TypeId) (i : TypeInfo) (z : Value) (size bytes : Nat) (ht : P.underlying t = some (.slice e)) (hi : P.info? e = some i) (hz : i.zero = some z)
    (hsize : i.size = size) (hby : i.bytes = bytes) (hzs : z.cells.size = size) (hsz : 0 < size)
    (v : Value) (n : Nat) (xs : List Value) (ha : Appl w base e size v n xs)
    (ad : Addr) (m c : Nat) (news : List Value) (hn : news.length = m * size) (hcells : ∀ j u, news[j]? = some u → w.cell? (ad.add j) = some u) (h1 : ∀ u ∈ news, u.oneCell' = true)
    (hm : 0 < m) (h63 : n + m ≤ maxLen) (hbytes : (n + m) * bytes ≤ 140737488355328) (hbase : base ≤ w.heap.size) :
    ∃ v' w', (Builtin.append_ #[t, t] ty #[v, .slice (some ad) m c]).run P w = .ok v' w' ∧ w'.ownsRow base e size v' (n + m) (xs ++ news) ∧ Below base w w' ∧ w.grownBy w' v.ownBlock ∧
      (v'.ownBlock = v.ownBlock ∨ ∃ g, v'.ownBlock = some g ∧ w.heap.size ≤ g) := by
  rcases ha with hown | ⟨A, rfl, hnil, hr⟩
  · obtain ⟨v', w', hrun, h2, h3, _, h5⟩ := run_append_own_at (P := P) w base t ty e i z size bytes ht hi hz hsize hby hzs hsz v n xs hown ad m c news hn hcells h1 h63 hbytes hbase
    refine ⟨v', w', hrun, h2, (Below.refl _ _).grown h3 hbase (fun k hk => (hown.lt k hk).1), h3, ?_⟩
    rcases h5 with h5 | h5
    · exact .inl h5
    · exact .inr ⟨_, h5, Nat.le_refl _⟩
  · have key : ∃ v' w', (Builtin.append_ #[t, t] ty #[.slice A n n, .slice (some ad) m c]).run P w = .ok v' w' ∧ w'.ownsRow w.heap.size e size v' (n + m) (xs ++ news) ∧ w.grownBy w' none := by
      rcases A with _ | b
      · have hn0 := hnil rfl
        subst hn0
        have hx : xs = [] := List.eq_nil_of_length_eq_zero (by simpa using hr.1)
        subst hx
        obtain ⟨v', w', hrun, h2, h3, _⟩ := run_append_own (P := P) w w.heap.size t ty e i z size bytes ht hi hz hsize hby hzs hsz (.slice none 0 0) 0 [] (World.ownsRow_nil _ _ _ _) ad m c news hn hcells h1 h63 hbytes (Nat.le_refl _)
        exact ⟨v', w', hrun, h2, h3⟩
      · refine run_append_arg_grows (P := P) w t ty e i z size bytes ht hi hz hsize hby hzs hsz b n n xs hr.1 (fun j u hu => ?_) ad m c news hn hcells (by omega) h63 hbytes
        have hpos : 0 < n := by
          rcases Nat.eq_zero_or_pos n with h0 | h0
          · subst h0
            have hx : xs = [] := List.eq_nil_of_length_eq_zero (by simpa using hr.1)
            subst hx
            simp at hu
          · exact h0
        obtain ⟨ad', e', _, hc⟩ := hr.2 hpos
        injection e' with e'
        subst e'
        exact hc j u hu
    obtain ⟨v', w', hrun, h2, h3⟩ := key
    refine ⟨v', w', hrun, ownsRow_low h2 hbase, (below_of_grown h3).mono hbase, grownBy_any h3 _, ?_⟩
    rcases h2.2 with ⟨_, h0⟩ | ⟨g, cap, cur, rfl, hg, _⟩
    · omega
    · exact .inr ⟨g, rfl, hg⟩

theorem run_append_appl (base : Nat) (t ty e : TypeId) (i : TypeInfo) (z : Value) (size bytes : Nat) (ht : P.underlying t = some (.slice e)) (hi : P.info? e = some i) (hz : i.zero = some z)
    (hsize : i.size = size) (hby : i.bytes = bytes) (hzs : z.cells.size = size) (hsz : 0 < size)
    (v : Value) (n : Nat) (xs : List Value) (ha : Appl w base e size v n xs)
    (B : Nat) (A : Option Addr) (m c : Nat) (news : List Value) (hr : Reads w B size A m news) (h1 : ∀ u ∈ news, u.oneCell' = true)
    (hm : 0 < m ∨ w.ownsRow base e size v n xs) (h63 : n + m ≤ maxLen) (hbytes : (n + m) * bytes ≤ 140737488355328) (hbase : base ≤ w.heap.size) :
    ∃ v' w', (Builtin.append_ #[t, t] ty #[v, .slice A m c]).run P w = .ok v' w' ∧ w'.ownsRow base e size v' (n + m) (xs ++ news) ∧ Below base w w' ∧ w.grownBy w' v.ownBlock ∧
      (v'.ownBlock = v.ownBlock ∨ ∃ g, v'.ownBlock = some g ∧ w.heap.size ≤ g) := by
  rcases Nat.eq_zero_or_pos m with h0 | h0
  · subst h0
    have hn : news = [] := List.eq_nil_of_length_eq_zero (by simpa using hr.1)
    subst hn
    have hown : w.ownsRow base e size v n xs := by
      rcases hm with hm | hm
      · omega
      · exact hm
    rcases A with _ | ad
    · refine ⟨v, w, ?_, by simpa using hown, Below.refl _ _, World.grownBy.refl w _, .inl rfl⟩
      rcases hown.2 with ⟨rfl, rfl⟩ | ⟨g, cap, cur, rfl, _, _, hnc, _⟩
      · simp [Builtin.append_, run_underlying ht, sizeOf, typeInfo, hi, Builtin.lenOf, Builtin.firstCells]
      · simp [Builtin.append_, run_underlying ht, sizeOf, typeInfo, hi, Builtin.lenOf, Builtin.firstCells, hnc, storeCells]
    · obtain ⟨v', w', hrun, h2, h3, _, h5⟩ := run_append_own_at (P := P) w base t ty e i z size bytes ht hi hz hsize hby hzs hsz v n xs hown ad 0 c [] hr.1 (by simp) h1 h63 hbytes hbase
      refine ⟨v', w', hrun, h2, (Below.refl _ _).grown h3 hbase (fun k hk => (hown.lt k hk).1), h3, ?_⟩
      rcases h5 with h5 | h5
      · exact .inl h5
      · exact .inr ⟨_, h5, Nat.le_refl _⟩
  · obtain ⟨ad, rfl, _, hc⟩ := hr.2 h0
    exact run_append_appl_ad w base t ty e i z size bytes ht hi hz hsize hby hzs hsz v n xs ha ad m c news hr.1 hc h1 h0 h63 hbytes hbase

theorem wp_append_appl {o : Oper} {a : Act} {K : Act → World → Prop} {Q : Exit → Act → World → Prop} (s x : Operand) (t : TypeId)
    (ho : o.op = .call { callee := .builtin .append, args := #[s, x], argTypes := #[t, t] })
    (base : Nat) (e : TypeId) (i : TypeInfo) (z : Value) (size bytes : Nat) (ht : P.underlying t = some (.slice e)) (hi : P.info? e = some i) (hz : i.zero = some z)
    (hsize : i.size = size) (hby : i.bytes = bytes) (hzs : z.cells.size = size) (hsz : 0 < size)
    (v : Value) (n : Nat) (xs : List Value) (hs : a.eval s = v) (ha : Appl w base e size v n xs)
    (B : Nat) (A : Option Addr) (m c : Nat) (news : List Value) (hx : a.eval x = .slice A m c) (hr : Reads w B size A m news) (h1 : ∀ u ∈ news, u.oneCell' = true)
    (hm : 0 < m ∨ w.ownsRow base e size v n xs) (h63 : n + m ≤ maxLen) (hbytes : (n + m) * bytes ≤ 140737488355328) (hbase : base ≤ w.heap.size)
    (h : ∀ v' w', w'.ownsRow base e size v' (n + m) (xs ++ news) → Below base w w' → w.grownBy w' v.ownBlock → (v'.ownBlock = v.ownBlock ∨ ∃ g, v'.ownBlock = some g ∧ w.heap.size ≤ g) → K (a.put o.dst v') w') : o.wp P a w K Q := by
  obtain ⟨v', w', hrun, h2, hB, h3, h4⟩ := run_append_appl (P := P) w base t o.type e i z size bytes ht hi hz hsize hby hzs hsz v n xs ha B A m c news hr h1 hm h63 hbytes hbase
  unfold Oper.wp execOp
  simp only [ho, resolve, invoke, builtin, Sem.run_bind, Sem.run_pure, Result.andThen_ok, List.map_toArray, List.map_cons, List.map_nil, hs, hx, hrun]
  exact h v' w' h2 hB h3 h4

theorem wpList_append_appl {ops : Array Oper} {rest : List Oper} {o : Oper} {a : Act} {Q : Exit → Act → World → Prop} (hgd : o.guard = none) (s x : Operand) (t : TypeId)
    (ho : o.op = .call { callee := .builtin .append, args := #[s, x], argTypes := #[t, t] })
    (base : Nat) (e : TypeId) (i : TypeInfo) (z : Value) (size bytes : Nat) (ht : P.underlying t = some (.slice e)) (hi : P.info? e = some i) (hz : i.zero = some z)
    (hsize : i.size = size) (hby : i.bytes = bytes) (hzs : z.cells.size = size) (hsz : 0 < size)
    (v : Value) (n : Nat) (xs : List Value) (hs : a.eval s = v) (ha : Appl w base e size v n xs)
    (B : Nat) (A : Option Addr) (m c : Nat) (news : List Value) (hx : a.eval x = .slice A m c) (hr : Reads w B size A m news) (h1 : ∀ u ∈ news, u.oneCell' = true)
    (hm : 0 < m ∨ w.ownsRow base e size v n xs) (h63 : n + m ≤ maxLen) (hbytes : (n + m) * bytes ≤ 140737488355328) (hbase : base ≤ w.heap.size)
    (h : ∀ v' w', w'.ownsRow base e size v' (n + m) (xs ++ news) → Below base w w' → w.grownBy w' v.ownBlock → (v'.ownBlock = v.ownBlock ∨ ∃ g, v'.ownBlock = some g ∧ w.heap.size ≤ g) → wpList P ops Q rest (a.put o.dst v') w') : wpList P ops Q (o :: rest) a w :=
  wpList_plain hgd fun _ hK => wp_append_appl w s x t ho base e i z size bytes ht hi hz hsize hby hzs hsz v n xs hs ha B A m c news hx hr h1 hm h63 hbytes hbase fun v' w' h2 hB h3 h4 => hK _ _ (h v' w' h2 hB h3 h4)
end

theorem reads_new1 (w : World) (u : Value) (e : TypeId) : Reads (w.alloc (.cells #[u] e)) (w.heap.size + 1) 1 (some ⟨w.heap.size, 0, none⟩) 1 [u] := by
  refine ⟨rfl, fun _ => ⟨_, rfl, Nat.lt_succ_self _, fun j x hj => ?_⟩⟩
  match j, hj with
  | 0, hj => simp at hj; subst hj; simp [Addr.add]

/-- bytes as cells -/
def byts (l : List UInt8) : List Value := l.map fun b => Value.int .u8 (b.toNat : Int)
@[simp] theorem byts_length (l : List UInt8) : (byts l).length = l.length := by simp [byts]
theorem byts_append (a b : List UInt8) : byts (a ++ b) = byts a ++ byts b := by simp [byts]
theorem byts_take (l : List UInt8) (k : Nat) : (byts l).take k = byts (l.take k) := by simp [byts]
theorem byts_drop (l : List UInt8) (k : Nat) : (byts l).drop k = byts (l.drop k) := by simp [byts]
theorem byts_one (l : List UInt8) : ∀ u ∈ byts l, u.oneCell' = true := by
  intro u hu
  simp only [byts, List.mem_map] at hu
  obtain ⟨b, _, rfl⟩ := hu
  rfl
theorem byts_at (l : List UInt8) (k : Nat) (h : k < l.length) : (byts l)[k]? = some (.int .u8 (l[k].toNat : Int)) := by
  simp [byts, List.getElem?_eq_getElem h]

/-- the slice '.slice A n _' shows the bytes l -/
def Bts (w : World) (B : Nat) (A : Option Addr) (n : Nat) (l : List UInt8) : Prop := Reads w B 1 A n (byts l)
theorem Bts.len {w : World} {B : Nat} {A : Option Addr} {n : Nat} {l : List UInt8} (h : Bts w B A n l) : l.length = n := by have := h.1; simpa using this
theorem Bts.at {w : World} {B : Nat} {A : Option Addr} {n : Nat} {l : List UInt8} (h : Bts w B A n l) {k : Nat} (hk : k < n) :
    ∃ ad, A = some ad ∧ ad.block < B ∧ w.cell? (ad.add k) = some (.int .u8 ((l[k]'(by have := h.len; omega)).toNat : Int)) := by
  obtain ⟨ad, e, hb, hc⟩ := h.2 (by omega)
  exact ⟨ad, e, hb, hc k _ (byts_at l k (by have := h.len; omega))⟩

theorem Bts.plain {w : World} {B : Nat} {A : Option Addr} {n : Nat} {l : List UInt8} (h : Bts w B A n l) (hn : 0 < n) :
    ∃ b off, A = some ⟨b, off, none⟩ ∧ b < B ∧ ∀ (k : Nat) (hk : k < l.length), w.cell? ⟨b, off + k, none⟩ = some (.int .u8 (l[k].toNat : Int)) := by
  obtain ⟨ad, e, hb, hc⟩ := h.2 hn
  obtain ⟨b, off, spot⟩ := ad
  have hl := h.len
  have h0 := hc 0 _ (byts_at l 0 (by omega))
  have hs : spot = none := by simpa [Addr.add] using World.cell?_spot h0
  subst hs
  refine ⟨b, off, e, hb, fun k hk => ?_⟩
  have := hc k _ (byts_at l k hk)
  rwa [add_plain] at this

theorem conv_bytes {P : Program} {w : World} {B : Nat} {A : Option Addr} {n : Nat} {l : List UInt8} (src dst e : TypeId) (hs : P.underlying src = some (.slice e)) (he : P.underlying e = some (.int .u8)) (hd : P.underlying dst = some .string)
    (h : Bts w B A n l) (c : Nat) : (convert src dst (.slice A n c)).run P w = .ok (.string ⟨l.toArray⟩) w := by
  have hl := h.len
  subst hl
  rcases A with _ | ad
  · have h0 : l = [] := by
      rcases l with _ | ⟨b, l⟩
      · rfl
      · obtain ⟨ad, h1, _⟩ := h.2 (by simp)
        cases h1
    subst h0
    rw [run_convert_bytes_string w src dst e _ _ c hs he hd]
    simp [Conv.bytesToString]
    rfl
  · refine run_convert_bytes_back w src dst e ad c l hs he hd fun j hj => ?_
    obtain ⟨ad', h1, _, h2⟩ := h.at hj
    injection h1 with h1
    subst h1
    exact h2

/-- a slice of bytes that came in -/
theorem bts_of_ints {w : World} {x : Addr} {len cap : Nat} {zs : List Int} (hl : len ≤ cap) (hz : zs.length = cap) (hcell : ∀ i, i < zs.length → w.cell? (x.add i) = some (.int .u8 (zs.getD i 0)))
    (hwz : ∀ n ∈ zs, (Lit.int .u8 n).wf = true) : ∃ l, Bts w w.heap.size (some x) len l := by
  refine ⟨(zs.take len).map fun z => UInt8.ofNat z.toNat, ?_, fun hn => ⟨x, rfl, ?_, fun j u hu => ?_⟩⟩
  · simp; omega
  · have h := hcell 0 (by omega)
    rcases Nat.lt_or_ge x.block w.heap.size with hlt | hge
    · exact hlt
    · have : (x.add 0).block = x.block := add_block x 0
      simp [World.cell?, this, Array.getElem?_eq_none hge] at h
  · have hj : j < len := by
      have := (List.getElem?_eq_some_iff.1 hu).1
      simp at this; omega
    rw [hcell j (by omega)]
    rw [byts_at _ j (by simp; omega)] at hu
    rw [← hu]
    simp only [List.getElem_map, List.getElem_take]
    have hm := hwz zs[j] (List.getElem_mem _)
    have hb : 0 ≤ zs[j] ∧ zs[j] ≤ 255 := by
      simp [Lit.wf, IntKind.min, IntKind.max, IntKind.bits, IntKind.signed] at hm
      omega
    rw [UInt8.toNat_ofNat']
    congr 2
    simp [List.getD, List.getElem?_eq_getElem (show j < zs.length by omega)]
    omega

theorem cat_list (a b : List UInt8) : (({ data := a.toArray } : ByteArray) ++ { data := b.toArray }).toList = a ++ b := by
  rw [ByteArray.toList_eq]; simp

theorem bts_mark (w : World) (e : TypeId) (l : List UInt8) (C : Array Value) (hC : C = (byts l).toArray) (mk : Nat × Nat) : Bts (w.alloc (.cells C e mk)) (w.heap.size + 1) (some ⟨w.heap.size, 0, none⟩) l.length l := by
  subst hC
  refine ⟨by simp, fun _ => ⟨_, rfl, Nat.lt_succ_self _, fun j u hu => ?_⟩⟩
  rw [add_plain, Nat.zero_add]
  rw [World.cell?_alloc_mark]
  simpa using hu

theorem reads_newN (w : World) (xs : List Value) (e : TypeId) (C : Array Value) (hC : C = xs.toArray) : Reads (w.alloc (.cells C e)) (w.heap.size + 1) 1 (some ⟨w.heap.size, 0, none⟩) xs.length xs := by
  subst hC
  refine ⟨by simp, fun _ => ⟨_, rfl, Nat.lt_succ_self _, fun j u hu => ?_⟩⟩
  rw [add_plain, Nat.zero_add, World.cell?_alloc_mark]
  simpa using hu
end Go.Proofs.YtojlgfkjnkjcmaaGreatDoor

/-
  math/bits.Len64 of this program is the library's own text: its contract (the kit's shelf, laid in plain words) serves here.
-/
namespace Go.Proofs.YtojlgfkjnkjcmaaGreatDoor
open Go.Shelf
def lays129_ren : Go.Shelf.Ren := ⟨fun | 129 => 106 | n => n, fun | 53 => 81 | 3 => 3 | 4 => 4 | 46 => 186 | 5 => 5 | 9 => 9 | n => n, fun | n => n⟩
theorem lays129 : Go.Proofs.Lays.n129 Tryz.prog lays129_ren := {
  mixed := by kernel_rfl
  f129 := Tryz.func106.trans (congrArg some (by kernel_rfl))
  t3 := Tryz.underlying3
  a3 := Tryz.isAgg3
  z3 := Tryz.sizeOf3
  v3 := Tryz.zeroValue3
  t4 := Tryz.underlying4
  a4 := Tryz.isAgg4
  z4 := Tryz.sizeOf4
  v4 := Tryz.zeroValue4
  t5 := Tryz.underlying5
  a5 := Tryz.isAgg5
  z5 := Tryz.sizeOf5
  v5 := Tryz.zeroValue5
  t9 := Tryz.underlying9
  a9 := Tryz.isAgg9
  z9 := Tryz.sizeOf9
  v9 := Tryz.zeroValue9
  t46 := Tryz.underlying186
  a46 := Tryz.isAgg186
  z46 := Tryz.sizeOf186
  v46 := Tryz.zeroValue186
  t53 := Tryz.underlying81
  a53 := Tryz.isAgg81
  z53 := Tryz.sizeOf81
  v53 := Tryz.zeroValue81 }
theorem Len64_any (x : Int) (w : World) (h0 : 0 ≤ x) (h1 : x ≤ 18446744073709551615) :
    Calls Tryz.prog 106 #[.int .u64 x] w fun e w' => e = .returned (.int .i64 (Lib.bitLen x.toNat)) ∧ w = w' :=
  (Any.bits_Len64 lays129 x w h0 h1).mono fun _ _ h => ⟨h.1, h.2.symm⟩
end Go.Proofs.YtojlgfkjnkjcmaaGreatDoor

/-
  Bytes in memory of the call's own: the shape of such a slice; what 'it gives new bytes' means.
-/
namespace Go.Proofs.YtojlgfkjnkjcmaaGreatDoor
open Go.RowKit

theorem info_u8 : (Tryz.prog.info? 5).map (fun i => (i.zero, i.size, i.bytes)) = some (some (.int .u8 0), 1, 1) := by kernel_rfl

/-- it returns a slice of bytes in memory of its own -/
def GivesB (w : World) (l : List UInt8) (e : Ending) (w' : World) : Prop :=
  ∃ A c, e = .returned (.slice A l.length c) ∧ w'.ownsRow w.heap.size 5 1 (.slice A l.length c) l.length (byts l) ∧ Below w.heap.size w w'

theorem own_shape {w : World} {base : Nat} {e : TypeId} {size n : Nat} {v : Value} {xs : List Value} (h : w.ownsRow base e size v n xs) : ∃ A c, v = .slice A n c ∧ n ≤ c ∧ c ≤ 9223372036854775807 ∧ (A = none → n = 0 ∧ c = 0) := by
  rcases h.2 with ⟨rfl, rfl⟩ | ⟨g, cap, cur, rfl, _, _, hn, hm, _⟩
  · exact ⟨_, _, rfl, Nat.le_refl _, by omega, fun _ => ⟨rfl, rfl⟩⟩
  · exact ⟨_, _, rfl, hn, hm, fun h => by cases h⟩

theorem givesB_mk {w w' : World} {l : List UInt8} {v : Value} {n : Nat} {xs : List Value} (h : w'.ownsRow w.heap.size 5 1 v n xs) (hx : xs = byts l) (hb : Below w.heap.size w w') : GivesB w l (.returned v) w' := by
  subst hx
  have hn : n = l.length := by have := h.1; simpa using this.symm
  subst hn
  obtain ⟨A, c, rfl, _⟩ := own_shape h
  exact ⟨A, c, rfl, h, hb⟩
theorem own_facts {w : World} {base : Nat} {e : TypeId} {size n c : Nat} {A : Option Addr} {xs : List Value} (h : w.ownsRow base e size (.slice A n c) n xs) : n ≤ c ∧ c ≤ 9223372036854775807 ∧ (A = none → n = 0 ∧ c = 0) := by
  obtain ⟨A', c', h1, h2, h3, h4⟩ := own_shape h
  injection h1 with h5 h6 h7
  subst h5 h7
  exact ⟨h2, h3, h4⟩

end Go.Proofs.YtojlgfkjnkjcmaaGreatDoor

/-
  Words on memory: a block that is known whole; a call that turns only some blocks.
-/
namespace Go.Proofs.YtojlgfkjnkjcmaaGreatDoor
open Go.RowKit

/-- block g is just the cells cs of type t, none frozen -/
def Blk (w : World) (g : Nat) (t : TypeId) (cs : Array Value) : Prop := w.heap[g]? = some (.cells cs t (0, 0))

section
variable {w w' : World} {g : Nat} {t : TypeId} {cs : Array Value}
theorem Blk.lt (h : Blk w g t cs) : g < w.heap.size := by
  rcases Nat.lt_or_ge g w.heap.size with hlt | hge
  · exact hlt
  · unfold Blk at h; rw [Array.getElem?_eq_none hge] at h; cases h
theorem Blk.cell (h : Blk w g t cs) (i : Nat) : w.cell? ⟨g, i, none⟩ = cs[i]? := cell_of_row w g i cs t (0, 0) h
theorem Blk.frozen (h : Blk w g t cs) (i : Nat) : w.frozen? ⟨g, i, none⟩ = false := by
  unfold Blk at h
  simp [World.frozen?, h]
theorem Blk.new (w : World) (t : TypeId) (cs : Array Value) : Blk (w.alloc (.cells cs t)) w.heap.size t cs := heap_alloc_new w _
theorem Blk.new' (w : World) (t : TypeId) (cs : Array Value) {g : Nat} (hg : g = w.heap.size) : Blk (w.alloc (.cells cs t)) g t cs := by subst hg; exact heap_alloc_new w _
theorem Blk.drew (h : Blk w g t cs) : Blk w.drew g t cs := h
theorem Blk.drewN (h : Blk w g t cs) (n : Nat) : Blk (w.drewN n) g t cs := h
theorem Blk.alloc (h : Blk w g t cs) (o : Obj) : Blk (w.alloc o) g t cs := (Below.heap_alloc w o g h.lt).trans h
theorem Blk.set_ (h : Blk w g t cs) (i : Nat) (u : Value) : Blk (w.setCell ⟨g, i, none⟩ u) g t (cs.setIfInBounds i u) := by
  unfold Blk at h ⊢
  simp [World.setCell, Array.getElem?_modify, h]
theorem Blk.far (h : Blk w g t cs) {p : Addr} (hp : g ≠ p.block) (u : Value) : Blk (w.setCell p u) g t cs := (Below.heap_setCell w p u g hp).trans h
theorem Blk.below {B : Nat} (h : Blk w g t cs) (hb : Below B w w') (hg : g < B) : Blk w' g t cs := (hb.block g hg).trans h
theorem Blk.kept (h : Blk w g t cs) (hb : Below w.heap.size w w') : Blk w' g t cs := (hb.block g h.lt).trans h
theorem Blk.grown {row : Option Nat} (h : Blk w g t cs) (hb : w.grownBy w' row) (hg : some g ≠ row) : Blk w' g t cs := (hb.block g h.lt hg).trans h
theorem Blk.ne_ {g' : Nat} {t' : TypeId} {cs' : Array Value} (h : Blk w g t cs) (h' : Blk w g' t' cs') (hne : t ≠ t') : g ≠ g' := by
  rintro rfl
  unfold Blk at h h'
  rw [h] at h'
  injection h' with h'
  injection h' with _ ht
  exact hne ht
theorem own_blk_ne {base : Nat} {e : TypeId} {size n : Nat} {v : Value} {xs : List Value} (h : w.ownsRow base e size v n xs) (hg : Blk w g t cs) (hne : e ≠ t) : v.ownBlock ≠ some g := by
  rcases h.2 with ⟨rfl, _⟩ | ⟨g', cap, cur, rfl, _, hh, _⟩
  · simp [Value.ownBlock]
  · intro he
    have : g' = g := by simpa [Value.ownBlock] using he
    subst this
    exact Blk.ne_ (t := e) hh hg hne rfl
end

/-- w' is w with new blocks, and with turned blocks of S alone -/
structure Touch (S : Nat → Prop) (w w' : World) : Prop where
  os : w'.os = w.os
  tape : w'.tape = w.tape
  output : w'.output = w.output
  size : w.heap.size ≤ w'.heap.size
  block : ∀ i, i < w.heap.size → ¬ S i → w'.heap[i]? = w.heap[i]?
section
variable {S T : Nat → Prop} {a w w' w'' : World} {g : Nat} {t : TypeId} {cs : Array Value}
theorem Touch.refl (S : Nat → Prop) (w : World) : Touch S w w := ⟨rfl, rfl, rfl, Nat.le_refl _, fun _ _ _ => rfl⟩
theorem Touch.mono (h : Touch S w w') (hs : ∀ i, i < w.heap.size → S i → T i) : Touch T w w' := ⟨h.os, h.tape, h.output, h.size, fun i hi hn => h.block i hi (fun s => hn (hs i hi s))⟩
theorem Touch.trans (h : Touch S w w') (h' : Touch S w' w'') : Touch S w w'' :=
  ⟨h'.os.trans h.os, h'.tape.trans h.tape, h'.output.trans h.output, Nat.le_trans h.size h'.size, fun i hi hn => (h'.block i (Nat.lt_of_lt_of_le hi h.size) hn).trans (h.block i hi hn)⟩
/-- the second one may turn what is new, too -/
theorem Touch.trans' (h : Touch S w w') (h' : Touch T w' w'') (hs : ∀ i, i < w.heap.size → T i → S i) : Touch S w w'' :=
  ⟨h'.os.trans h.os, h'.tape.trans h.tape, h'.output.trans h.output, Nat.le_trans h.size h'.size, fun i hi hn => (h'.block i (Nat.lt_of_lt_of_le hi h.size) (fun t => hn (hs i hi t))).trans (h.block i hi hn)⟩
theorem Touch.of_below {B : Nat} (h : Below B w w') (hs : ∀ i, i < w.heap.size → B ≤ i → S i) : Touch S w w' :=
  ⟨h.os, h.tape, h.output, h.size, fun i hi hn => h.block i (by rcases Nat.lt_or_ge i B with c | c; exact c; exact absurd (hs i hi c) hn)⟩
theorem Touch.of_kept (h : Below w.heap.size w w') : Touch S w w' := ⟨h.os, h.tape, h.output, h.size, fun i hi _ => h.block i hi⟩
theorem Touch.below (h : Touch S w w') {B : Nat} (hs : ∀ i, S i → B ≤ i) (hB : B ≤ w.heap.size) : Below B w w' :=
  ⟨h.os, h.tape, h.output, h.size, fun i hi => h.block i (by omega) (fun s => by have := hs i s; omega)⟩
theorem Touch.drew (h : Touch S a w) : Touch S a w.drew := ⟨h.os, h.tape, h.output, h.size, h.block⟩
theorem Touch.drewN (h : Touch S a w) (n : Nat) : Touch S a (w.drewN n) := ⟨h.os, h.tape, h.output, h.size, h.block⟩
theorem Touch.alloc (h : Touch S a w) (o : Obj) : Touch S a (w.alloc o) :=
  ⟨h.os, h.tape, h.output, Nat.le_trans h.size (by simp), fun i hi hn => (Below.heap_alloc w o i (Nat.lt_of_lt_of_le hi h.size)).trans (h.block i hi hn)⟩
theorem Touch.setCell (h : Touch S a w) {p : Addr} (hp : S p.block ∨ a.heap.size ≤ p.block) (u : Value) : Touch S a (w.setCell p u) :=
  ⟨h.os, h.tape, h.output, by simpa [World.setCell] using h.size, fun i hi hne => (Below.heap_setCell w p u i (by
    rintro rfl
    rcases hp with hp | hp
    · exact hne hp
    · omega)).trans (h.block i hi hne)⟩
theorem Touch.grown {row : Option Nat} (h : Touch S a w) (hg : w.grownBy w' row) (hr : ∀ k, row = some k → S k ∨ a.heap.size ≤ k) : Touch S a w' :=
  ⟨hg.os.trans h.os, hg.tape.trans h.tape, hg.output.trans h.output, Nat.le_trans h.size hg.size, fun i hi hn => (hg.block i (Nat.lt_of_lt_of_le hi h.size) (fun e => by
    rcases hr i e.symm with c | c
    · exact hn c
    · omega)).trans (h.block i hi hn)⟩
theorem Blk.touch (h : Blk w g t cs) (ht : Touch S w w') (hg : ¬ S g) : Blk w' g t cs := (ht.block g h.lt hg).trans h
end
end Go.Proofs.YtojlgfkjnkjcmaaGreatDoor

/-
  rect.inside, rect.Within at the zero rectangle, tier.half, tier.Levels, tier.Size.
-/
namespace Go.Proofs.YtojlgfkjnkjcmaaGreatDoor
open Go.RowKit
set_option linter.unusedVariables false
set_option linter.unusedSimpArgs false

theorem inside_yes (n m : Int) (w : World) (h1 : 0 ≤ n) (h2 : n < m) :
    Calls Tryz.prog 75 #[.int .i64 n, .int .i64 m] w fun e w' => e = .returned (.bool true) ∧ w = w' := by
  go_enter Tryz.func75, Tryz.ntmps75
  go_wp2
  go_ret
  exact ⟨rfl, rfl⟩

theorem inside_no (n m : Int) (w : World) (h : n < 0 ∨ m ≤ n) :
    Calls Tryz.prog 75 #[.int .i64 n, .int .i64 m] w fun e w' => e = .returned (.bool false) ∧ w = w' := by
  by_cases h0 : n < 0
  · clear h
    go_enter Tryz.func75, Tryz.ntmps75
    go_wp2
    go_ret
    exact ⟨rfl, rfl⟩
  · have h1 : m ≤ n := by omega
    have h2 : 0 ≤ n := by omega
    have h3 : decide (n < m) = false := by simp; omega
    clear h h0
    go_enter Tryz.func75, Tryz.ntmps75
    go_wp2
    go_ret
    exact ⟨rfl, rfl⟩

/-- the size of a grid that can be -/
def SizeOk (a b : Int) : Prop := 1 ≤ a ∧ a ≤ 1024 ∧ 1 ≤ b ∧ b ≤ 1024

theorem Within0_ok (a b : Int) (w : World) (h : SizeOk a b) :
    Calls Tryz.prog 50 #[.agg #[.int .i64 0, .int .i64 0, .int .i64 0, .int .i64 0], .int .i64 a, .int .i64 b] w fun e w' => e = .returned (.int .i64 0) ∧ Below w.heap.size w w' := by
  obtain ⟨h1, h2, h3, h4⟩ := h
  go_enter Tryz.func50, Tryz.ntmps50
  go_wp2_with fail
  refine (inside_yes _ _ _ (by omega) (by omega)).mono ?_
  rintro e w1 ⟨rfl, rfl⟩
  go_wp2_with fail
  refine (inside_yes _ _ _ (by omega) (by omega)).mono ?_
  rintro e w1 ⟨rfl, rfl⟩
  go_wp2_with fail
  refine (inside_yes _ _ _ (by omega) (by omega)).mono ?_
  rintro e w1 ⟨rfl, rfl⟩
  go_wp2_with fail
  refine (inside_yes _ _ _ (by omega) (by omega)).mono ?_
  rintro e w1 ⟨rfl, rfl⟩
  go_wp2_with fail
  refine (inside_yes _ _ _ (by omega) (by omega)).mono ?_
  rintro e w1 ⟨rfl, rfl⟩
  go_wp2_with fail
  refine (inside_yes _ _ _ (by omega) (by omega)).mono ?_
  rintro e w1 ⟨rfl, rfl⟩
  go_wp2_with fail
  go_ret
  exact ⟨rfl, (Below.refl _ _).alloc (Nat.le_refl _) _⟩

theorem Within0_bad (a b : Int) (w : World) (ha : -9223372036854775808 ≤ a) (ha' : a ≤ 9223372036854775807) (hb : -9223372036854775808 ≤ b) (hb' : b ≤ 9223372036854775807) (h : ¬ SizeOk a b) :
    Calls Tryz.prog 50 #[.agg #[.int .i64 0, .int .i64 0, .int .i64 0, .int .i64 0], .int .i64 a, .int .i64 b] w fun e w' => e = .returned (.int .i64 3) ∧ Below w.heap.size w w' := by
  unfold SizeOk at h
  rcases (show a = -9223372036854775808 ∨ (-9223372036854775808 < a ∧ (a < 1 ∨ 1024 < a)) ∨ (1 ≤ a ∧ a ≤ 1024 ∧ b = -9223372036854775808) ∨ (1 ≤ a ∧ a ≤ 1024 ∧ -9223372036854775808 < b ∧ (b < 1 ∨ 1024 < b)) from by omega) with rfl | ⟨c1, c2⟩ | ⟨c1, c2, rfl⟩ | ⟨c1, c2, c3, c4⟩
  · clear h
    go_enter Tryz.func50, Tryz.ntmps50
    go_wp2_with fail
    refine (inside_no _ _ _ (by simp only [wrap64]; omega)).mono ?_
    rintro e w1 ⟨rfl, rfl⟩
    go_wp2_with fail
    go_ret
    exact ⟨rfl, (Below.refl _ _).alloc (Nat.le_refl _) _⟩
  · clear h
    go_enter Tryz.func50, Tryz.ntmps50
    go_wp2_with fail
    refine (inside_no _ _ _ (by omega)).mono ?_
    rintro e w1 ⟨rfl, rfl⟩
    go_wp2_with fail
    go_ret
    exact ⟨rfl, (Below.refl _ _).alloc (Nat.le_refl _) _⟩
  · clear h
    go_enter Tryz.func50, Tryz.ntmps50
    go_wp2_with fail
    refine (inside_yes _ _ _ (by omega) (by omega)).mono ?_
    rintro e w1 ⟨rfl, rfl⟩
    go_wp2_with fail
    refine (inside_no _ _ _ (by simp only [wrap64]; omega)).mono ?_
    rintro e w1 ⟨rfl, rfl⟩
    go_wp2_with fail
    go_ret
    exact ⟨rfl, (Below.refl _ _).alloc (Nat.le_refl _) _⟩
  · clear h
    go_enter Tryz.func50, Tryz.ntmps50
    go_wp2_with fail
    refine (inside_yes _ _ _ (by omega) (by omega)).mono ?_
    rintro e w1 ⟨rfl, rfl⟩
    go_wp2_with fail
    refine (inside_no _ _ _ (by omega)).mono ?_
    rintro e w1 ⟨rfl, rfl⟩
    go_wp2_with fail
    go_ret
    exact ⟨rfl, (Below.refl _ _).alloc (Nat.le_refl _) _⟩

/-- how many levels a size has -/
def levN (a b : Int) : Nat := Lib.bitLen (max a b - 1).toNat + 1

/-- a side, so many times halved and rounded up -/
def halfZ (n : Int) (k : Nat) : Int := (n - 1) / 2 ^ k + 1

theorem levN_le {a b : Int} (h : SizeOk a b) : levN a b ≤ 11 := by
  have := Lib.bitLen_le (max a b - 1).toNat 10 (by omega) (by unfold SizeOk at h; simp; omega)
  unfold levN; omega

theorem halfZ_pos (n : Int) (k : Nat) (h1 : 1 ≤ n) (h2 : n ≤ 1024) : 1 ≤ halfZ n k ∧ halfZ n k ≤ n := by
  have hp : (0 : Int) < 2 ^ k := Int.pow_pos (by omega)
  have e1 : 0 ≤ (n - 1) / 2 ^ k := Int.ediv_nonneg (by omega) (by omega)
  have e2 : (n - 1) / 2 ^ k ≤ n - 1 := Int.ediv_le_self _ (by omega)
  unfold halfZ
  omega

end Go.Proofs.YtojlgfkjnkjcmaaGreatDoor

/-
  Words on memory: boxes of two, three and four cells, and what keeps them.
-/
namespace Go.Proofs.YtojlgfkjnkjcmaaGreatDoor
open Go.RowKit

theorem bel_cell {B : Nat} {w w' : World} (h : Below B w w') (p : Addr) (v : Value) (hp : p.block < B) (hc : w.cell? p = some v) : w'.cell? p = some v := (h.cell hp).trans hc
theorem bel_froz {B : Nat} {w w' : World} (h : Below B w w') (p : Addr) (hp : p.block < B) (hc : w.frozen? p = false) : w'.frozen? p = false := (h.frozen hp).trans hc
theorem bel_trans {B : Nat} {w u w2 : World} (h : Below B w u) (h2 : Below u.heap.size u w2) (hB : B ≤ w.heap.size) : Below B w w2 := h.trans (h2.mono (Nat.le_trans hB h.size))
theorem bel_trans_drew {B : Nat} {w u w2 : World} (h : Below B w u) (h2 : Below u.drew.heap.size u.drew w2) (hB : B ≤ w.heap.size) : Below B w w2 := h.drew.trans (h2.mono (Nat.le_trans hB h.size))
theorem ret_int {k : IntKind} {a b : Int} (h : a = b) : Ending.returned (.int k a) = .returned (.int k b) := by rw [h]

/-- the first cells of a block -/
def Box2 (w : World) (b : Nat) (v0 v1 : Value) : Prop := w.cell? ⟨b, 0, none⟩ = some v0 ∧ w.cell? ⟨b, 1, none⟩ = some v1
def Box3 (w : World) (b : Nat) (v0 v1 v2 : Value) : Prop := w.cell? ⟨b, 0, none⟩ = some v0 ∧ w.cell? ⟨b, 1, none⟩ = some v1 ∧ w.cell? ⟨b, 2, none⟩ = some v2
def Box4 (w : World) (b : Nat) (v0 v1 v2 v3 : Value) : Prop := w.cell? ⟨b, 0, none⟩ = some v0 ∧ w.cell? ⟨b, 1, none⟩ = some v1 ∧ w.cell? ⟨b, 2, none⟩ = some v2 ∧ w.cell? ⟨b, 3, none⟩ = some v3
section
variable {B b : Nat} {w w' : World} {v0 v1 v2 v3 : Value}
theorem Box2.bel (h : Box2 w b v0 v1) (hb : Below B w w') (hl : b < B) : Box2 w' b v0 v1 := ⟨bel_cell hb _ _ hl h.1, bel_cell hb _ _ hl h.2⟩
theorem Box3.bel (h : Box3 w b v0 v1 v2) (hb : Below B w w') (hl : b < B) : Box3 w' b v0 v1 v2 := ⟨bel_cell hb _ _ hl h.1, bel_cell hb _ _ hl h.2.1, bel_cell hb _ _ hl h.2.2⟩
theorem Box4.bel (h : Box4 w b v0 v1 v2 v3) (hb : Below B w w') (hl : b < B) : Box4 w' b v0 v1 v2 v3 := ⟨bel_cell hb _ _ hl h.1, bel_cell hb _ _ hl h.2.1, bel_cell hb _ _ hl h.2.2.1, bel_cell hb _ _ hl h.2.2.2⟩
theorem set_far (h : w.cell? ⟨b, B, none⟩ = some v0) {p : Addr} (u : Value) (hp : b ≠ p.block) : (w.setCell p u).cell? ⟨b, B, none⟩ = some v0 :=
  (World.cell?_setCell_other w p ⟨b, B, none⟩ u (fun e => hp (by rw [e]))).trans h
theorem Box2.set_ (h : Box2 w b v0 v1) {p : Addr} (u : Value) (hp : b ≠ p.block) : Box2 (w.setCell p u) b v0 v1 := ⟨set_far h.1 u hp, set_far h.2 u hp⟩
theorem Box3.set_ (h : Box3 w b v0 v1 v2) {p : Addr} (u : Value) (hp : b ≠ p.block) : Box3 (w.setCell p u) b v0 v1 v2 := ⟨set_far h.1 u hp, set_far h.2.1 u hp, set_far h.2.2 u hp⟩
theorem Box4.set_ (h : Box4 w b v0 v1 v2 v3) {p : Addr} (u : Value) (hp : b ≠ p.block) : Box4 (w.setCell p u) b v0 v1 v2 v3 := ⟨set_far h.1 u hp, set_far h.2.1 u hp, set_far h.2.2.1 u hp, set_far h.2.2.2 u hp⟩
end
theorem box2_new (w : World) (v0 v1 : Value) (t : TypeId) : Box2 (w.alloc (.cells #[v0, v1] t)) w.heap.size v0 v1 := ⟨by simp, by simp⟩
theorem box3_new (w : World) (v0 v1 v2 : Value) (t : TypeId) : Box3 (w.alloc (.cells #[v0, v1, v2] t)) w.heap.size v0 v1 v2 := ⟨by simp, by simp, by simp⟩
theorem box4_new (w : World) (v0 v1 v2 v3 : Value) (t : TypeId) : Box4 (w.alloc (.cells #[v0, v1, v2, v3] t)) w.heap.size v0 v1 v2 v3 := ⟨by simp, by simp, by simp, by simp⟩
theorem froz_new (w : World) (cs : Array Value) (t : TypeId) (o : Nat) : (w.alloc (.cells cs t)).frozen? ⟨w.heap.size, o, none⟩ = false := by simp
theorem new_bel (w : World) (o : Obj) : Below w.heap.size w (w.alloc o) := (Below.refl _ _).alloc (Nat.le_refl _) o
theorem new_size (w : World) (o : Obj) : w.heap.size < (w.alloc o).heap.size := by simp

/-- things of k cells each, laid one behind the other -/
def flt {α : Type} (enc : α → List Value) (l : List α) : List Value := l.flatMap enc
section
variable {α : Type} {enc : α → List Value} {k : Nat}
theorem flt_nil : flt enc [] = [] := rfl
theorem flt_append (l m : List α) : flt enc (l ++ m) = flt enc l ++ flt enc m := by simp [flt]
theorem flt_one (a : α) : flt enc [a] = enc a := by simp [flt]
theorem flt_length (hk : ∀ a, (enc a).length = k) (l : List α) : (flt enc l).length = l.length * k := by
  induction l with
  | nil => simp [flt]
  | cons a l ih =>
    have e : flt enc (a :: l) = enc a ++ flt enc l := by simp [flt]
    rw [e, List.length_append, ih, hk, List.length_cons, Nat.succ_mul, Nat.add_comm]
theorem flt_at (hk : ∀ a, (enc a).length = k) : ∀ (l : List α) (i j : Nat) (hi : i < l.length) (_ : j < k), (flt enc l)[i * k + j]? = (enc l[i])[j]?
  | a :: l, 0, j, _, hj => by
    have e : flt enc (a :: l) = enc a ++ flt enc l := by simp [flt]
    rw [e, Nat.zero_mul, Nat.zero_add, List.getElem?_append_left (by rw [hk]; exact hj)]
    rfl
  | a :: l, i + 1, j, hi, hj => by
    have e : flt enc (a :: l) = enc a ++ flt enc l := by simp [flt]
    rw [e, List.getElem?_append_right (by rw [hk, Nat.succ_mul]; omega), hk, show (i + 1) * k + j - k = i * k + j by rw [Nat.succ_mul]; omega]
    exact flt_at hk l i j (by simpa using hi) hj
theorem flt_plain (h1 : ∀ a, ∀ u ∈ enc a, u.oneCell' = true) (l : List α) : ∀ u ∈ flt enc l, u.oneCell' = true := by
  intro u hu
  simp only [flt, List.mem_flatMap] at hu
  obtain ⟨a, _, h⟩ := hu
  exact h1 a u h
/-- the cells of one thing of a slice in memory of the call's own -/
theorem own_thing {w : World} {base : Nat} {e : TypeId} {A : Option Addr} {c : Nat} {l : List α} (hk : ∀ a, (enc a).length = k) (h : w.ownsRow base e k (.slice A l.length c) l.length (flt enc l)) {i : Nat} (hi : i < l.length) :
    ∃ g, A = some ⟨g, 0, none⟩ ∧ base ≤ g ∧ g < w.heap.size ∧ ∀ j u, (enc l[i])[j]? = some u → w.cell? ⟨g, i * k + j, none⟩ = some u := by
  obtain ⟨g, cap, hv, hb, hlt⟩ := h.form (by omega)
  have hA : A = some ⟨g, 0, none⟩ := by injection hv
  subst hA
  refine ⟨g, rfl, hb, hlt, fun j u hu => ?_⟩
  have hj : j < k := by
    have := (List.getElem?_eq_some_iff.1 hu).1
    rw [hk] at this; exact this
  have := h.cells (g := g) rfl (i * k + j) u ((flt_at hk l i j hi hj).trans hu)
  rwa [add_plain, Nat.zero_add] at this
end
theorem reads_new (w : World) (xs : List Value) (e : TypeId) (C : Array Value) (k n : Nat) (hC : C = xs.toArray) (hn : xs.length = n * k) : Reads (w.alloc (.cells C e)) (w.heap.size + 1) k (some ⟨w.heap.size, 0, none⟩) n xs := by
  subst hC
  refine ⟨hn, fun _ => ⟨_, rfl, Nat.lt_succ_self _, fun j u hu => ?_⟩⟩
  rw [add_plain, Nat.zero_add, World.cell?_alloc_mark]
  simpa using hu
theorem own_shape' {w : World} {base : Nat} {e : TypeId} {size n : Nat} {v : Value} {xs : List Value} (h : w.ownsRow base e size v n xs) : ∃ A c, v = .slice A n c ∧ n ≤ c ∧ c ≤ 9223372036854775807 ∧ (A = none → n = 0 ∧ c = 0) := by
  rcases h.2 with ⟨rfl, rfl⟩ | ⟨g, cap, cur, rfl, _, _, hn, hm, _⟩
  · exact ⟨_, _, rfl, Nat.le_refl _, by omega, fun _ => ⟨rfl, rfl⟩⟩
  · exact ⟨_, _, rfl, hn, hm, fun h => by cases h⟩
end Go.Proofs.YtojlgfkjnkjcmaaGreatDoor

/-
  The document's list of the levels' sizes (hachureref15.Sizes), and the plain facts of the halves.
-/
namespace Go.Proofs.YtojlgfkjnkjcmaaGreatDoor
open Go.RowKit
set_option linter.unusedVariables false
set_option linter.unusedSimpArgs false

theorem halfZ_zero (n : Int) : halfZ n 0 = n := by unfold halfZ; simp

theorem halfZ_succ (n : Int) (j : Nat) : (halfZ n j + 1) / 2 = halfZ n (j + 1) := by
  unfold halfZ
  rw [Int.pow_succ, ← Int.ediv_ediv_of_nonneg (Int.le_of_lt (Int.pow_pos (by omega)))]
  omega

theorem halfZ_big (n : Int) (j : Nat) : 1 < halfZ n j ↔ 2 ^ j ≤ n - 1 := by
  have hp : (0 : Int) < 2 ^ j := Int.pow_pos (by omega)
  unfold halfZ
  have := Int.le_ediv_iff_mul_le (a := 1) (b := n - 1) hp
  rw [Int.one_mul] at this
  rw [← this]
  omega

theorem bitLen_lt (n j : Nat) (hn : n < 2 ^ 64) : j < Lib.bitLen n ↔ 2 ^ j ≤ n := by
  constructor
  · intro h
    by_cases c : n < 2 ^ j
    · have := Lib.bitLenAux_le 64 n j c
      unfold Lib.bitLen at h
      omega
    · omega
  · intro h
    have hp : 0 < 2 ^ j := Nat.two_pow_pos j
    rw [Lib.bitLen_shift j n h hn]
    have h1 : 1 ≤ n / 2 ^ j := (Nat.le_div_iff_mul_le hp).2 (by omega)
    have h2 : n / 2 ^ j ≤ n := Nat.div_le_self _ _
    rw [Lib.bitLen_half (n / 2 ^ j) (by omega) (by omega)]
    omega

theorem lev_lt {a b : Int} (h : SizeOk a b) (j : Nat) : j + 1 < levN a b ↔ (1 < halfZ a j ∨ 1 < halfZ b j) := by
  obtain ⟨h1, h2, h3, h4⟩ := h
  rw [halfZ_big, halfZ_big]
  unfold levN
  have := bitLen_lt (max a b - 1).toNat j (by omega)
  have e : ((2 ^ j : Nat) : Int) = 2 ^ j := by simp
  rw [← e]
  omega

/-- cells in memory -/
def cel (l : List (Int × Int)) : List Value := l.flatMap fun p => [.int .i64 p.1, .int .i64 p.2]
theorem cel_append (l m : List (Int × Int)) : cel (l ++ m) = cel l ++ cel m := by simp [cel]
theorem cel_length (l : List (Int × Int)) : (cel l).length = l.length * 2 := by
  induction l with
  | nil => rfl
  | cons p l ih => simp [cel] at ih ⊢; omega
theorem cel_one (l : List (Int × Int)) : ∀ u ∈ cel l, u.oneCell' = true := by
  intro u hu
  simp [cel] at hu
  obtain ⟨x, y, _, h⟩ := hu
  rcases h with rfl | rfl <;> rfl
theorem cel_at : ∀ (l : List (Int × Int)) (k : Nat) (h : k < l.length), (cel l)[k * 2]? = some (.int .i64 l[k].1) ∧ (cel l)[k * 2 + 1]? = some (.int .i64 l[k].2)
  | p :: l, 0, _ => by simp [cel]
  | p :: l, k + 1, h => by
    have ih := cel_at l k (by simpa using h)
    have e : cel (p :: l) = .int .i64 p.1 :: .int .i64 p.2 :: cel l := by simp [cel]
    rw [e, show (k + 1) * 2 = k * 2 + 1 + 1 from by omega]
    simpa using ih

/-- the first j sizes -/
def szs (a b : Int) (j : Nat) : List (Int × Int) := (List.range j).map fun i => (halfZ a i, halfZ b i)
@[simp] theorem szs_length (a b : Int) (j : Nat) : (szs a b j).length = j := by simp [szs]
theorem szs_succ (a b : Int) (j : Nat) : szs a b (j + 1) = szs a b j ++ [(halfZ a j, halfZ b j)] := by simp [szs, List.range_succ]
theorem szs_at (a b : Int) (j k : Nat) (h : k < (szs a b j).length) : (szs a b j)[k] = (halfZ a k, halfZ b k) := by simp [szs]

theorem info_cell : (Tryz.prog.info? 52).map (fun i => (i.zero, i.size, i.bytes)) = some (some (.agg #[.int .i64 0, .int .i64 0]), 2, 16) := by kernel_rfl

theorem reads_cells (w : World) (l : List (Int × Int)) (e : TypeId) (C : Array Value) (hC : C = (cel l).toArray) : Reads (w.alloc (.cells C e)) (w.heap.size + 1) 2 (some ⟨w.heap.size, 0, none⟩) l.length (cel l) := by
  subst hC
  refine ⟨cel_length l, fun _ => ⟨_, rfl, Nat.lt_succ_self _, fun j u hj => ?_⟩⟩
  rw [add_plain, Nat.zero_add]
  simpa using hj

theorem own_new (w : World) (l : List (Int × Int)) (e : TypeId) (C : Array Value) (hC : C = (cel l).toArray) (hl : l.length ≤ maxLen) {base : Nat} (hb : base ≤ w.heap.size) : (w.alloc (.cells C e)).ownsRow base e 2 (.slice (some ⟨w.heap.size, 0, none⟩) l.length l.length) l.length (cel l) := by
  subst hC
  refine ⟨cel_length l, .inr ⟨w.heap.size, _, _, rfl, hb, heap_alloc_new w _, Nat.le_refl _, hl, by simp [cel_length], ?_⟩⟩
  rw [List.take_of_length_le (by simp [cel_length])]

end Go.Proofs.YtojlgfkjnkjcmaaGreatDoor

/-
  rect.Within, rect.Right, rect.Area, rect.width, rect.floor, rect.Nth.
-/
namespace Go.Proofs.YtojlgfkjnkjcmaaGreatDoor
open Go.RowKit
set_option linter.unusedVariables false
set_option linter.unusedSimpArgs false

instance (a b : Int) : Decidable (SizeOk a b) := by unfold SizeOk; infer_instance
/-- a rectangle as a value, a cell as a value -/
abbrev rectV (x0 y0 x1 y1 : Int) : Value := .agg #[.int .i64 x0, .int .i64 y0, .int .i64 x1, .int .i64 y1]
abbrev cellV (x y : Int) : Value := .agg #[.int .i64 x, .int .i64 y]
/-- it returns v, and what there was stays -/
def Ret (v : Value) (w : World) (e : Ending) (w' : World) : Prop := e = .returned v ∧ Below w.heap.size w w'

/-- all corners in a grid of a size -/
def InP (x0 y0 x1 y1 a b : Int) : Prop := 0 ≤ x0 ∧ x0 < a ∧ 0 ≤ x1 ∧ x1 < a ∧ 0 ≤ y0 ∧ y0 < b ∧ 0 ≤ y1 ∧ y1 < b
instance (x0 y0 x1 y1 a b : Int) : Decidable (InP x0 y0 x1 y1 a b) := by unfold InP; infer_instance
/-- the code of a rectangle -/
def withinZ (x0 y0 x1 y1 a b : Int) : Int := if ¬ SizeOk a b then 3 else if ¬ InP x0 y0 x1 y1 a b then 4 else if x1 < x0 ∨ y1 < y0 then 5 else 0

theorem bcell {W w1 : World} (hb : Below W.heap.size W w1) : (∀ b o, b < W.heap.size → w1.cell? ⟨b, o, none⟩ = W.cell? ⟨b, o, none⟩) ∧ (∀ b o, b < W.heap.size → w1.frozen? ⟨b, o, none⟩ = W.frozen? ⟨b, o, none⟩) :=
  ⟨fun b o h => hb.cell (p := ⟨b, o, none⟩) h, fun b o h => hb.frozen (p := ⟨b, o, none⟩) h⟩

set_option maxHeartbeats 2000000 in
theorem Within_any (x0 y0 x1 y1 a b : Int) (w : World) (ha : -9223372036854775808 ≤ a) (ha' : a ≤ 9223372036854775807) (hb : -9223372036854775808 ≤ b) (hb' : b ≤ 9223372036854775807) :
    Calls Tryz.prog 50 #[.agg #[.int .i64 x0, .int .i64 y0, .int .i64 x1, .int .i64 y1], .int .i64 a, .int .i64 b] w (Ret (.int .i64 (withinZ x0 y0 x1 y1 a b)) w) := by
  by_cases hs : SizeOk a b
  · obtain ⟨s1, s2, s3, s4⟩ := id hs
    by_cases hi : InP x0 y0 x1 y1 a b
    · obtain ⟨i1, i2, i3, i4, i5, i6, i7, i8⟩ := id hi
      rcases (show x1 < x0 ∨ (x0 ≤ x1 ∧ y1 < y0) ∨ (x0 ≤ x1 ∧ y0 ≤ y1) from by omega) with c | c | c
      · have e : withinZ x0 y0 x1 y1 a b = 5 := by unfold withinZ; rw [if_neg (fun f => f hs), if_neg (fun f => f hi), if_pos (by omega)]
        rw [e]
        clear e hs hi
        go_enter Tryz.func50, Tryz.ntmps50
        go_wp2_with fail
        refine (inside_yes _ _ _ (by omega) (by omega)).mono ?_
        rintro e w1 ⟨rfl, rfl⟩
        go_wp2_with fail
        refine (inside_yes _ _ _ (by omega) (by omega)).mono ?_
        rintro e w1 ⟨rfl, rfl⟩
        go_wp2_with fail
        refine (inside_yes _ _ _ (by omega) (by omega)).mono ?_
        rintro e w1 ⟨rfl, rfl⟩
        go_wp2_with fail
        refine (inside_yes _ _ _ (by omega) (by omega)).mono ?_
        rintro e w1 ⟨rfl, rfl⟩
        go_wp2_with fail
        refine (inside_yes _ _ _ (by omega) (by omega)).mono ?_
        rintro e w1 ⟨rfl, rfl⟩
        go_wp2_with fail
        refine (inside_yes _ _ _ (by omega) (by omega)).mono ?_
        rintro e w1 ⟨rfl, rfl⟩
        go_wp2_with fail
        go_ret
        exact ⟨rfl, (Below.refl _ _).alloc (Nat.le_refl _) _⟩
      · have e : withinZ x0 y0 x1 y1 a b = 5 := by unfold withinZ; rw [if_neg (fun f => f hs), if_neg (fun f => f hi), if_pos (by omega)]
        rw [e]
        clear e hs hi
        go_enter Tryz.func50, Tryz.ntmps50
        go_wp2_with fail
        refine (inside_yes _ _ _ (by omega) (by omega)).mono ?_
        rintro e w1 ⟨rfl, rfl⟩
        go_wp2_with fail
        refine (inside_yes _ _ _ (by omega) (by omega)).mono ?_
        rintro e w1 ⟨rfl, rfl⟩
        go_wp2_with fail
        refine (inside_yes _ _ _ (by omega) (by omega)).mono ?_
        rintro e w1 ⟨rfl, rfl⟩
        go_wp2_with fail
        refine (inside_yes _ _ _ (by omega) (by omega)).mono ?_
        rintro e w1 ⟨rfl, rfl⟩
        go_wp2_with fail
        refine (inside_yes _ _ _ (by omega) (by omega)).mono ?_
        rintro e w1 ⟨rfl, rfl⟩
        go_wp2_with fail
        refine (inside_yes _ _ _ (by omega) (by omega)).mono ?_
        rintro e w1 ⟨rfl, rfl⟩
        go_wp2_with fail
        go_ret
        exact ⟨rfl, (Below.refl _ _).alloc (Nat.le_refl _) _⟩
      · have e : withinZ x0 y0 x1 y1 a b = 0 := by unfold withinZ; rw [if_neg (fun f => f hs), if_neg (fun f => f hi), if_neg (by omega)]
        rw [e]
        clear e hs hi
        go_enter Tryz.func50, Tryz.ntmps50
        go_wp2_with fail
        refine (inside_yes _ _ _ (by omega) (by omega)).mono ?_
        rintro e w1 ⟨rfl, rfl⟩
        go_wp2_with fail
        refine (inside_yes _ _ _ (by omega) (by omega)).mono ?_
        rintro e w1 ⟨rfl, rfl⟩
        go_wp2_with fail
        refine (inside_yes _ _ _ (by omega) (by omega)).mono ?_
        rintro e w1 ⟨rfl, rfl⟩
        go_wp2_with fail
        refine (inside_yes _ _ _ (by omega) (by omega)).mono ?_
        rintro e w1 ⟨rfl, rfl⟩
        go_wp2_with fail
        refine (inside_yes _ _ _ (by omega) (by omega)).mono ?_
        rintro e w1 ⟨rfl, rfl⟩
        go_wp2_with fail
        refine (inside_yes _ _ _ (by omega) (by omega)).mono ?_
        rintro e w1 ⟨rfl, rfl⟩
        go_wp2_with fail
        go_ret
        exact ⟨rfl, (Below.refl _ _).alloc (Nat.le_refl _) _⟩
    · have e : withinZ x0 y0 x1 y1 a b = 4 := by unfold withinZ; rw [if_neg (fun f => f hs), if_pos hi]
      rw [e]
      clear e hs
      unfold InP at hi
      by_cases c1 : 0 ≤ x0 ∧ x0 < a
      · by_cases c2 : 0 ≤ x1 ∧ x1 < a
        · by_cases c3 : 0 ≤ y0 ∧ y0 < b
          · obtain ⟨c11, c12⟩ := c1
            obtain ⟨c21, c22⟩ := c2
            obtain ⟨c31, c32⟩ := c3
            have c4 : y1 < 0 ∨ b ≤ y1 := by omega
            clear hi
            go_enter Tryz.func50, Tryz.ntmps50
            go_wp2_with fail
            refine (inside_yes _ _ _ (by omega) (by omega)).mono ?_
            rintro e w1 ⟨rfl, rfl⟩
            go_wp2_with fail
            refine (inside_yes _ _ _ (by omega) (by omega)).mono ?_
            rintro e w1 ⟨rfl, rfl⟩
            go_wp2_with fail
            refine (inside_yes _ _ _ (by omega) (by omega)).mono ?_
            rintro e w1 ⟨rfl, rfl⟩
            go_wp2_with fail
            refine (inside_yes _ _ _ (by omega) (by omega)).mono ?_
            rintro e w1 ⟨rfl, rfl⟩
            go_wp2_with fail
            refine (inside_yes _ _ _ (by omega) (by omega)).mono ?_
            rintro e w1 ⟨rfl, rfl⟩
            go_wp2_with fail
            refine (inside_no _ _ _ (by first | omega | (simp only [wrap64]; omega))).mono ?_
            rintro e w1 ⟨rfl, rfl⟩
            go_wp2_with fail
            go_ret
            exact ⟨rfl, (Below.refl _ _).alloc (Nat.le_refl _) _⟩
          · obtain ⟨c11, c12⟩ := c1
            obtain ⟨c21, c22⟩ := c2
            have c4 : y0 < 0 ∨ b ≤ y0 := by omega
            clear hi c3
            go_enter Tryz.func50, Tryz.ntmps50
            go_wp2_with fail
            refine (inside_yes _ _ _ (by omega) (by omega)).mono ?_
            rintro e w1 ⟨rfl, rfl⟩
            go_wp2_with fail
            refine (inside_yes _ _ _ (by omega) (by omega)).mono ?_
            rintro e w1 ⟨rfl, rfl⟩
            go_wp2_with fail
            refine (inside_yes _ _ _ (by omega) (by omega)).mono ?_
            rintro e w1 ⟨rfl, rfl⟩
            go_wp2_with fail
            refine (inside_yes _ _ _ (by omega) (by omega)).mono ?_
            rintro e w1 ⟨rfl, rfl⟩
            go_wp2_with fail
            refine (inside_no _ _ _ (by first | omega | (simp only [wrap64]; omega))).mono ?_
            rintro e w1 ⟨rfl, rfl⟩
            go_wp2_with fail
            go_ret
            exact ⟨rfl, (Below.refl _ _).alloc (Nat.le_refl _) _⟩
        · obtain ⟨c11, c12⟩ := c1
          have c4 : x1 < 0 ∨ a ≤ x1 := by omega
          clear hi c2
          go_enter Tryz.func50, Tryz.ntmps50
          go_wp2_with fail
          refine (inside_yes _ _ _ (by omega) (by omega)).mono ?_
          rintro e w1 ⟨rfl, rfl⟩
          go_wp2_with fail
          refine (inside_yes _ _ _ (by omega) (by omega)).mono ?_
          rintro e w1 ⟨rfl, rfl⟩
          go_wp2_with fail
          refine (inside_yes _ _ _ (by omega) (by omega)).mono ?_
          rintro e w1 ⟨rfl, rfl⟩
          go_wp2_with fail
          refine (inside_no _ _ _ (by first | omega | (simp only [wrap64]; omega))).mono ?_
          rintro e w1 ⟨rfl, rfl⟩
          go_wp2_with fail
          go_ret
          exact ⟨rfl, (Below.refl _ _).alloc (Nat.le_refl _) _⟩
      · have c4 : x0 < 0 ∨ a ≤ x0 := by omega
        clear hi c1
        go_enter Tryz.func50, Tryz.ntmps50
        go_wp2_with fail
        refine (inside_yes _ _ _ (by omega) (by omega)).mono ?_
        rintro e w1 ⟨rfl, rfl⟩
        go_wp2_with fail
        refine (inside_yes _ _ _ (by omega) (by omega)).mono ?_
        rintro e w1 ⟨rfl, rfl⟩
        go_wp2_with fail
        refine (inside_no _ _ _ (by first | omega | (simp only [wrap64]; omega))).mono ?_
        rintro e w1 ⟨rfl, rfl⟩
        go_wp2_with fail
        go_ret
        exact ⟨rfl, (Below.refl _ _).alloc (Nat.le_refl _) _⟩
  · have e : withinZ x0 y0 x1 y1 a b = 3 := by unfold withinZ; rw [if_pos hs]
    rw [e]
    clear e
    unfold SizeOk at hs
    rcases (show a = -9223372036854775808 ∨ (-9223372036854775808 < a ∧ (a < 1 ∨ 1024 < a)) ∨ (1 ≤ a ∧ a ≤ 1024 ∧ b = -9223372036854775808) ∨ (1 ≤ a ∧ a ≤ 1024 ∧ -9223372036854775808 < b ∧ (b < 1 ∨ 1024 < b)) from by omega) with rfl | ⟨c1, c2⟩ | ⟨c1, c2, rfl⟩ | ⟨c1, c2, c3, c4⟩
    · clear hs
      go_enter Tryz.func50, Tryz.ntmps50
      go_wp2_with fail
      refine (inside_no _ _ _ (by first | omega | (simp only [wrap64]; omega))).mono ?_
      rintro e w1 ⟨rfl, rfl⟩
      go_wp2_with fail
      go_ret
      exact ⟨rfl, (Below.refl _ _).alloc (Nat.le_refl _) _⟩
    · clear hs
      go_enter Tryz.func50, Tryz.ntmps50
      go_wp2_with fail
      refine (inside_no _ _ _ (by first | omega | (simp only [wrap64]; omega))).mono ?_
      rintro e w1 ⟨rfl, rfl⟩
      go_wp2_with fail
      go_ret
      exact ⟨rfl, (Below.refl _ _).alloc (Nat.le_refl _) _⟩
    · clear hs
      go_enter Tryz.func50, Tryz.ntmps50
      go_wp2_with fail
      refine (inside_yes _ _ _ (by omega) (by omega)).mono ?_
      rintro e w1 ⟨rfl, rfl⟩
      go_wp2_with fail
      refine (inside_no _ _ _ (by first | omega | (simp only [wrap64]; omega))).mono ?_
      rintro e w1 ⟨rfl, rfl⟩
      go_wp2_with fail
      go_ret
      exact ⟨rfl, (Below.refl _ _).alloc (Nat.le_refl _) _⟩
    · clear hs
      go_enter Tryz.func50, Tryz.ntmps50
      go_wp2_with fail
      refine (inside_yes _ _ _ (by omega) (by omega)).mono ?_
      rintro e w1 ⟨rfl, rfl⟩
      go_wp2_with fail
      refine (inside_no _ _ _ (by first | omega | (simp only [wrap64]; omega))).mono ?_
      rintro e w1 ⟨rfl, rfl⟩
      go_wp2_with fail
      go_ret
      exact ⟨rfl, (Below.refl _ _).alloc (Nat.le_refl _) _⟩

theorem within_zero {x0 y0 x1 y1 a b : Int} (h : withinZ x0 y0 x1 y1 a b = 0) : SizeOk a b ∧ 0 ≤ x0 ∧ x0 ≤ x1 ∧ x1 < a ∧ 0 ≤ y0 ∧ y0 ≤ y1 ∧ y1 < b := by
  unfold withinZ at h
  split at h
  · omega
  · rename_i h1
    split at h
    · omega
    · rename_i h2
      split at h
      · omega
      · have h2' : InP x0 y0 x1 y1 a b := by simpa using h2
        obtain ⟨i1, i2, i3, i4, i5, i6, i7, i8⟩ := h2'
        exact ⟨by simpa using h1, by omega, by omega, by omega, by omega, by omega, by omega⟩
theorem within_of {x0 y0 x1 y1 a b : Int} (hs : SizeOk a b) (h1 : 0 ≤ x0) (h2 : x0 ≤ x1) (h3 : x1 < a) (h4 : 0 ≤ y0) (h5 : y0 ≤ y1) (h6 : y1 < b) : withinZ x0 y0 x1 y1 a b = 0 := by
  unfold withinZ
  rw [if_neg (fun f => f hs), if_neg (fun f => f ⟨h1, by omega, by omega, h3, h4, by omega, by omega, h6⟩), if_neg (by omega)]

/-- a rectangle that is right, as a bool -/
def rightB (x0 y0 x1 y1 : Int) : Bool := withinZ x0 y0 x1 y1 1024 1024 == 0
theorem Right_any (x0 y0 x1 y1 : Int) (w : World) : Calls Tryz.prog 76 #[rectV x0 y0 x1 y1] w (Ret (.bool (rightB x0 y0 x1 y1)) w) := by
  go_enter Tryz.func76, Tryz.ntmps76
  go_wp2_with fail
  refine (Within_any x0 y0 x1 y1 _ _ _ (by omega) (by omega) (by omega) (by omega)).mono ?_
  rintro e w1 ⟨rfl, hb1⟩
  go_wp2_with fail
  go_ret
  exact ⟨rfl, ((Below.refl _ _).alloc (Nat.le_refl _) _).trans (hb1.mono (by simp))⟩
theorem right_iff (x0 y0 x1 y1 : Int) : rightB x0 y0 x1 y1 = true ↔ (0 ≤ x0 ∧ x0 ≤ x1 ∧ x1 < 1024 ∧ 0 ≤ y0 ∧ y0 ≤ y1 ∧ y1 < 1024) := by
  unfold rightB
  rw [beq_iff_eq]
  constructor
  · intro h
    exact (within_zero h).2
  · rintro ⟨h1, h2, h3, h4, h5, h6⟩
    exact within_of ⟨by omega, by omega, by omega, by omega⟩ h1 h2 h3 h4 h5 h6

theorem width_any (x0 y0 x1 y1 : Int) (w : World) (h1 : 0 ≤ x0) (h2 : x0 ≤ x1) (h3 : x1 < 1024) : Calls Tryz.prog 84 #[rectV x0 y0 x1 y1] w (Ret (.int .i64 (x1 - x0 + 1)) w) := by
  go_enter Tryz.func84, Tryz.ntmps84
  go_wp2_with fail
  go_ret
  exact ⟨rfl, (Below.refl _ _).alloc (Nat.le_refl _) _⟩
end Go.Proofs.YtojlgfkjnkjcmaaGreatDoor

/-
  rect.Area, rect.floor, rect.Nth.
-/
namespace Go.Proofs.YtojlgfkjnkjcmaaGreatDoor
open Go.RowKit
set_option linter.unusedVariables false
set_option linter.unusedSimpArgs false

/-- how many cells a rectangle has -/
def areaZ (x0 y0 x1 y1 : Int) : Int := if rightB x0 y0 x1 y1 = true then (x1 - x0 + 1) * (y1 - y0 + 1) else 0

set_option maxHeartbeats 1000000 in
theorem Area_any (x0 y0 x1 y1 : Int) (w : World) : Calls Tryz.prog 63 #[rectV x0 y0 x1 y1] w (Ret (.int .i64 (areaZ x0 y0 x1 y1)) w) := by
  by_cases hr : rightB x0 y0 x1 y1 = true
  · have he : areaZ x0 y0 x1 y1 = (x1 - x0 + 1) * (y1 - y0 + 1) := by unfold areaZ; rw [if_pos hr]
    have HE := Lib.hid he
    obtain ⟨h1, h2, h3, h4, h5, h6⟩ := (right_iff _ _ _ _).1 hr
    have hm : 0 ≤ (x1 - x0 + 1) * (y1 - y0 + 1) ∧ (x1 - x0 + 1) * (y1 - y0 + 1) ≤ 1048576 := by
      refine ⟨Int.mul_nonneg (by omega) (by omega), ?_⟩
      have := Int.mul_le_mul (show x1 - x0 + 1 ≤ 1024 by omega) (show y1 - y0 + 1 ≤ 1024 by omega) (by omega) (by omega)
      omega
    obtain ⟨m1, m2⟩ := hm
    have hr' := fun W => Right_any x0 y0 x1 y1 W
    rw [hr] at hr'
    have HR := Lib.hid hr'
    clear he hr hr'
    go_enter Tryz.func63, Tryz.ntmps63
    go_wp2_with fail
    refine (HR.out _).mono ?_
    rintro e w1 ⟨rfl, hb1⟩
    have C := (box4_new w (.int .i64 x0) (.int .i64 y0) (.int .i64 x1) (.int .i64 y1) 107).bel hb1 (by simp)
    have hz : w.heap.size < w1.heap.size := by have := hb1.size; simp at this; omega
    have HB : Below w.heap.size w w1 := ((Below.refl _ _).alloc (Nat.le_refl _) _).trans (hb1.mono (by simp))
    clear hb1 HR
    go_wp2_with fail
    have HX := Below.refl w1.heap.size w1
    have W1 : IntKind.i64.wrap (y1 - y0) = y1 - y0 := IntWalk.i64_in _ (by omega)
    have W2 : IntKind.i64.wrap (y1 - y0 + 1) = y1 - y0 + 1 := IntWalk.i64_in _ (by omega)
    have W3 : IntKind.i64.wrap ((x1 - x0 + 1) * (y1 - y0 + 1)) = (x1 - x0 + 1) * (y1 - y0 + 1) := IntWalk.i64_in _ (by omega)
    go_region_held3 (fun W => W.cell? ⟨w.heap.size, 0, none⟩ = some (.int .i64 x0) ∧ W.cell? ⟨w.heap.size, 1, none⟩ = some (.int .i64 y0) ∧ W.cell? ⟨w.heap.size, 2, none⟩ = some (.int .i64 x1) ∧ W.cell? ⟨w.heap.size, 3, none⟩ = some (.int .i64 y1))
      (first | exact C | exact C.bel HX hz)
      ((go_at_call 84; refine (width_any x0 y0 x1 y1 _ h1 h2 h3).mono ?_; rintro e w2 ⟨rfl, hb2⟩; replace HX := bel_trans_drew HX hb2 (Nat.le_refl _)))
    go_wp2_with fail
    go_ret
    rw [Ret, HE.out]
    exact ⟨rfl, HB.trans (HX.mono (by omega))⟩
  · have he : areaZ x0 y0 x1 y1 = 0 := by unfold areaZ; rw [if_neg hr]
    rw [he]
    have hr' := fun W => Right_any x0 y0 x1 y1 W
    rw [show rightB x0 y0 x1 y1 = false by simpa using hr] at hr'
    have HR := Lib.hid hr'
    clear he hr hr'
    go_enter Tryz.func63, Tryz.ntmps63
    go_wp2_with fail
    refine (HR.out _).mono ?_
    rintro e w1 ⟨rfl, hb1⟩
    go_wp2_with fail
    go_ret
    exact ⟨rfl, ((Below.refl _ _).alloc (Nat.le_refl _) _).trans (hb1.mono (by simp))⟩

theorem floor_fin : ∀ n : Fin 1024, bits .andNot .i64 (n.val : Int) 15 = (n.val : Int) - (n.val : Int) % 16 := by decide +kernel
theorem floor_bits (n : Int) (h1 : 0 ≤ n) (h2 : n < 1024) : bits .andNot .i64 n 15 = n - n % 16 := by
  obtain ⟨m, rfl⟩ := Int.eq_ofNat_of_zero_le h1
  exact floor_fin ⟨m, by omega⟩
theorem floor_any (n : Int) (w : World) (h1 : 0 ≤ n) (h2 : n < 1024) : Calls Tryz.prog 77 #[.int .i64 n] w fun e w' => e = .returned (.int .i64 (n - n % 16)) ∧ w = w' := by
  go_enter Tryz.func77, Tryz.ntmps77
  go_wp2_with fail
  go_ret
  exact ⟨ret_int (floor_bits n h1 h2), rfl⟩

set_option maxHeartbeats 2000000 in
theorem Nth_n (x0 y0 x1 y1 i n : Int) (w : World) (HA : Hid (∀ W, Calls Tryz.prog 63 #[rectV x0 y0 x1 y1] W (Ret (.int .i64 (n * (y1 - y0 + 1))) W))) (HN : Hid (∀ W, Calls Tryz.prog 84 #[rectV x0 y0 x1 y1] W (Ret (.int .i64 n) W)))
    (h1 : 0 ≤ x0) (h2 : x0 < 1024) (h4 : 0 ≤ y0) (h5 : y0 < 1024) (hn : 1 ≤ n) (hn' : n ≤ 1024) (hi : 0 ≤ i) (hi' : i < n * (y1 - y0 + 1)) (him : i < 1048576) :
    Calls Tryz.prog 89 #[rectV x0 y0 x1 y1, .int .i64 i] w (Ret (.tuple #[cellV (x0 + i % n) (y0 + i / n), .bool true]) w) := by
  have q1 : 0 ≤ i % n := Int.emod_nonneg _ (by omega)
  have q2 : i % n < n := Int.emod_lt_of_pos _ (by omega)
  have q3 : 0 ≤ i / n := Int.ediv_nonneg hi (by omega)
  have q4 : i / n ≤ i := Int.ediv_le_self _ hi
  have hne : ¬ n = 0 := by omega
  go_enter Tryz.func89, Tryz.ntmps89
  go_wp2_with fail
  refine (HA.out _).mono ?_
  rintro e w1 ⟨rfl, hb1⟩
  have C := ((box4_new w (.int .i64 x0) (.int .i64 y0) (.int .i64 x1) (.int .i64 y1) 107).bel (new_bel _ _) (by simp)).bel hb1 (by simp; omega)
  have D : Box2 w1 (w.heap.size + 1) (.int .i64 0) (.int .i64 0) := by simpa using (box2_new (w.alloc (.cells #[.int .i64 x0, .int .i64 y0, .int .i64 x1, .int .i64 y1] 107)) (.int .i64 0) (.int .i64 0) 52).bel hb1 (by simp)
  have hz : w.heap.size + 1 < w1.heap.size := by have := hb1.size; simp at this; omega
  have HB : Below w.heap.size w w1 := (((Below.refl _ _).alloc (Nat.le_refl _) _).alloc (by simp) _).trans (hb1.mono (by simp; omega))
  have f0 : w1.frozen? ⟨w.heap.size + 1, 0, none⟩ = false := (hb1.frozen (by simp)).trans (by simp)
  have f1 : w1.frozen? ⟨w.heap.size + 1, 1, none⟩ = false := (hb1.frozen (by simp)).trans (by simp)
  clear hb1 HA
  go_wp2_with fail
  refine (inside_yes _ _ _ hi hi').mono ?_
  rintro e w2 ⟨rfl, rfl⟩
  go_wp2_with fail
  have W1 : IntKind.i64.wrap (x0 + i % n) = x0 + i % n := IntWalk.i64_in _ (by omega)
  have W2 : IntKind.i64.wrap (y0 + i / n) = y0 + i / n := IntWalk.i64_in _ (by omega)
  have W3 : i.tmod n = i % n := Int.tmod_eq_emod_of_nonneg hi
  have W4 : IntKind.i64.wrap (i.tdiv n) = i / n := IntWalk.i64_quo _ _ (by omega)
  have HX := Below.refl w1.heap.size w1
  go_region_held3 (fun W => (W.cell? ⟨w.heap.size, 0, none⟩ = some (.int .i64 x0) ∧ W.cell? ⟨w.heap.size, 1, none⟩ = some (.int .i64 y0) ∧ W.cell? ⟨w.heap.size, 2, none⟩ = some (.int .i64 x1) ∧ W.cell? ⟨w.heap.size, 3, none⟩ = some (.int .i64 y1)))
    (first | exact C | exact C.bel HX (by omega) | exact ((C.bel HX (by omega)).set_ _ (by simp)).set_ _ (by simp))
    ((go_at_call 84; refine (HN.out _).mono ?_; rintro e w2 ⟨rfl, hb2⟩; (first | replace HX := bel_trans HX hb2 (Nat.le_refl _) | replace HX := bel_trans_drew HX hb2 (Nat.le_refl _)); obtain ⟨dd0, dd1⟩ := D.bel HX (by omega); have ff0 := bel_froz HX _ (by simpa using hz) f0; have ff1 := bel_froz HX _ (by simpa using hz) f1))
  go_wp2_with fail
  refine bodyPost_ret (v := .tuple #[cellV (x0 + i % n) (y0 + i / n), .bool true]) (by simp [results, Tryz.results89, go_sem, dd0, dd1]) rfl ⟨rfl, ?_⟩
  exact ((HB.trans (HX.mono (by omega))).setCell (by simp) _).setCell (by simp) _

theorem Nth_ok (x0 y0 x1 y1 i : Int) (w : World) (hr : rightB x0 y0 x1 y1 = true) (hi : 0 ≤ i) (hi' : i < (x1 - x0 + 1) * (y1 - y0 + 1)) :
    Calls Tryz.prog 89 #[rectV x0 y0 x1 y1, .int .i64 i] w (Ret (.tuple #[cellV (x0 + i % (x1 - x0 + 1)) (y0 + i / (x1 - x0 + 1)), .bool true]) w) := by
  have hA := fun W => Area_any x0 y0 x1 y1 W
  have he : areaZ x0 y0 x1 y1 = (x1 - x0 + 1) * (y1 - y0 + 1) := by unfold areaZ; rw [if_pos hr]
  rw [he] at hA
  obtain ⟨h1, h2, h3, h4, h5, h6⟩ := (right_iff _ _ _ _).1 hr
  have hm : (x1 - x0 + 1) * (y1 - y0 + 1) ≤ 1048576 := by
    have := Int.mul_le_mul (show x1 - x0 + 1 ≤ 1024 by omega) (show y1 - y0 + 1 ≤ 1024 by omega) (by omega) (by omega)
    omega
  exact Nth_n x0 y0 x1 y1 i _ w (Lib.hid hA) (Lib.hid fun W => width_any x0 y0 x1 y1 W h1 h2 h3) h1 (by omega) h4 (by omega) (by omega) (by omega) hi hi' (by omega)
end Go.Proofs.YtojlgfkjnkjcmaaGreatDoor

/-
  math/bits.Mul of this program is the library's own text: its contract (the kit's shelf, laid in plain words) serves here.
-/
namespace Go.Proofs.YtojlgfkjnkjcmaaGreatDoor
open Go.Shelf
def lays212_ren : Go.Shelf.Ren := ⟨fun | 212 => 110 | 263 => 119 | 264 => 120 | n => n, fun | 46 => 186 | 51 => 183 | 146 => 198 | 53 => 81 | 148 => 200 | n => n, fun | n => n⟩
theorem lays212 : Go.Proofs.Lays.n212 Tryz.prog lays212_ren := {
  mixed := by kernel_rfl
  f212 := Tryz.func110.trans (congrArg some (by kernel_rfl))
  f263 := Tryz.func119.trans (congrArg some (by kernel_rfl))
  f264 := Tryz.func120.trans (congrArg some (by kernel_rfl))
  t46 := Tryz.underlying186
  a46 := Tryz.isAgg186
  z46 := Tryz.sizeOf186
  v46 := Tryz.zeroValue186
  t51 := Tryz.underlying183
  a51 := Tryz.isAgg183
  z51 := Tryz.sizeOf183
  v51 := Tryz.zeroValue183
  t53 := Tryz.underlying81
  a53 := Tryz.isAgg81
  z53 := Tryz.sizeOf81
  v53 := Tryz.zeroValue81
  t146 := Tryz.underlying198
  a146 := Tryz.isAgg198
  z146 := Tryz.sizeOf198
  v146 := Tryz.zeroValue198
  t148 := Tryz.underlying200
  a148 := Tryz.isAgg200
  z148 := Tryz.sizeOf200
  v148 := Tryz.zeroValue200 }
theorem Mul_any (x y : Nat) (hx : x < 18446744073709551616) (hy : y < 18446744073709551616) (w : World) :
    Calls Tryz.prog 110 #[.int .u64 x, .int .u64 y] w fun e w' => e = .returned (.tuple #[.int .u64 ((x * y / 18446744073709551616 : Nat) : Int), .int .u64 ((x * y % 18446744073709551616 : Nat) : Int)]) ∧ w = w' :=
  (Any.bits_Mul lays212 x y hx hy w).mono fun _ _ h => ⟨h.1, h.2.symm⟩
theorem Mul_one (n : Nat) (hn : n ≤ 65536) (w : World) : Calls Tryz.prog 110 #[.int .u64 1, .int .u64 n] w fun e w' => e = .returned (.tuple #[.int .u64 0, .int .u64 n]) ∧ w = w' := by
  have h := Mul_any 1 n (by omega) (by omega) w
  rw [Nat.one_mul, Nat.div_eq_of_lt (by omega), Nat.mod_eq_of_lt (by omega)] at h
  exact h
end Go.Proofs.YtojlgfkjnkjcmaaGreatDoor

/-
  What the walks ask of the program's ways with open orders.
-/
namespace Go.Proofs.YtojlgfkjnkjcmaaGreatDoor

theorem hmix : Tryz.prog.follows .mixedOrders = true := by kernel_rfl
end Go.Proofs.YtojlgfkjnkjcmaaGreatDoor

