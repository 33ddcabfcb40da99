/-
  Texts of the proofs, one behind the other: SparseP, Sparse, SparseB, SparseR, SumP, SnapE, SnapF, GridBad, SnapG, SnapS.
-/
import Derived.Test.YtjnglcjofajcnaaGreatPartQ
import Derived.Test.YtjnglcjofajcnaaGreatPartA
import Derived.Test.YtjnglcjofajcnaaGreatPartK
import Derived.Test.YtjnglcjofajcnaaGreatPartM
import Derived.Test.YtjnglcjofajcnaaGreatPartO
import Derived.Deep.DeepCutAuto
import Derived.Test.YtjnglcjofajcnaaGreatPartS
/-
  sparse: what its squares hold (plain).
-/
namespace Go.Proofs.YtjnglcjofajcnaaGreat
open Go.RowKit
open Sy
set_option linter.unusedVariables false
set_option linter.unusedSimpArgs false
set_option maxRecDepth 100000
set_option maxHeartbeats 4000000

/-- the square of a power -/
def sqF (f : Nat → Nat → Int) : Nat → Nat → Nat → Int × Int
  | 0, x, y => (f x y, f x y)
  | k + 1, x, y => jn (jn (sqF f k x y) (sqF f k (x + 2 ^ k) y)) (jn (sqF f k x (y + 2 ^ k)) (sqF f k (x + 2 ^ k) (y + 2 ^ k)))
/-- the least and the greatest of some values -/
def IsR (S : Int → Prop) (p : Int × Int) : Prop := S p.1 ∧ S p.2 ∧ ∀ v, S v → p.1 ≤ v ∧ v ≤ p.2
theorem IsR.jn {S T U : Int → Prop} {p q : Int × Int} (hp : IsR S p) (hq : IsR T q) (hu : ∀ v, U v ↔ S v ∨ T v) : IsR U (jn p q) := by
  obtain ⟨a1, a2, a3⟩ := hp
  obtain ⟨b1, b2, b3⟩ := hq
  unfold Go.Proofs.YtjnglcjofajcnaaGreat.jn
  refine ⟨?_, ?_, fun v hv => ?_⟩
  · simp only
    rcases (show min p.1 q.1 = p.1 ∨ min p.1 q.1 = q.1 by omega) with e | e
    · rw [e]; exact (hu _).2 (.inl a1)
    · rw [e]; exact (hu _).2 (.inr b1)
  · simp only
    rcases (show max p.2 q.2 = p.2 ∨ max p.2 q.2 = q.2 by omega) with e | e
    · rw [e]; exact (hu _).2 (.inl a2)
    · rw [e]; exact (hu _).2 (.inr b2)
  · simp only
    rcases (hu v).1 hv with h | h
    · have := a3 v h; omega
    · have := b3 v h; omega
/-- the values of a square -/
def sqS (f : Nat → Nat → Int) (s x y : Nat) (v : Int) : Prop := ∃ a b, x ≤ a ∧ a < x + s ∧ y ≤ b ∧ b < y + s ∧ f a b = v
def bxS (f : Nat → Nat → Int) (x0 x1 y0 y1 : Nat) (v : Int) : Prop := ∃ a b, x0 ≤ a ∧ a < x1 ∧ y0 ≤ b ∧ b < y1 ∧ f a b = v
theorem sqF_is (f : Nat → Nat → Int) : ∀ k x y, IsR (bxS f x (x + 2 ^ k) y (y + 2 ^ k)) (sqF f k x y)
  | 0, x, y => by
    refine ⟨⟨x, y, by simp, by simp, by simp, by simp, rfl⟩, ⟨x, y, by simp, by simp, by simp, by simp, rfl⟩, ?_⟩
    rintro v ⟨a, b, h1, h2, h3, h4, rfl⟩
    have e1 : a = x := by simp at h2; omega
    have e2 : b = y := by simp at h4; omega
    subst e1 e2
    exact ⟨Int.le_refl _, Int.le_refl _⟩
  | k + 1, x, y => by
    have i1 := sqF_is f k x y
    have i2 := sqF_is f k (x + 2 ^ k) y
    have i3 := sqF_is f k x (y + 2 ^ k)
    have i4 := sqF_is f k (x + 2 ^ k) (y + 2 ^ k)
    have e : 2 ^ (k + 1) = 2 ^ k + 2 ^ k := by rw [Nat.pow_succ]; omega
    rw [e]
    unfold sqF
    generalize 2 ^ k = s at *
    have j1 : IsR (bxS f x (x + s + s) y (y + s)) (jn (sqF f k x y) (sqF f k (x + s) y)) := i1.jn i2 fun v => by
      constructor
      · rintro ⟨a, b, h1, h2, h3, h4, rfl⟩
        by_cases c : a < x + s
        · exact .inl ⟨a, b, by omega, by omega, by omega, by omega, rfl⟩
        · exact .inr ⟨a, b, by omega, by omega, by omega, by omega, rfl⟩
      · rintro (⟨a, b, h1, h2, h3, h4, rfl⟩ | ⟨a, b, h1, h2, h3, h4, rfl⟩)
        · exact ⟨a, b, by omega, by omega, by omega, by omega, rfl⟩
        · exact ⟨a, b, by omega, by omega, by omega, by omega, rfl⟩
    have j2 : IsR (bxS f x (x + s + s) (y + s) (y + s + s)) (jn (sqF f k x (y + s)) (sqF f k (x + s) (y + s))) := i3.jn i4 fun v => by
      constructor
      · rintro ⟨a, b, h1, h2, h3, h4, rfl⟩
        by_cases c : a < x + s
        · exact .inl ⟨a, b, by omega, by omega, by omega, by omega, rfl⟩
        · exact .inr ⟨a, b, by omega, by omega, by omega, by omega, rfl⟩
      · rintro (⟨a, b, h1, h2, h3, h4, rfl⟩ | ⟨a, b, h1, h2, h3, h4, rfl⟩)
        · exact ⟨a, b, by omega, by omega, by omega, by omega, rfl⟩
        · exact ⟨a, b, by omega, by omega, by omega, by omega, rfl⟩
    refine j1.jn j2 fun v => ?_
    rw [show x + (s + s) = x + s + s by omega, show y + (s + s) = y + s + s by omega]
    constructor
    · rintro ⟨a, b, h1, h2, h3, h4, rfl⟩
      by_cases c : b < y + s
      · exact .inl ⟨a, b, by omega, by omega, by omega, by omega, rfl⟩
      · exact .inr ⟨a, b, by omega, by omega, by omega, by omega, rfl⟩
    · rintro (⟨a, b, h1, h2, h3, h4, rfl⟩ | ⟨a, b, h1, h2, h3, h4, rfl⟩)
      · exact ⟨a, b, by omega, by omega, by omega, by omega, rfl⟩
      · exact ⟨a, b, by omega, by omega, by omega, by omega, rfl⟩
theorem mem_vRows {f : Nat → Nat → Int} {x0 nx y0 ny : Nat} {v : Int} : v ∈ vRows f x0 nx y0 ny ↔ bxS f x0 (x0 + nx) y0 (y0 + ny) v := by
  unfold vRows vRow bxS
  simp only [List.mem_flatMap, List.mem_range, List.mem_map]
  constructor
  · rintro ⟨b, hb, a, ha, rfl⟩
    exact ⟨x0 + a, y0 + b, by omega, by omega, by omega, by omega, rfl⟩
  · rintro ⟨a, b, h1, h2, h3, h4, rfl⟩
    exact ⟨b - y0, by omega, a - x0, by omega, by rw [show x0 + (a - x0) = a by omega, show y0 + (b - y0) = b by omega]⟩
theorem rng_is {f : Nat → Nat → Int} {x0 nx y0 ny : Nat} {p : Int × Int} (h : IsR (bxS f x0 (x0 + nx) y0 (y0 + ny)) p) : (mnL (vRows f x0 nx y0 ny), mxL (vRows f x0 nx y0 ny)) = p := by
  obtain ⟨h1, h2, h3⟩ := h
  rw [mnL_eq (mem_vRows.2 h1) fun v hv => (h3 v (mem_vRows.1 hv)).1, mxL_eq (mem_vRows.2 h2) fun v hv => (h3 v (mem_vRows.1 hv)).2]
/-- what a walk by squares has seen -/
structure Seen (f : Nat → Nat → Int) (x0 x1 y0 y1 s x y : Nat) (p : Int × Int) : Prop where
  lo : bxS f x0 x1 y0 y1 p.1
  hi : bxS f x0 x1 y0 y1 p.2
  all : ∀ a b, x0 ≤ a → a < x1 → y0 ≤ b → b < y1 → (b < y ∨ b < y + s ∧ a < x) → p.1 ≤ f a b ∧ f a b ≤ p.2
theorem Seen.start {f : Nat → Nat → Int} {x0 x1 y0 y1 k : Nat} (hx : x0 + 2 ^ k ≤ x1) (hy : y0 + 2 ^ k ≤ y1) : Seen f x0 x1 y0 y1 (2 ^ k) x0 y0 (sqF f k x0 y0) := by
  obtain ⟨h1, h2, h3⟩ := sqF_is f k x0 y0
  have up : ∀ v, bxS f x0 (x0 + 2 ^ k) y0 (y0 + 2 ^ k) v → bxS f x0 x1 y0 y1 v := by
    rintro v ⟨a, b, g1, g2, g3, g4, rfl⟩
    exact ⟨a, b, by omega, by omega, by omega, by omega, rfl⟩
  exact ⟨up _ h1, up _ h2, fun a b g1 g2 g3 g4 g5 => by omega⟩
theorem Seen.step {f : Nat → Nat → Int} {x0 x1 y0 y1 k x y : Nat} {p : Int × Int} (h : Seen f x0 x1 y0 y1 (2 ^ k) x y p) (hx0 : x0 ≤ x) (hx : x + 2 ^ k ≤ x1) (hy0 : y0 ≤ y) (hy : y + 2 ^ k ≤ y1) : Seen f x0 x1 y0 y1 (2 ^ k) (x + 2 ^ k) y (jn p (sqF f k x y)) := by
  obtain ⟨h1, h2, h3⟩ := sqF_is f k x y
  have up : ∀ v, bxS f x (x + 2 ^ k) y (y + 2 ^ k) v → bxS f x0 x1 y0 y1 v := by
    rintro v ⟨a, b, g1, g2, g3, g4, rfl⟩
    exact ⟨a, b, by omega, by omega, by omega, by omega, rfl⟩
  generalize sqF f k x y = q at *
  unfold jn
  refine ⟨?_, ?_, fun a b g1 g2 g3 g4 g5 => ?_⟩
  · simp only
    rcases (show min p.1 q.1 = p.1 ∨ min p.1 q.1 = q.1 by omega) with e | e
    · rw [e]; exact h.lo
    · rw [e]; exact up _ h1
  · simp only
    rcases (show max p.2 q.2 = p.2 ∨ max p.2 q.2 = q.2 by omega) with e | e
    · rw [e]; exact h.hi
    · rw [e]; exact up _ h2
  · simp only
    by_cases c : b < y ∨ b < y + 2 ^ k ∧ a < x
    · have := h.all a b g1 g2 g3 g4 c; omega
    · have := h3 (f a b) ⟨a, b, by omega, by omega, by omega, by omega, rfl⟩; omega
theorem Seen.weak {f : Nat → Nat → Int} {x0 x1 y0 y1 s x x' y : Nat} {p : Int × Int} (h : Seen f x0 x1 y0 y1 s x y p) (hx : x' ≤ x) : Seen f x0 x1 y0 y1 s x' y p := ⟨h.lo, h.hi, fun a b g1 g2 g3 g4 g5 => h.all a b g1 g2 g3 g4 (by omega)⟩
theorem Seen.row {f : Nat → Nat → Int} {x0 x1 y0 y1 s y y' : Nat} {p : Int × Int} (h : Seen f x0 x1 y0 y1 s x1 y p) (hy : y' ≤ y + s) : Seen f x0 x1 y0 y1 s x0 y' p := ⟨h.lo, h.hi, fun a b g1 g2 g3 g4 g5 => h.all a b g1 g2 g3 g4 (by omega)⟩
theorem Seen.done {f : Nat → Nat → Int} {x0 x1 y0 y1 s y : Nat} {p : Int × Int} (h : Seen f x0 x1 y0 y1 s x1 y p) (hy : y1 ≤ y + s) : IsR (bxS f x0 x1 y0 y1) p := ⟨h.lo, h.hi, by
  rintro v ⟨a, b, g1, g2, g3, g4, rfl⟩
  exact h.all a b g1 g2 g3 g4 (by omega)⟩
end Go.Proofs.YtjnglcjofajcnaaGreat

/-
  sparse: the table in memory; log, join, square, Square.
-/
namespace Go.Proofs.YtjnglcjofajcnaaGreat
open Go.RowKit
open Sy
set_option linter.unusedVariables false
set_option linter.unusedSimpArgs false
set_option maxRecDepth 100000
set_option maxHeartbeats 4000000

/-- how many squares stand across -/
def spAc (W k : Nat) : Nat := W + 1 - 2 ^ k
def spN (W H k : Nat) : Nat := spAc W k * spAc H k
def spC (W : Nat) (f : Nat → Nat → Int) (k i : Nat) : Int × Int := sqF f k (i % spAc W k) (i / spAc W k)
def spV (W H : Nat) (b c : Nat → Nat) (L : Nat) : List Value := (List.range L).flatMap fun k => [.int .i64 ((spAc W k : Nat) : Int), .slice (some ⟨b k, 0, none⟩) (spN W H k) (c k)]
abbrev spRw (W H : Nat) (f : Nat → Nat → Int) (b c : Nat → Nat) (k : Nat) : HP := rowH (.slice (some ⟨b k, 0, none⟩) (spN W H k) (c k)) (spN W H k) 47 2 (celsF (spN W H k) (spC W f k))
def spRs (W H : Nat) (f : Nat → Nat → Int) (b c : Nat → Nat) (L : Nat) : List HP := (List.range L).map (spRw W H f b c)
abbrev spHd (tb W H lb L d : Nat) : HP := blkH tb 131 #[.int .i64 W, .int .i64 H, .slice (some ⟨lb, 0, none⟩) L d]
abbrev spRr (W H lb L d : Nat) (b c : Nat → Nat) : HP := rowH (.slice (some ⟨lb, 0, none⟩) L d) L 133 2 (spV W H b c L)
def sparseQ (tb W H L : Nat) (f : Nat → Nat → Int) (x : Nat × Nat × (Nat → Nat) × (Nat → Nat)) : List HP := spHd tb W H x.1 L x.2.1 :: spRr W H x.1 L x.2.1 x.2.2.1 x.2.2.2 :: spRs W H f x.2.2.1 x.2.2.2 L
/-- how many steps -/
def sqL (W H : Nat) : Nat := Nat.log2 (min W H) + 1
/-- a table of squares -/
def sparseH (tb W H : Nat) (f : Nat → Nat → Int) : HP := boxH (sparseQ tb W H (sqL W H) f)
theorem spV_len (W H : Nat) (b c : Nat → Nat) : ∀ L, (spV W H b c L).length = L * 2
  | 0 => rfl
  | L + 1 => by
    have := spV_len W H b c L
    unfold spV at *
    rw [List.range_succ, List.flatMap_append, List.length_append, this]
    simp; omega
theorem spV_at (W H : Nat) (b c : Nat → Nat) : ∀ L k, k < L → (spV W H b c L)[k * 2]? = some (.int .i64 ((spAc W k : Nat) : Int)) ∧ (spV W H b c L)[k * 2 + 1]? = some (.slice (some ⟨b k, 0, none⟩) (spN W H k) (c k))
  | 0, k, h => by omega
  | L + 1, k, h => by
    have hl := spV_len W H b c L
    have e : spV W H b c (L + 1) = spV W H b c L ++ [.int .i64 ((spAc W L : Nat) : Int), .slice (some ⟨b L, 0, none⟩) (spN W H L) (c L)] := by
      unfold spV
      rw [List.range_succ, List.flatMap_append]
      simp
    rw [e]
    rcases Nat.lt_or_ge k L with g | g
    · obtain ⟨h1, h2⟩ := spV_at W H b c L k g
      rw [List.getElem?_append_left (by omega), List.getElem?_append_left (by omega)]
      exact ⟨h1, h2⟩
    · have : k = L := by omega
      subst this
      rw [List.getElem?_append_right (by omega), List.getElem?_append_right (by omega), hl]
      simp
theorem spV_succ {W H L g d : Nat} {b c : Nat → Nat} : spV W H (fun j => if j = L then g else b j) (fun j => if j = L then d else c j) (L + 1) = spV W H b c L ++ [.int .i64 ((spAc W L : Nat) : Int), .slice (some ⟨g, 0, none⟩) (spN W H L) d] := by
  unfold spV
  rw [List.range_succ, List.flatMap_append]
  congr 1
  · apply flatMap_congr'
    intro k hk
    have := List.mem_range.1 hk
    simp only [if_neg (show ¬ k = L by omega)]
  · simp
theorem spRs_succ {W H L g d : Nat} {f : Nat → Nat → Int} {b c : Nat → Nat} : spRs W H f (fun j => if j = L then g else b j) (fun j => if j = L then d else c j) (L + 1) = spRs W H f b c L ++ [rowH (.slice (some ⟨g, 0, none⟩) (spN W H L) d) (spN W H L) 47 2 (celsF (spN W H L) (spC W f L))] := by
  unfold spRs
  rw [List.range_succ, List.map_append]
  congr 1
  · apply List.map_congr_left
    intro k hk
    have := List.mem_range.1 hk
    simp only [spRw, if_neg (show ¬ k = L by omega)]
  · simp [spRw]
theorem spV_one (W H : Nat) (b c : Nat → Nat) (L : Nat) : ∀ u ∈ spV W H b c L, u.oneCell' = true := by
  intro u hu
  unfold spV at hu
  obtain ⟨k, _, hk⟩ := List.mem_flatMap.1 hu
  simp at hk
  rcases hk with e | e <;> subst e <;> rfl
structure SpAt (w : World) (tb lb d : Nat) (b c : Nat → Nat) (W H L : Nat) (f : Nat → Nat → Int) : Prop where
  wd : w.cell? ⟨tb, 0, none⟩ = some (.int .i64 (W : Int))
  ht : w.cell? ⟨tb, 1, none⟩ = some (.int .i64 (H : Int))
  sl : w.cell? ⟨tb, 2, none⟩ = some (.slice (some ⟨lb, 0, none⟩) L d)
  st : ∀ k, k < L → w.cell? ⟨lb, k * 2, none⟩ = some (.int .i64 ((spAc W k : Nat) : Int)) ∧ w.cell? ⟨lb, k * 2 + 1, none⟩ = some (.slice (some ⟨b k, 0, none⟩) (spN W H k) (c k))
  ce : ∀ k x y, k < L → x < spAc W k → y < spAc H k → w.cell? ⟨b k, (y * spAc W k + x) * 2, none⟩ = some (.int .i64 (sqF f k x y).1) ∧ w.cell? ⟨b k, (y * spAc W k + x) * 2 + 1, none⟩ = some (.int .i64 (sqF f k x y).2)
theorem spN_lt {W H k x y : Nat} (hx : x < spAc W k) (hy : y < spAc H k) : y * spAc W k + x < spN W H k := by
  unfold spN
  have h1 : y * spAc W k + x < (y + 1) * spAc W k := by rw [Nat.add_mul, Nat.one_mul]; omega
  have h2 : (y + 1) * spAc W k ≤ spAc H k * spAc W k := Nat.mul_le_mul_right _ hy
  rw [Nat.mul_comm (spAc W k)]
  omega
theorem sp_at {w : World} {tb lb d W H L : Nat} {b c : Nat → Nat} {f : Nat → Nat → Int} (s1 : Sat (spHd tb W H lb L d) w) (s2 : Sat (spRr W H lb L d b c) w) (s3 : ∀ k, k < L → Sat (spRw W H f b c k) w) : SpAt w tb lb d b c W H L f := by
  refine ⟨(blk_sat s1).cell 0, (blk_sat s1).cell 1, (blk_sat s1).cell 2, fun k hk => ?_, fun k x y hk hx hy => ?_⟩
  · obtain ⟨h1, h2⟩ := spV_at W H b c L k hk
    exact ⟨row_at s2 (by omega) h1, row_at s2 (by omega) h2⟩
  · have hi := spN_lt hx hy
    obtain ⟨h1, h2⟩ := celsF_get (c := spC W f k) hi
    have e : spC W f k (y * spAc W k + x) = sqF f k x y := by
      unfold spC
      rw [Nat.mul_comm, Nat.mul_add_mod, Nat.mod_eq_of_lt hx, Nat.mul_add_div (by omega), Nat.div_eq_of_lt hx, Nat.add_zero]
    rw [e] at h1 h2
    exact ⟨row_at (s3 k hk) (by omega) h1, row_at (s3 k hk) (by omega) h2⟩
theorem sparse_open {w : World} {tb W H : Nat} {f : Nat → Nat → Int} (s : Sat (sparseH tb W H f) w) : ∃ lb d b c, SpAt w tb lb d b c W H (sqL W H) f := by
  obtain ⟨⟨lb, d, b, c⟩, s⟩ := Sat.unbox s
  refine ⟨lb, d, b, c, sp_at (s.in_ 0 rfl) (s.in_ 1 rfl) fun k hk => s.in_ (k + 2) ?_⟩
  show (spRs W H f b c (sqL W H))[k]? = _
  simp [spRs, hk]
theorem SpAt.up {w w' : World} {tb lb d W H L : Nat} {b c : Nat → Nat} {f : Nat → Nat → Int} (h : SpAt w tb lb d b c W H L f) (s : Sat (was w) w') : SpAt w' tb lb d b c W H L f :=
  ⟨was_cell s h.wd, was_cell s h.ht, was_cell s h.sl, fun k hk => ⟨was_cell s (h.st k hk).1, was_cell s (h.st k hk).2⟩, fun k x y h1 h2 h3 => ⟨was_cell s (h.ce k x y h1 h2 h3).1, was_cell s (h.ce k x y h1 h2 h3).2⟩⟩
theorem sSpJoin (a b : Int × Int) (R : HP) : PureR Tryz.prog R 55 [rngV a.1 a.2, rngV b.1 b.2] (rngV (jn a b).1 (jn a b).2) := by
  refine fn_of_run0 false Tryz.func55 rfl hmix rfl fun w0 => ?_
  conv => whnf
  exact ⟨trivial, fin_pure rfl rfl⟩
theorem bitLen_log {n : Nat} (h0 : 0 < n) (h1 : n ≤ 1024) : (Lib.bitLen n : Int) - 1 = ((Nat.log2 n : Nat) : Int) := by
  have aux : ∀ f n, 0 < n → n < 2 ^ f → Lib.bitLenAux f n = Nat.log2 n + 1 := by
    intro f
    induction f with
    | zero => intro n h0 h1; simp at h1; omega
    | succ f ih =>
      intro n h0 h1
      unfold Lib.bitLenAux
      rw [if_neg (by omega), Nat.log2_def]
      by_cases c : 2 ≤ n
      · rw [if_pos c, ih (n / 2) (by omega) (by rw [Nat.pow_succ] at h1; omega)]
        omega
      · rw [if_neg c]
        have : n / 2 = 0 := by omega
        rw [this]
        cases f <;> simp [Lib.bitLenAux]
  unfold Lib.bitLen
  rw [aux 64 n h0 (by omega)]
  omega
theorem sLog (n : Nat) (h0 : 0 < n) (h1 : n ≤ 1024) (R : HP) : PureR Tryz.prog R 54 [.int .i64 (n : Int)] (.int .i64 ((Nat.log2 n : Nat) : Int)) := by
  have hb := bitLen_log h0 h1
  have hlen : ∀ R', PureR Tryz.prog R' 83 [.int .u64 (n : Int)] (.int .i64 (Lib.bitLen n : Int)) := fun R' w hs => by
    refine (Len64_any (n : Int) w (by omega) (by omega)).mono ?_
    rintro e w' ⟨rfl, rfl⟩
    exact ⟨_, [], rfl, ⟨by rw [Int.toNat_natCast], rfl⟩, hs, Wd.refl _⟩
  have hu : IntKind.u64.wrap (n : Int) = (n : Int) := IntWalk.u64_in _ ⟨by omega, by omega⟩
  have hl : Nat.log2 n ≤ 1024 := Nat.le_trans (Nat.log2_le_self n) h1
  generalize Lib.bitLen n = L at *
  generalize Nat.log2 n = K at *
  refine fn_of_run0 false Tryz.func54 rfl hmix rfl fun w0 => ?_
  conv => whnf
  rw [hu]
  refine ⟨trivial, CallAt.pure (fun R' hR' => hlen R') ?_⟩
  conv => whnf
  exact ⟨⟨trivial, by unfold rng; omega⟩, fin_pure rfl (by rw [hb]; rfl)⟩
theorem spAc_le {W k : Nat} (hW : W ≤ 1024) : spAc W k ≤ 1024 := by
  have : 0 < 2 ^ k := Nat.pow_pos (by omega)
  unfold spAc
  omega
theorem sSq {R : HP} {tb lb d W H L k x y r u : Nat} {b c : Nat → Nat} {f : Nat → Nat → Int} (hW : W ≤ 1024) (hH : H ≤ 1024) (hk : k < L) (hL : L ≤ 11) (hx : x + r < spAc W k) (hy : y + u < spAc H k) (hR : ∀ w, Sat R w → SpAt w tb lb d b c W H L f) :
    PureR Tryz.prog R 56 [.pointer (some ⟨tb, 0, none⟩), .int .i64 (k : Int), .int .i64 (x : Int), .int .i64 (y : Int), .int .i64 (r : Int), .int .i64 (u : Int)] (rngV (jn (sqF f k x y) (sqF f k (x + r) (y + u))).1 (jn (sqF f k x y) (sqF f k (x + r) (y + u))).2) := by
  refine PureR.fix fun w hs => ?_
  have hF := hR w hs
  have hsl := fun w' (hw : Sat (was w) w') => (hF.up hw).sl
  have hst := fun w' (hw : Sat (was w) w') => (hF.up hw).st k hk
  have hc1 := fun w' (hw : Sat (was w) w') => (hF.up hw).ce k x y hk (by omega) (by omega)
  have hc2 := fun w' (hw : Sat (was w) w') => (hF.up hw).ce k (x + r) (y + u) hk hx hy
  have hi1 := spN_lt (W := W) (H := H) (k := k) (x := x) (y := y) (by omega) (by omega)
  have hi2 := spN_lt (W := W) (H := H) (k := k) hx hy
  have a1 := spAc_le (k := k) hW
  have a2 := spAc_le (k := k) hH
  have hN : spN W H k ≤ 1024 * 1024 := Nat.mul_le_mul a1 a2
  have e1 : (y : Int) * ((spAc W k : Nat) : Int) + (x : Int) = ((y * spAc W k + x : Nat) : Int) := by simp
  have e2 : ((y : Int) + (u : Int)) * ((spAc W k : Nat) : Int) + (x : Int) + (r : Int) = (((y + u) * spAc W k + (x + r) : Nat) : Int) := by simp [Int.add_assoc]
  have m1 : (y : Int) * ((spAc W k : Nat) : Int) = ((y * spAc W k : Nat) : Int) := by simp
  have m2 : ((y : Int) + (u : Int)) * ((spAc W k : Nat) : Int) = (((y + u) * spAc W k : Nat) : Int) := by simp
  have hj := fun R' => sSpJoin (sqF f k x y) (sqF f k (x + r) (y + u)) R'
  generalize sqF f k x y = p at *
  generalize sqF f k (x + r) (y + u) = q at *
  clear hF
  refine fn_of_run0 false Tryz.func56 rfl hmix rfl fun w0 => ?_
  conv => whnf
  refine ⟨trivial, LoadAt.cell (.slice (some ⟨lb, 0, none⟩) L d) rfl rfl (fun w hw => hsl w hw) ?_⟩
  conv => whnf
  refine ⟨⟨trivial, by omega⟩, LoadAt.agg [.int .i64 ((spAc W k : Nat) : Int), .slice (some ⟨b k, 0, none⟩) (spN W H k) (c k)] rfl rfl rfl (fun w hw j v hj => ?_) ?_⟩
  · rw [Int.toNat_natCast, Nat.zero_add]
    rcases j with _ | _ | j
    · simp at hj; rw [← hj]; exact (hst w hw).1
    · simp at hj; rw [← hj]; exact (hst w hw).2
    · simp at hj
  conv => whnf
  refine ⟨trivial, RegAt.tail 24 hmix (by kernel_rfl) ?_⟩
  conv => whnf
  refine ⟨⟨⟨⟨trivial, by unfold rng; rw [m1]; omega⟩, by unfold rng; rw [e1]; omega⟩, by rw [e1]; omega, by rw [e1]; omega⟩, LoadAt.agg [.int .i64 p.1, .int .i64 p.2] rfl rfl rfl (fun w hw j v hj => ?_) ?_⟩
  · rw [e1, Int.toNat_natCast, Nat.zero_add]
    rcases j with _ | _ | j
    · simp at hj; rw [← hj]; exact (hc1 w hw).1
    · simp at hj; rw [← hj]; exact (hc1 w hw).2
    · simp at hj
  conv => whnf
  refine ⟨⟨⟨⟨⟨⟨trivial, by unfold rng; omega⟩, by unfold rng; rw [m2]; omega⟩, by unfold rng; rw [m2]; omega⟩, by unfold rng; rw [e2]; omega⟩, by rw [e2]; omega, by rw [e2]; omega⟩, LoadAt.agg [.int .i64 q.1, .int .i64 q.2] rfl rfl rfl (fun w hw j v hj => ?_) ?_⟩
  · rw [e2, Int.toNat_natCast, Nat.zero_add]
    rcases j with _ | _ | j
    · simp at hj; rw [← hj]; exact (hc2 w hw).1
    · simp at hj; rw [← hj]; exact (hc2 w hw).2
    · simp at hj
  conv => whnf
  refine ⟨trivial, CallAt.pure (fun R' hR' => hj R') ?_⟩
  conv => whnf
  refine ⟨trivial, ?_⟩
  conv => whnf
  exact ⟨trivial, fin_pure rfl rfl⟩
end Go.Proofs.YtjnglcjofajcnaaGreat

/-
  sparse.Build: the table of squares of a grid.
-/
namespace Go.Proofs.YtjnglcjofajcnaaGreat
open Go.RowKit
open Sy
set_option linter.unusedVariables false
set_option linter.unusedSimpArgs false
set_option maxRecDepth 100000
set_option maxHeartbeats 4000000

theorem spAc_zero (W : Nat) : spAc W 0 = W := by unfold spAc; simp
theorem spN_zero (W H : Nat) : spN W H 0 = W * H := by unfold spN; rw [spAc_zero, spAc_zero]
theorem spC_zero {W i : Nat} {f : Nat → Nat → Int} : spC W f 0 i = (f (i % W) (i / W), f (i % W) (i / W)) := by
  unfold spC
  rw [spAc_zero]
  rfl
theorem celsF_succ (n : Nat) (c : Nat → Int × Int) : celsF (n + 1) c = celsF n c ++ [.int .i64 (c n).1, .int .i64 (c n).2] := by simp [celsF, cel, List.range_succ]
theorem spRs_at {W H L k : Nat} {f : Nat → Nat → Int} {b c : Nat → Nat} (h : k < L) : (spRs W H f b c L)[k]? = some (spRw W H f b c k) := by simp [spRs, h]
theorem spC_succ {W k x y : Nat} {f : Nat → Nat → Int} (hx : x < spAc W (k + 1)) : spC W f (k + 1) (spAc W (k + 1) * y + x) = jn (jn (sqF f k x y) (sqF f k (x + 2 ^ k) y)) (jn (sqF f k x (y + 2 ^ k)) (sqF f k (x + 2 ^ k) (y + 2 ^ k))) := by
  unfold spC
  rw [Nat.mul_add_mod, Nat.mod_eq_of_lt hx, Nat.mul_add_div (by omega), Nat.div_eq_of_lt hx, Nat.add_zero]
  rfl
structure SpB where
  k : Nat
  tb : Nat
  lb : Nat
  d : Nat
  b : Nat → Nat
  c : Nat → Nat
theorem sSBuild {R : HP} {gb W H : Nat} {f : Nat → Nat → Int} (hR : ∀ w, Sat R w → GridAt w gb W H f) :
    FnR Tryz.prog R 25 [.pointer (some ⟨gb, 0, none⟩)] [] fun r hs => ∃ tb, r = .tuple #[.pointer (some ⟨tb, 0, none⟩), .int .i64 0] ∧ hs = [sparseH tb W H f] := by
  refine FnR.of_sat fun w hs => ?_
  obtain ⟨w1, w2, h1, h2⟩ := (hR w hs).size
  clear hs
  have hval := fun (R' : HP) (h : ∀ w, Sat R' w → GridAt w gb W H f) => gValAll2 h
  have hn : W * H ≤ 1024 * 1024 := Nat.mul_le_mul w2 h2
  have hget : ∀ i, i < W * H → (ints (vRows f 0 W 0 H))[i]? = some (.int .i64 (f (i % W) (i / W))) := fun i h => vRows_ix w1 h
  have hc0 : ∀ i, spC W f 0 i = (f (i % W) (i / W), f (i % W) (i / W)) := fun i => spC_zero
  have hn0 := spN_zero W H
  have ha0 := spAc_zero W
  generalize vRows f 0 W 0 H = V at *
  generalize W * H = n at *
  have hK : ∃ K : Nat, K = Nat.log2 (min W H) := ⟨_, rfl⟩
  obtain ⟨K, hK⟩ := hK
  have hmi : min (W : Int) (H : Int) = ((min W H : Nat) : Int) := by omega
  have hlog := fun R' => sLog (min W H) (by omega) (by omega) R'
  rw [← hK] at hlog
  have hpow : ∀ k, k < K → 2 * 2 ^ k ≤ W ∧ 2 * 2 ^ k ≤ H := fun k hk => by
    have h1 : 2 ^ K ≤ min W H := by rw [hK]; exact Nat.log2_self_le (by omega)
    have h2 : 2 ^ (k + 1) ≤ 2 ^ K := Nat.pow_le_pow_right (by omega) hk
    rw [Nat.pow_succ] at h2
    omega
  have hKs : K ≤ 1024 := by
    rw [hK]
    exact Nat.le_trans (Nat.log2_le_self _) (by omega)
  have hLK : sqL W H = K + 1 := by unfold sqL; rw [hK]
  clear hK
  generalize min W H = mi at *
  have hshut : ∀ tb lb d b c h, sepL (spHd tb W H lb (K + 1) d :: spRr W H lb (K + 1) d b c :: spRs W H f b c (K + 1)) R h → sepL [sparseH tb W H f] R h := fun tb lb d b c h s => by
    refine boxH_shut (parts := sparseQ tb W H (sqL W H) f) (lb, d, b, c) ?_
    rw [List.append_nil, hLK]
    exact s
  refine fn_of_run0 false Tryz.func25 rfl hmix rfl fun w0 => ?_
  conv => whnf
  refine ⟨trivial, CallAt.pure (fun R' hR' => gSize_p fun w s => hR w (hR' w s)) ?_⟩
  conv => whnf
  refine ⟨trivial, CallAt.pure (fun R' hR' => gAll_p fun w s => hR w (hR' w s)) ?_⟩
  conv => whnf
  refine ⟨trivial, CallAt.fn (pre := []) [] (fun h s => s) (fun R' hR' => hval R' fun w s => hR w (hR' w s)) ?_⟩
  rintro r hs ⟨vb, vc, rfl, rfl⟩
  conv => whnf
  refine ⟨trivial, OpAt.make n 2 (celsF n fun _ => (0, 0)) rfl rfl rfl rfl rfl rfl rfl rfl (made_rng _) (by show 16 * n ≤ _; omega) (by simp only [maxLen]; omega) fun g => ?_⟩
  conv => whnf
  refine ⟨trivial, LoopAt.heap (α := Nat × (Nat → Int × Int)) [4, 5, 6, 9, 42, 43] (fun a => [(44, .v (.int .i64 (a.1 : Int)))]) (fun a => [rowH (.slice (some ⟨g, 0, none⟩) n n) n 47 2 (celsF n a.2), rowH (.slice (some ⟨vb, 0, none⟩) n vc) n 2 1 (ints V)]) (fun a => a.1 ≤ n ∧ ∀ j, j < a.1 → a.2 j = spC W f 0 j) (fun a => n - a.1) (0, fun _ => (0, 0)) ⟨Nat.zero_le _, fun j h => absurd h (Nat.not_lt_zero _)⟩ rfl ⟨⟨rfl, rfl⟩, trivial⟩ ⟨⟨rfl, rfl⟩, ⟨rfl, rfl⟩, ⟨rfl, rfl⟩, ⟨rfl, rfl⟩, ⟨rfl, rfl⟩, ⟨rfl, rfl⟩, trivial⟩ ⟨⟨rfl, rfl, rfl, rfl⟩, ⟨rfl, rfl, rfl, rfl⟩, trivial⟩ (fun h s => sub_same s) ?_⟩
  rintro ⟨i, c⟩ ⟨hi, hc⟩
  simp only at hi hc
  conv => whnf
  refine ⟨fun h => ?_, fun h => ?_⟩
  · have g1 : i < n := by simpa using h
    have hv := hget i g1
    have hci := hc0 i
    generalize f (i % W) (i / W) = v at *
    have hput := celsF_put (c := c) (v, v) g1
    conv => whnf
    refine ⟨⟨trivial, by omega⟩, LoadAt.cell (.int .i64 v) rfl rfl (fun w hw => by
      have := row_at (hw.in_ 1 rfl) (by omega) hv
      rw [Int.toNat_natCast]; simpa using this) ?_⟩
    conv => whnf
    refine ⟨⟨trivial, by simp only; omega, by simp only; omega⟩, OpAt.store g (0 + ((i : Nat) : Int).toNat * 2) (rngV v v) _ rfl (fun h s => s) rfl rfl rfl rfl rfl (by simp [Value.cells, Value.oneCell']) (fun h r => row_put (by simp [Value.cells]; omega) r) ?_⟩
    conv => whnf
    refine ⟨⟨trivial, by unfold rng; simp only; omega⟩, .mk (i + 1, upd c i (v, v)) ⟨by simp only; omega, fun j hj => ?_⟩ (by simp only; omega) (Le.of (Nat.le_of_ble_eq_true rfl) (Nat.zero_le _) ⟨⟨rfl, rfl⟩, ⟨rfl, rfl⟩, ⟨rfl, rfl⟩, ⟨rfl, rfl⟩, ⟨rfl, rfl⟩, ⟨rfl, rfl⟩, ⟨rfl, rfl⟩, trivial⟩ ⟨⟨rfl, rfl, rfl, rfl⟩, ⟨rfl, rfl, rfl, rfl⟩, trivial⟩ fun h s => sub_same ?_)⟩
    · simp only at hj
      show upd c i (v, v) j = _
      unfold upd
      by_cases e : j = i
      · rw [if_pos e, e, hci]
      · rw [if_neg e]; exact hc j (by omega)
    show sepL [rowH (.slice (some ⟨g, 0, none⟩) n n) n 47 2 (celsF n (upd c i (v, v))), _] _ h
    rw [← hput]
    have e3 : (0 + ((i : Nat) : Int).toNat * 2) = i * 2 := by omega
    rw [← e3]
    exact s
  · have g1 : i = n := by simp at h; omega
    subst g1
    have hcc : celsF i c = celsF i (spC W f 0) := celsF_congr hc
    rw [hcc]
    clear hcc hc
    conv => whnf
    refine ⟨trivial, RegAt.groups0 [([.T 0, .T 1, .T 2, .T 3, .T 4, .T 5, .H 6, .H 7], 8), ([.T 8], 9), ([.T 9], 10), ([.H 10], 11)] hmix (by kernel_rfl) ?_⟩
    conv => whnf
    refine ⟨trivial, OpAt.lit [.agg #[.int .i64 W, .slice (some ⟨g, 0, none⟩) i i]] 2 rfl rfl rfl rfl rfl (by decide) rfl rfl rfl (by simp [Value.cells]) rfl (by decide) fun g3 => ?_⟩
    conv => whnf
    refine ⟨trivial, ⟨⟨rfl, rfl⟩, fun h s => sub_nil s⟩, ?_⟩
    conv => whnf
    refine ⟨trivial, OpAt.append1 (.slice none 0 0) 0 2 32 [] [.int .i64 W, .slice (some ⟨g, 0, none⟩) i i] (some ⟨g3, 0, none⟩) 1 1 [rowH (.slice (some ⟨g3, 0, none⟩) 1 1) 1 133 2 (cellsOf [.agg #[.int .i64 W, .slice (some ⟨g, 0, none⟩) i i]]), rowH (.slice (some ⟨g, 0, none⟩) i i) i 47 2 (celsF i (spC W f 0)), rowH (.slice (some ⟨vb, 0, none⟩) i vc) i 2 1 (ints V)] rfl (fun h s => row_nil (R := sepL _ _) _ _ s) rfl rfl rfl rfl rfl rfl rfl rfl rfl (by decide) (fun w hw => rowH_reads rfl (Sat.left hw)) (by simp [Value.oneCell']) (by decide) (by decide) (by decide) fun B' d' => ?_⟩
    conv => whnf
    refine ⟨trivial, ⟨⟨rfl, rfl⟩, fun h s => sub_nil s⟩, ?_⟩
    conv => whnf
    refine ⟨trivial, ?_⟩
    conv => whnf
    rw [hmi]
    conv => whnf
    refine ⟨trivial, CallAt.pure (fun R' hR' => hlog R') ?_⟩
    conv => whnf
    refine ⟨trivial, LoopAt.begins (α := SpB) [4, 5, 70] (fun a => [(6, .v (.pointer (some ⟨a.tb, 0, none⟩))), (71, .v (.int .i64 (a.k : Int)))]) (fun a => []) (fun a => spHd a.tb W H a.lb (a.k + 1) a.d :: spRr W H a.lb (a.k + 1) a.d a.b a.c :: spRs W H f a.b a.c (a.k + 1)) (fun a => a.k ≤ K) (fun a => K - a.k) (Begin.expose 0 ?_) ?_⟩
    · conv => whnf
      intro tb _
      refine Begin.le ?_ ⟨⟨0, tb, B', d', fun _ => g, fun _ => i⟩, Nat.zero_le _, rfl⟩
      refine Le.of (Nat.le_of_ble_eq_true rfl) (Nat.zero_le _) ⟨⟨rfl, rfl⟩, ⟨rfl, rfl⟩, ⟨rfl, rfl⟩, ⟨rfl, rfl⟩, ⟨rfl, rfl⟩, trivial⟩ trivial fun h s => ?_
      obtain ⟨h3, e3, s3⟩ := sub_tail (sepL_pull 2 s)
      obtain ⟨h4, e4, s4⟩ := sub_tail (sepL_pull 3 s3)
      refine ⟨h4, fun i o u => e3 i o (e4 i o u), ?_⟩
      have ev : spV W H (fun _ => g) (fun _ => i) 1 = [.int .i64 W, .slice (some ⟨g, 0, none⟩) i i] := by
        show [Value.int .i64 ((spAc W 0 : Nat) : Int), .slice (some ⟨g, 0, none⟩) (spN W H 0) i] = _
        rw [ha0, hn0]
      show sepL [spHd tb W H B' 1 d', spRr W H B' 1 d' (fun _ => g) (fun _ => i), rowH (.slice (some ⟨g, 0, none⟩) (spN W H 0) i) (spN W H 0) 47 2 (celsF (spN W H 0) (spC W f 0))] R h4
      unfold spRr
      rw [ev, hn0]
      exact s4
    · rintro ⟨k, tb, lb, d, b, c⟩ hk
      simp only at hk
      conv => whnf
      refine ⟨fun h4 => ?_, fun h4 => ?_⟩
      · have g4 : k < K := by simpa using h4
        obtain ⟨p1, p2⟩ := hpow k g4
        have hk9 : k ≤ 9 := (Nat.pow_le_pow_iff_right (a := 2) (by decide)).1 (show 2 ^ k ≤ 2 ^ 9 by omega)
        have es : (1 : Int) * 2 ^ ((k : Nat) : Int).toNat = ((2 ^ k : Nat) : Int) := by simp
        have ea : (W : Int) - 2 * ((2 ^ k : Nat) : Int) + 1 = ((spAc W (k + 1) : Nat) : Int) := by unfold spAc; rw [Nat.pow_succ]; omega
        have eb : (H : Int) - 2 * ((2 ^ k : Nat) : Int) + 1 = ((spAc H (k + 1) : Nat) : Int) := by unfold spAc; rw [Nat.pow_succ]; omega
        have em : ((spAc W (k + 1) : Nat) : Int) * ((spAc H (k + 1) : Nat) : Int) = ((spN W H (k + 1) : Nat) : Int) := by unfold spN; simp
        have l1 := spAc_le (k := k + 1) w2
        have l2 := spAc_le (k := k + 1) h2
        have lN : spN W H (k + 1) ≤ 1024 * 1024 := Nat.mul_le_mul l1 l2
        have hak : spAc W k = spAc W (k + 1) + 2 ^ k := by unfold spAc; rw [Nat.pow_succ]; omega
        have hbk : spAc H k = spAc H (k + 1) + 2 ^ k := by unfold spAc; rw [Nat.pow_succ]; omega
        have hsc := fun x y (h : x < spAc W (k + 1)) => spC_succ (f := f) (y := y) h
        have hilt : ∀ x y, x < spAc W (k + 1) → y < spAc H (k + 1) → spAc W (k + 1) * y + x < spN W H (k + 1) := fun x y hx hy => by
          have := spN_lt hx hy
          rw [Nat.mul_comm] at this
          exact this
        have he0 : List.take (0 * 2) (celsF (spN W H (k + 1)) fun _ => (0, 0)) = celsF (spAc W (k + 1) * 0) (spC W f (k + 1)) := by simp [celsF, cel]
        generalize 2 ^ k = s at *
        conv => whnf
        rw [es, ea, eb, em]
        refine ⟨⟨⟨⟨⟨⟨⟨⟨⟨trivial, ⟨by omega, by show ((k : Nat) : Int) ≤ 64; omega⟩, by unfold rng; omega⟩, ?_⟩, ?_⟩, ?_⟩, ?_⟩, ?_⟩, ?_⟩, ?_⟩, OpAt.makeCap 0 (spN W H (k + 1)) 2 (celsF (spN W H (k + 1)) fun _ => (0, 0)) rfl rfl rfl rfl rfl rfl rfl rfl (made_rng _) (by show 16 * _ ≤ _; omega) (by simp only [maxLen]; omega) (Nat.zero_le _) fun g1 => ?_⟩
        rotate_right
        · rw [he0]
          conv => whnf
          refine ⟨trivial, LoopAt.of (α := Nat × Nat × Nat) [4, 5, 6, 12, 13, 14, 16, 70, 71, 92] (fun a => [(93, .v (.int .i64 (a.1 : Int)))]) (fun a => [(2, 133, [.v (.int .i64 ((spAc W (k + 1) : Nat) : Int)), .v (.slice (some ⟨a.2.1, 0, none⟩) (spAc W (k + 1) * a.1) a.2.2)])])
            (fun a => rowH (.slice (some ⟨a.2.1, 0, none⟩) (spAc W (k + 1) * a.1) a.2.2) (spAc W (k + 1) * a.1) 47 2 (celsF (spAc W (k + 1) * a.1) (spC W f (k + 1))) :: spHd tb W H lb (k + 1) d :: spRr W H lb (k + 1) d b c :: spRs W H f b c (k + 1))
            (fun a => a.1 ≤ spAc H (k + 1)) (fun a => spAc H (k + 1) - a.1) (0, g1, spN W H (k + 1)) (Nat.zero_le _) (Le.of (Nat.le_of_ble_eq_true rfl) (Nat.zero_le _) ⟨⟨rfl, rfl⟩, ⟨rfl, rfl⟩, ⟨rfl, rfl⟩, ⟨rfl, rfl⟩, ⟨rfl, rfl⟩, ⟨rfl, rfl⟩, ⟨rfl, rfl⟩, ⟨rfl, rfl⟩, ⟨rfl, rfl⟩, ⟨rfl, rfl⟩, ⟨rfl, rfl⟩, trivial⟩ ⟨⟨rfl, rfl, rfl, rfl⟩, trivial⟩ fun h s => sub_same s) ?_⟩
          rintro ⟨y, A, q⟩ hy
          simp only at hy
          conv => whnf
          refine ⟨fun h5 => ?_, fun h5 => ?_⟩
          · have g5 : y < spAc H (k + 1) := by simpa using h5
            conv => whnf
            refine ⟨trivial, LoopAt.of (α := Nat × Nat × Nat) [4, 5, 6, 12, 13, 14, 16, 17, 70, 71, 92, 93, 96] (fun a => [(97, .v (.int .i64 (a.1 : Int)))]) (fun a => [(2, 133, [.v (.int .i64 ((spAc W (k + 1) : Nat) : Int)), .v (.slice (some ⟨a.2.1, 0, none⟩) (spAc W (k + 1) * y + a.1) a.2.2)])])
              (fun a => rowH (.slice (some ⟨a.2.1, 0, none⟩) (spAc W (k + 1) * y + a.1) a.2.2) (spAc W (k + 1) * y + a.1) 47 2 (celsF (spAc W (k + 1) * y + a.1) (spC W f (k + 1))) :: spHd tb W H lb (k + 1) d :: spRr W H lb (k + 1) d b c :: spRs W H f b c (k + 1))
              (fun a => a.1 ≤ spAc W (k + 1)) (fun a => spAc W (k + 1) - a.1) (0, A, q) (Nat.zero_le _) (Le.of (Nat.le_of_ble_eq_true rfl) (Nat.zero_le _) ⟨⟨rfl, rfl⟩, ⟨rfl, rfl⟩, ⟨rfl, rfl⟩, ⟨rfl, rfl⟩, ⟨rfl, rfl⟩, ⟨rfl, rfl⟩, ⟨rfl, rfl⟩, ⟨rfl, rfl⟩, ⟨rfl, rfl⟩, ⟨rfl, rfl⟩, ⟨rfl, rfl⟩, ⟨rfl, rfl⟩, ⟨rfl, rfl⟩, ⟨rfl, rfl⟩, trivial⟩ ⟨⟨rfl, rfl, rfl, rfl⟩, trivial⟩ fun h s => sub_same s) ?_⟩
            rintro ⟨x, A, q⟩ hx
            simp only at hx
            conv => whnf
            refine ⟨fun h6 => ?_, fun h6 => ?_⟩
            · have g6 : x < spAc W (k + 1) := by simpa using h6
              have hil := hilt x y g6 g5
              have hv := hsc x y g6
              have hq1 := fun (R' : HP) (h : ∀ w, Sat R' w → SpAt w tb lb d b c W H (k + 1) f) => sSq (x := x) (y := y) (r := s) (u := 0) w2 h2 (Nat.lt_succ_self k) (by omega) (by rw [hak]; omega) (by rw [hbk]; omega) h
              have hq2 := fun (R' : HP) (h : ∀ w, Sat R' w → SpAt w tb lb d b c W H (k + 1) f) => sSq (x := x) (y := y + s) (r := s) (u := 0) w2 h2 (Nat.lt_succ_self k) (by omega) (by rw [hak]; omega) (by rw [hbk]; omega) h
              have hj := fun R' => sSpJoin (jn (sqF f k x y) (sqF f k (x + s) y)) (jn (sqF f k x (y + s)) (sqF f k (x + s) (y + s))) R'
              have e7 : (y : Int) + (s : Int) = ((y + s : Nat) : Int) := by omega
              simp only [Nat.add_zero] at hq1 hq2
              rw [← hv] at hj
              generalize jn (sqF f k x y) (sqF f k (x + s) y) = v1 at *
              generalize jn (sqF f k x (y + s)) (sqF f k (x + s) (y + s)) = v2 at *
              have hcs := celsF_succ (spAc W (k + 1) * y + x) (spC W f (k + 1))
              generalize hix : spAc W (k + 1) * y + x = ix at *
              generalize spC W f (k + 1) ix = v at *
              conv => whnf
              refine ⟨trivial, RegAt.groups0 [([.T 0, .T 1, .T 2, .T 3, .T 4, .T 5, .T 6, .T 8, .T 9, .T 10, .T 11, .T 12, .T 13, .T 14, .H 7, .H 15, .H 16, .H 17], 18), ([.H 18], 19), ([.T 19], 20), ([.H 20], 21)] hmix (by kernel_rfl) ?_⟩
              conv => whnf
              refine ⟨⟨trivial, by unfold rng; simp only; omega⟩, CallAt.pure (fun R' hR' => hq1 R' fun w s => sp_at ((hR' w s).in_ 1 rfl) ((hR' w s).in_ 2 rfl) fun j hj => (hR' w s).in_ (j + 3) (spRs_at hj)) ?_⟩
              conv => whnf
              refine ⟨trivial, ⟨⟨rfl, rfl⟩, fun h s => sub_nil s⟩, ?_⟩
              conv => whnf
              rw [e7]
              refine ⟨trivial, CallAt.pure (fun R' hR' => hq2 R' fun w s => sp_at ((hR' w s).in_ 1 rfl) ((hR' w s).in_ 2 rfl) fun j hj => (hR' w s).in_ (j + 3) (spRs_at hj)) ?_⟩
              conv => whnf
              refine ⟨trivial, ⟨⟨rfl, rfl⟩, fun h s => sub_nil s⟩, ?_⟩
              conv => whnf
              refine ⟨trivial, CallAt.pure (fun R' hR' => hj R') ?_⟩
              conv => whnf
              refine ⟨trivial, ⟨⟨rfl, rfl⟩, fun h s => sub_nil s⟩, ?_⟩
              conv => whnf
              refine ⟨trivial, OpAt.lit [rngV v.1 v.2] 2 rfl rfl rfl rfl rfl (by decide) rfl rfl rfl (by simp [Value.cells]) rfl (by decide) fun g2 => ?_⟩
              conv => whnf
              refine ⟨trivial, ⟨⟨rfl, rfl⟩, fun h s => sub_nil s⟩, ?_⟩
              conv => whnf
              refine ⟨trivial, OpAt.append1 (.slice (some ⟨A, 0, none⟩) ix q) ix 2 16 (celsF ix (spC W f (k + 1))) [.int .i64 v.1, .int .i64 v.2] (some ⟨g2, 0, none⟩) 1 1 _ rfl (fun h s => sepL_pull 1 s) rfl rfl rfl rfl rfl rfl rfl rfl rfl (by decide) (fun w hw => rowH_reads rfl (Sat.left hw)) (by simp [Value.oneCell']) (by simp only [maxLen]; omega) (by omega) (by omega) fun A' q' => ?_⟩
              conv => whnf
              refine ⟨trivial, ?_⟩
              conv => whnf
              subst hix
              refine ⟨⟨trivial, by unfold rng; simp only; omega⟩, .mk (x + 1, A', q') (by simp only; omega) (by simp only; omega) (Le.of (Nat.le_of_ble_eq_true rfl) (Nat.zero_le _) ⟨⟨rfl, rfl⟩, ⟨rfl, rfl⟩, ⟨rfl, rfl⟩, ⟨rfl, rfl⟩, ⟨rfl, rfl⟩, ⟨rfl, rfl⟩, ⟨rfl, rfl⟩, ⟨rfl, rfl⟩, ⟨rfl, rfl⟩, ⟨rfl, rfl⟩, ⟨rfl, rfl⟩, ⟨rfl, rfl⟩, ⟨rfl, rfl⟩, ⟨rfl, rfl⟩, trivial⟩ ⟨⟨rfl, rfl, rfl, rfl⟩, trivial⟩ fun h s => ?_)⟩
              obtain ⟨h', e', s'⟩ := sub_drop1 s
              refine ⟨h', e', ?_⟩
              show sepL (rowH (.slice (some ⟨A', 0, none⟩) (spAc W (k + 1) * y + x + 1) q') (spAc W (k + 1) * y + x + 1) 47 2 (celsF (spAc W (k + 1) * y + x + 1) (spC W f (k + 1))) :: _) _ h'
              rw [hcs]
              exact s'
            · have g6 : spAc W (k + 1) = x := by simp at h6; omega
              subst g6
              conv => whnf
              refine ⟨⟨trivial, by unfold rng; simp only; omega⟩, .mk (y + 1, A, q) (by simp only; omega) (by simp only; omega) (Le.of (Nat.le_of_ble_eq_true rfl) (Nat.zero_le _) ⟨⟨rfl, rfl⟩, ⟨rfl, rfl⟩, ⟨rfl, rfl⟩, ⟨rfl, rfl⟩, ⟨rfl, rfl⟩, ⟨rfl, rfl⟩, ⟨rfl, rfl⟩, ⟨rfl, rfl⟩, ⟨rfl, rfl⟩, ⟨rfl, rfl⟩, ⟨rfl, rfl⟩, trivial⟩ ⟨⟨rfl, rfl, rfl, rfl⟩, trivial⟩ fun h s => sub_same s)⟩
          · have g5 : spAc H (k + 1) = y := by simp at h5; omega
            subst g5
            conv => whnf
            refine ⟨trivial, RegAt.trees0 [((Tr.T 0 (Tr.T 1 (Tr.T 2 (Tr.T 3 (Tr.T 5 (Tr.C 4 (Tr.H 6 (Tr.H 7 Tr.E)) 6 (Tr.H 4 (Tr.H 7 Tr.E)))))))), 8), ((Tr.T 8 Tr.E), 9), ((Tr.T 9 Tr.E), 10), ((Tr.H 10 Tr.E), 11)] hmix (by kernel_rfl) ?_⟩
            conv => whnf
            refine ⟨?_, ?_⟩
            · conv => whnf
              refine ⟨trivial, LoadAt.cell (.slice (some ⟨lb, 0, none⟩) (k + 1) d) rfl rfl (fun w hw => (blk_sat (show Sat (spHd tb W H lb (k + 1) d) w from hw.in_ 1 rfl)).cell 2) ?_⟩
              conv => whnf
              refine ⟨trivial, ⟨⟨rfl, rfl⟩, fun h s => sub_nil s⟩, ?_⟩
              conv => whnf
              refine ⟨trivial, OpAt.lit [.agg #[.int .i64 ((spAc W (k + 1) : Nat) : Int), .slice (some ⟨A, 0, none⟩) (spN W H (k + 1)) q]] 2 rfl rfl rfl rfl rfl (by decide) rfl rfl rfl (by simp [Value.cells]) rfl (by decide) fun g3 => ?_⟩
              conv => whnf
              refine ⟨trivial, ⟨⟨rfl, rfl⟩, fun h s => sub_nil s⟩, ?_⟩
              conv => whnf
              refine ⟨trivial, OpAt.append1 (.slice (some ⟨lb, 0, none⟩) (k + 1) d) (k + 1) 2 32 (spV W H b c (k + 1)) [.int .i64 ((spAc W (k + 1) : Nat) : Int), .slice (some ⟨A, 0, none⟩) (spN W H (k + 1)) q] (some ⟨g3, 0, none⟩) 1 1 _ rfl (fun h s => sepL_pull 3 s) rfl rfl rfl rfl rfl rfl rfl rfl rfl (by decide) (fun w hw => rowH_reads rfl (Sat.left hw)) (by simp [Value.oneCell']) (by simp only [maxLen]; omega) (by omega) (by omega) fun lb' d' => ?_⟩
              conv => whnf
              refine ⟨trivial, ⟨⟨rfl, rfl⟩, fun h s => sub_nil s⟩, ?_⟩
              conv => whnf
              refine ⟨trivial, OpAt.store tb 2 (.slice (some ⟨lb', 0, none⟩) (k + 1 + 1) d') _ rfl (fun h s => sepL_pull 3 s) rfl rfl rfl rfl rfl (by simp [Value.cells, Value.oneCell']) (fun h r => blk_put (by show 2 + 1 ≤ 3; omega) r) ?_⟩
              conv => whnf
              refine ⟨trivial, ?_⟩
              conv => whnf
              refine ⟨trivial, ?_⟩
              conv => whnf
              refine ⟨⟨trivial, by unfold rng; simp only; omega⟩, .mk ⟨k + 1, tb, lb', d', fun j => if j = k + 1 then A else b j, fun j => if j = k + 1 then q else c j⟩ (by simp only; omega) (by simp only; omega) (Le.of (Nat.le_of_ble_eq_true rfl) (Nat.zero_le _) ⟨⟨rfl, rfl⟩, ⟨rfl, rfl⟩, ⟨rfl, rfl⟩, ⟨rfl, rfl⟩, ⟨rfl, rfl⟩, trivial⟩ trivial fun h s => ?_)⟩
              obtain ⟨h3, e3, s3⟩ := sub_tail (sepL_pull 2 s)
              refine ⟨h3, e3, ?_⟩
              show sepL (spHd tb W H lb' (k + 1 + 1) d' :: spRr W H lb' (k + 1 + 1) d' (fun j => if j = k + 1 then A else b j) (fun j => if j = k + 1 then q else c j) :: spRs W H f (fun j => if j = k + 1 then A else b j) (fun j => if j = k + 1 then q else c j) (k + 1 + 1)) _ h3
              unfold spRr
              rw [spV_succ, spRs_succ]
              exact sepL_perm (((List.perm_append_singleton _ _).symm.cons _).cons _) s3
            · conv => whnf
              refine ⟨trivial, OpAt.lit [.agg #[.int .i64 ((spAc W (k + 1) : Nat) : Int), .slice (some ⟨A, 0, none⟩) (spN W H (k + 1)) q]] 2 rfl rfl rfl rfl rfl (by decide) rfl rfl rfl (by simp [Value.cells]) rfl (by decide) fun g3 => ?_⟩
              conv => whnf
              refine ⟨trivial, ⟨⟨rfl, rfl⟩, fun h s => sub_nil s⟩, ?_⟩
              conv => whnf
              refine ⟨trivial, LoadAt.cell (.slice (some ⟨lb, 0, none⟩) (k + 1) d) rfl rfl (fun w hw => (blk_sat (show Sat (spHd tb W H lb (k + 1) d) w from hw.in_ 2 rfl)).cell 2) ?_⟩
              conv => whnf
              refine ⟨trivial, ⟨⟨rfl, rfl⟩, fun h s => sub_nil s⟩, ?_⟩
              conv => whnf
              refine ⟨trivial, OpAt.append1 (.slice (some ⟨lb, 0, none⟩) (k + 1) d) (k + 1) 2 32 (spV W H b c (k + 1)) [.int .i64 ((spAc W (k + 1) : Nat) : Int), .slice (some ⟨A, 0, none⟩) (spN W H (k + 1)) q] (some ⟨g3, 0, none⟩) 1 1 _ rfl (fun h s => sepL_pull 3 s) rfl rfl rfl rfl rfl rfl rfl rfl rfl (by decide) (fun w hw => rowH_reads rfl (Sat.left hw)) (by simp [Value.oneCell']) (by simp only [maxLen]; omega) (by omega) (by omega) fun lb' d' => ?_⟩
              conv => whnf
              refine ⟨trivial, ⟨⟨rfl, rfl⟩, fun h s => sub_nil s⟩, ?_⟩
              conv => whnf
              refine ⟨trivial, OpAt.store tb 2 (.slice (some ⟨lb', 0, none⟩) (k + 1 + 1) d') _ rfl (fun h s => sepL_pull 3 s) rfl rfl rfl rfl rfl (by simp [Value.cells, Value.oneCell']) (fun h r => blk_put (by show 2 + 1 ≤ 3; omega) r) ?_⟩
              conv => whnf
              refine ⟨trivial, ?_⟩
              conv => whnf
              refine ⟨trivial, ?_⟩
              conv => whnf
              refine ⟨⟨trivial, by unfold rng; simp only; omega⟩, .mk ⟨k + 1, tb, lb', d', fun j => if j = k + 1 then A else b j, fun j => if j = k + 1 then q else c j⟩ (by simp only; omega) (by simp only; omega) (Le.of (Nat.le_of_ble_eq_true rfl) (Nat.zero_le _) ⟨⟨rfl, rfl⟩, ⟨rfl, rfl⟩, ⟨rfl, rfl⟩, ⟨rfl, rfl⟩, ⟨rfl, rfl⟩, trivial⟩ trivial fun h s => ?_)⟩
              obtain ⟨h3, e3, s3⟩ := sub_tail (sepL_pull 2 s)
              refine ⟨h3, e3, ?_⟩
              show sepL (spHd tb W H lb' (k + 1 + 1) d' :: spRr W H lb' (k + 1 + 1) d' (fun j => if j = k + 1 then A else b j) (fun j => if j = k + 1 then q else c j) :: spRs W H f (fun j => if j = k + 1 then A else b j) (fun j => if j = k + 1 then q else c j) (k + 1 + 1)) _ h3
              unfold spRr
              rw [spV_succ, spRs_succ]
              exact sepL_perm (((List.perm_append_singleton _ _).symm.cons _).cons _) s3
        all_goals (unfold rng; omega)
      · have g4 : k = K := by simp at h4; omega
        subst g4
        conv => whnf
        exact ⟨trivial, .mk [sparseH tb W H f] (fun w ⟨h, hs, s⟩ => ⟨h, hs, hshut tb lb d b c h s⟩) ⟨tb, rfl, rfl⟩⟩
end Go.Proofs.YtjnglcjofajcnaaGreat

/-
  sparse: Square, Range.
-/
namespace Go.Proofs.YtjnglcjofajcnaaGreat
open Go.RowKit
open Sy
set_option linter.unusedVariables false
set_option linter.unusedSimpArgs false
set_option maxRecDepth 100000
set_option maxHeartbeats 4000000

theorem gdF {b : Bool} {A B : Prop} (h : b = false) (a : A) : (b = false → A) ∧ (b = (!false) → B) := ⟨fun _ => a, fun h' => by rw [h] at h'; cases h'⟩
theorem gdT {b : Bool} {A B : Prop} (h : b = true) (a : A) : (b = true → A) ∧ (b = (!true) → B) := ⟨fun _ => a, fun h' => by rw [h] at h'; cases h'⟩
theorem sSquareAt {R : HP} {tb lb d W H L k x y : Nat} {b c : Nat → Nat} {f : Nat → Nat → Int} (hW : W ≤ 1024) (hH : H ≤ 1024) (hk : k < L) (hL : L ≤ 11) (hx : x < spAc W k) (hy : y < spAc H k) (hR : ∀ w, Sat R w → SpAt w tb lb d b c W H L f) :
    PureR Tryz.prog R 87 [.pointer (some ⟨tb, 0, none⟩), .int .i64 (k : Int), .agg #[.int .i64 (x : Int), .int .i64 (y : Int)]] (.tuple #[rngV (sqF f k x y).1 (sqF f k x y).2, .int .i64 0]) := by
  refine PureR.fix fun w hs => ?_
  have hF := hR w hs
  have hsl := fun w' (hw : Sat (was w) w') => (hF.up hw).sl
  have hst := fun w' (hw : Sat (was w) w') => (hF.up hw).st k hk
  have hc1 := fun w' (hw : Sat (was w) w') => (hF.up hw).ce k x y hk hx hy
  have hi1 := spN_lt (W := W) (H := H) (k := k) hx hy
  have a1 := spAc_le (k := k) hW
  have a2 := spAc_le (k := k) hH
  have hN : spN W H k ≤ 1024 * 1024 := Nat.mul_le_mul a1 a2
  have e1 : (y : Int) * ((spAc W k : Nat) : Int) + (x : Int) = ((y * spAc W k + x : Nat) : Int) := by simp
  have m1 : (y : Int) * ((spAc W k : Nat) : Int) = ((y * spAc W k : Nat) : Int) := by simp
  have e2 : ((spN W H k : Nat) : Int) / ((spAc W k : Nat) : Int) = ((spAc H k : Nat) : Int) := by
    unfold spN
    rw [Int.natCast_mul]
    exact Int.mul_ediv_cancel_left _ (by omega)
  generalize sqF f k x y = p at *
  clear hF
  refine fn_of_run0 false Tryz.func87 rfl hmix rfl fun w0 => ?_
  conv => whnf
  refine gdF (decide_eq_false (by omega)) ?_
  conv => whnf
  refine ⟨trivial, LoadAt.cell (.slice (some ⟨lb, 0, none⟩) L d) rfl rfl (fun w hw => hsl w hw) ?_⟩
  conv => whnf
  refine iff_f (decide_eq_false (by omega)) ?_
  conv => whnf
  refine ⟨trivial, LoadAt.cell (.slice (some ⟨lb, 0, none⟩) L d) rfl rfl (fun w hw => hsl w hw) ?_⟩
  conv => whnf
  refine ⟨⟨trivial, by omega⟩, LoadAt.agg [.int .i64 ((spAc W k : Nat) : Int), .slice (some ⟨b k, 0, none⟩) (spN W H k) (c k)] rfl rfl rfl (fun w hw j v hj => ?_) ?_⟩
  · rw [Int.toNat_natCast, Nat.zero_add]
    rcases j with _ | _ | j
    · simp at hj; rw [← hj]; exact (hst w hw).1
    · simp at hj; rw [← hj]; exact (hst w hw).2
    · simp at hj
  conv => whnf
  rw [e2]
  refine gdF (decide_eq_false (by omega)) ?_
  conv => whnf
  refine gdF (decide_eq_false (by omega)) ?_
  conv => whnf
  refine gdF (decide_eq_false (by omega)) ?_
  conv => whnf
  refine iff_f (decide_eq_false (by omega)) ?_
  conv => whnf
  rw [e1, m1]
  refine ⟨⟨⟨⟨⟨trivial, ⟨by omega, by omega⟩, by unfold rng; omega⟩, by unfold rng; omega⟩, by unfold rng; omega⟩, by omega, by omega⟩, LoadAt.agg [.int .i64 p.1, .int .i64 p.2] rfl rfl rfl (fun w hw j v hj => ?_) ?_⟩
  · rw [Int.toNat_natCast, Nat.zero_add]
    rcases j with _ | _ | j
    · simp at hj; rw [← hj]; exact (hc1 w hw).1
    · simp at hj; rw [← hj]; exact (hc1 w hw).2
    · simp at hj
  conv => whnf
  exact ⟨trivial, fin_pure rfl rfl⟩
theorem sSpRangeBad {R : HP} {tb W H : Nat} {f : Nat → Nat → Int} {r : Q4} (hW : W ≤ 1024) (hH : H ≤ 1024) (hb : withinZ r.x0 r.y0 r.x1 r.y1 W H ≠ 0) (hR : ∀ w, Sat R w → Sat (sparseH tb W H f) w) :
    PureR Tryz.prog R 61 [.pointer (some ⟨tb, 0, none⟩), r.v] (.tuple #[rngV 0 0, .int .i64 (withinZ r.x0 r.y0 r.x1 r.y1 W H)]) := by
  refine PureR.fix fun w hs => ?_
  obtain ⟨lb, d, b, c, hF⟩ := sparse_open (hR w hs)
  have hwi := fun R' => pWithin r.x0 r.y0 r.x1 r.y1 W H (by omega) (by omega) R'
  generalize withinZ r.x0 r.y0 r.x1 r.y1 W H = z at *
  refine fn_of_run0 false Tryz.func61 rfl hmix rfl fun w0 => ?_
  conv => whnf
  refine ⟨trivial, RegAt.quiet hmix (by kernel_rfl) ?_⟩
  conv => whnf
  refine ⟨trivial, LoadAt.cell (.int .i64 (W : Int)) rfl rfl (fun w hw => (hF.up hw).wd) ?_⟩
  conv => whnf
  refine ⟨trivial, LoadAt.cell (.int .i64 (H : Int)) rfl rfl (fun w hw => (hF.up hw).ht) ?_⟩
  conv => whnf
  refine ⟨trivial, CallQ.pure (fun R' hR' => hwi R') ?_⟩
  conv => whnf
  refine ⟨trivial, ?_⟩
  conv => whnf
  refine iff_t (by simpa using hb) ?_
  conv => whnf
  exact ⟨trivial, fin_pure rfl rfl⟩
theorem sSpRange {R : HP} {tb W H x0 y0 x1 y1 : Nat} {f : Nat → Nat → Int} (hW : W ≤ 1024) (hH : H ≤ 1024) (r2 : x0 ≤ x1) (r3 : x1 < W) (r5 : y0 ≤ y1) (r6 : y1 < H) (hR : ∀ w, Sat R w → Sat (sparseH tb W H f) w) :
    PureR Tryz.prog R 61 [.pointer (some ⟨tb, 0, none⟩), rectV x0 y0 x1 y1] (.tuple #[rngV (mnL (vRows f x0 (x1 - x0 + 1) y0 (y1 - y0 + 1))) (mxL (vRows f x0 (x1 - x0 + 1) y0 (y1 - y0 + 1))), .int .i64 0]) := by
  have hwi : withinZ x0 y0 x1 y1 W H = 0 := within_of ⟨by omega, by omega, by omega, by omega⟩ (by omega) (by omega) (by omega) (by omega) (by omega) (by omega)
  have hwi := fun R' => hwi ▸ pWithin x0 y0 x1 y1 W H (by omega) (by omega) R'
  have hfin : ∀ p : Int × Int, IsR (bxS f x0 (x1 + 1) y0 (y1 + 1)) p → (mnL (vRows f x0 (x1 - x0 + 1) y0 (y1 - y0 + 1)), mxL (vRows f x0 (x1 - x0 + 1) y0 (y1 - y0 + 1))) = p := fun p hp => by
    refine rng_is ?_
    rw [show x0 + (x1 - x0 + 1) = x1 + 1 by omega, show y0 + (y1 - y0 + 1) = y1 + 1 by omega]
    exact hp
  generalize mnL (vRows f x0 (x1 - x0 + 1) y0 (y1 - y0 + 1)) = mn at *
  generalize mxL (vRows f x0 (x1 - x0 + 1) y0 (y1 - y0 + 1)) = mx at *
  refine PureR.fix fun w hs => ?_
  obtain ⟨lb, d, b, c, hF⟩ := sparse_open (hR w hs)
  clear hR hs
  have hL : sqL W H ≤ 11 := by
    have : Nat.log2 (min W H) < 11 := (Nat.log2_lt (by omega)).2 (by omega)
    unfold sqL; omega
  have em : min ((x1 : Int) - (x0 : Int)) ((y1 : Int) - (y0 : Int)) + 1 = ((min (x1 - x0) (y1 - y0) + 1 : Nat) : Int) := by omega
  have hm : min (x1 - x0) (y1 - y0) + 1 ≤ min W H := by omega
  have hm1 : min (x1 - x0) (y1 - y0) + 1 ≤ x1 - x0 + 1 ∧ min (x1 - x0) (y1 - y0) + 1 ≤ y1 - y0 + 1 := by omega
  generalize min (x1 - x0) (y1 - y0) + 1 = m at *
  have hm0 : 0 < m := by omega
  have hlog := fun R' => sLog m hm0 (by omega) R'
  have hp1 : 2 ^ Nat.log2 m ≤ m := Nat.log2_self_le (by omega)
  have hkL : Nat.log2 m < sqL W H := by
    have : Nat.log2 m ≤ Nat.log2 (min W H) := (Nat.le_log2 (by omega)).2 (by omega)
    unfold sqL; omega
  generalize Nat.log2 m = k at *
  have hstart : Seen f x0 (x1 + 1) y0 (y1 + 1) (2 ^ k) x0 y0 (sqF f k x0 y0) := Seen.start (by omega) (by omega)
  have hstep := fun x y p (h : Seen f x0 (x1 + 1) y0 (y1 + 1) (2 ^ k) x y p) h1 h2 h3 h4 => h.step (k := k) (x := x) (y := y) h1 h2 h3 h4
  have hsq := fun (R' : HP) (h : ∀ w', Sat R' w' → Sat (was w) w') x y (hx : x + 2 ^ k ≤ W) (hy : y + 2 ^ k ≤ H) => sSquareAt (R := R') (x := x) (y := y) (k := k) hW hH hkL hL (by unfold spAc; omega) (by unfold spAc; omega) fun w' s => hF.up (h w' s)
  have es : (1 : Int) * 2 ^ ((k : Nat) : Int).toNat = ((2 ^ k : Nat) : Int) := by simp
  have hs0 : 0 < 2 ^ k := Nat.pow_pos (by omega)
  have hk11 : k < 11 := by omega
  generalize 2 ^ k = s at *
  have elx : (x1 : Int) - (s : Int) + 1 = ((x1 + 1 - s : Nat) : Int) := by omega
  have ely : (y1 : Int) - (s : Int) + 1 = ((y1 + 1 - s : Nat) : Int) := by omega
  refine fn_of_run0 false Tryz.func61 rfl hmix rfl fun w0 => ?_
  conv => whnf
  refine ⟨trivial, RegAt.quiet hmix (by kernel_rfl) ?_⟩
  conv => whnf
  refine ⟨trivial, LoadAt.cell (.int .i64 (W : Int)) rfl rfl (fun w hw => (hF.up hw).wd) ?_⟩
  conv => whnf
  refine ⟨trivial, LoadAt.cell (.int .i64 (H : Int)) rfl rfl (fun w hw => (hF.up hw).ht) ?_⟩
  conv => whnf
  refine ⟨trivial, CallQ.pure (fun R' hR' => hwi R') ?_⟩
  conv => whnf
  refine ⟨trivial, ?_⟩
  conv => whnf
  refine iff_f rfl ?_
  conv => whnf
  rw [em]
  refine ⟨⟨⟨⟨trivial, by unfold rng; omega⟩, by unfold rng; omega⟩, by unfold rng; omega⟩, CallAt.pure (fun R' hR' => hlog R') ?_⟩
  conv => whnf
  rw [es]
  refine ⟨⟨trivial, ⟨by omega, by show ((k : Nat) : Int) ≤ 64; omega⟩, by unfold rng; omega⟩, RegAt.quiet hmix (by kernel_rfl) ?_⟩
  conv => whnf
  refine ⟨⟨⟨⟨⟨trivial, by unfold rng; omega⟩, by unfold rng; omega⟩, by unfold rng; omega⟩, by unfold rng; omega⟩, ?_⟩
  rw [elx, ely]
  conv => whnf
  refine ⟨trivial, CallAt.pure (fun R' hR' => hsq R' (fun w s => hR' w s) x0 y0 (by omega) (by omega)) ?_⟩
  conv => whnf
  refine ⟨trivial, LoopAt.of (α := Nat × Int × Int) [0, 3, 4, 7, 8, 9, 10, 11] (fun a => [(13, .v (.int .i64 (a.1 : Int)))]) (fun a => [(2, 47, [.v (.int .i64 a.2.1), .v (.int .i64 a.2.2)]), (1, 47, [.v (.int .i64 0), .v (.int .i64 0)]), (0, 26, [.v (.int .i64 (x0 : Int)), .v (.int .i64 (y0 : Int)), .v (.int .i64 (x1 : Int)), .v (.int .i64 (y1 : Int))])])
    (fun a => []) (fun a => y0 ≤ a.1 ∧ a.1 + s ≤ y1 + 1 ∧ Seen f x0 (x1 + 1) y0 (y1 + 1) s x0 a.1 a.2) (fun a => y1 + 1 - a.1) (y0, sqF f k x0 y0) ⟨Nat.le_refl _, by omega, hstart⟩ (Le.of (Nat.le_of_ble_eq_true rfl) (Nat.zero_le _) ⟨⟨rfl, rfl⟩, ⟨rfl, rfl⟩, ⟨rfl, rfl⟩, ⟨rfl, rfl⟩, ⟨rfl, rfl⟩, ⟨rfl, rfl⟩, ⟨rfl, rfl⟩, ⟨rfl, rfl⟩, ⟨rfl, rfl⟩, trivial⟩ ⟨⟨rfl, rfl, rfl, rfl⟩, ⟨rfl, rfl, rfl, rfl⟩, ⟨rfl, rfl, rfl, rfl⟩, trivial⟩ fun h s => sub_same s) ?_⟩
  rintro ⟨y, p⟩ ⟨g1, g2, g3⟩
  simp only at g1 g2 g3
  conv => whnf
  refine ⟨trivial, LoopAt.of (α := Nat × Int × Int) [0, 3, 4, 7, 8, 9, 10, 11, 13] (fun a => [(14, .v (.int .i64 (a.1 : Int)))]) (fun a => [(2, 47, [.v (.int .i64 a.2.1), .v (.int .i64 a.2.2)]), (1, 47, [.v (.int .i64 0), .v (.int .i64 0)]), (0, 26, [.v (.int .i64 (x0 : Int)), .v (.int .i64 (y0 : Int)), .v (.int .i64 (x1 : Int)), .v (.int .i64 (y1 : Int))])])
    (fun a => []) (fun a => x0 ≤ a.1 ∧ a.1 + s ≤ x1 + 1 ∧ Seen f x0 (x1 + 1) y0 (y1 + 1) s a.1 y a.2) (fun a => x1 + 1 - a.1) (x0, p) ⟨Nat.le_refl _, by omega, g3⟩ (Le.of (Nat.le_of_ble_eq_true rfl) (Nat.zero_le _) ⟨⟨rfl, rfl⟩, ⟨rfl, rfl⟩, ⟨rfl, rfl⟩, ⟨rfl, rfl⟩, ⟨rfl, rfl⟩, ⟨rfl, rfl⟩, ⟨rfl, rfl⟩, ⟨rfl, rfl⟩, ⟨rfl, rfl⟩, ⟨rfl, rfl⟩, trivial⟩ ⟨⟨rfl, rfl, rfl, rfl⟩, ⟨rfl, rfl, rfl, rfl⟩, ⟨rfl, rfl, rfl, rfl⟩, trivial⟩ fun h s => sub_same s) ?_⟩
  rintro ⟨x, p⟩ ⟨k1, k2, k3⟩
  simp only at k1 k2 k3
  clear g3
  have k4 := hstep x y p k3 k1 k2 g1 g2
  conv => whnf
  refine ⟨trivial, CallAt.pure (fun R' hR' => hsq R' (fun w s => hR' w s) x y (by omega) (by omega)) ?_⟩
  conv => whnf
  refine ⟨trivial, CallAt.pure (fun R' hR' => sSpJoin p (sqF f k x y) R') ?_⟩
  conv => whnf
  generalize jn p (sqF f k x y) = p at *
  refine ⟨fun h1 => ?_, fun h1 => ?_⟩
  · have h1 : x = x1 + 1 - s := by have := of_decide_eq_true h1; simp only at this; omega
    have k5 : Seen f x0 (x1 + 1) y0 (y1 + 1) s (x1 + 1) y p := k4.weak (by omega)
    conv => whnf
    refine ⟨fun h2 => ?_, fun h2 => ?_⟩
    · have h2 : y = y1 + 1 - s := by have := of_decide_eq_true h2; simp only at this; omega
      have k6 := hfin p (k5.done (by omega))
      conv => whnf
      exact ⟨trivial, fin_pure rfl (by subst k6; rfl)⟩
    · have h2 : y < y1 + 1 - s := by have := of_decide_eq_false h2; simp only at this; omega
      have ey : min ((y : Int) + (s : Int)) ((y1 + 1 - s : Nat) : Int) = ((min (y + s) (y1 + 1 - s) : Nat) : Int) := by omega
      conv => whnf
      rw [ey]
      exact ⟨⟨trivial, by unfold rng; simp only; omega⟩, .mk (min (y + s) (y1 + 1 - s), p) ⟨by simp only; omega, by simp only; omega, k5.row (by simp only; omega)⟩ (by simp only; omega) (Le.of (Nat.le_of_ble_eq_true rfl) (Nat.zero_le _) ⟨⟨rfl, rfl⟩, ⟨rfl, rfl⟩, ⟨rfl, rfl⟩, ⟨rfl, rfl⟩, ⟨rfl, rfl⟩, ⟨rfl, rfl⟩, ⟨rfl, rfl⟩, ⟨rfl, rfl⟩, ⟨rfl, rfl⟩, trivial⟩ ⟨⟨rfl, rfl, rfl, rfl⟩, ⟨rfl, rfl, rfl, rfl⟩, ⟨rfl, rfl, rfl, rfl⟩, trivial⟩ fun h s => sub_same s)⟩
  · have h1 : x < x1 + 1 - s := by have := of_decide_eq_false h1; simp only at this; omega
    have ex : min ((x : Int) + (s : Int)) ((x1 + 1 - s : Nat) : Int) = ((min (x + s) (x1 + 1 - s) : Nat) : Int) := by omega
    conv => whnf
    rw [ex]
    exact ⟨⟨trivial, by unfold rng; simp only; omega⟩, .mk (min (x + s) (x1 + 1 - s), p) ⟨by simp only; omega, by simp only; omega, k4.weak (by simp only; omega)⟩ (by simp only; omega) (Le.of (Nat.le_of_ble_eq_true rfl) (Nat.zero_le _) ⟨⟨rfl, rfl⟩, ⟨rfl, rfl⟩, ⟨rfl, rfl⟩, ⟨rfl, rfl⟩, ⟨rfl, rfl⟩, ⟨rfl, rfl⟩, ⟨rfl, rfl⟩, ⟨rfl, rfl⟩, ⟨rfl, rfl⟩, ⟨rfl, rfl⟩, trivial⟩ ⟨⟨rfl, rfl, rfl, rfl⟩, ⟨rfl, rfl, rfl, rfl⟩, ⟨rfl, rfl, rfl, rfl⟩, trivial⟩ fun h s => sub_same s)⟩
end Go.Proofs.YtjnglcjofajcnaaGreat

/-
  The sum of a list of a rectangle's values is the rectangle's sum.
-/
namespace Go.Proofs.YtjnglcjofajcnaaGreat
open Go.RowKit
open Sy
set_option linter.unusedVariables false
set_option linter.unusedSimpArgs false
set_option maxRecDepth 100000
set_option maxHeartbeats 4000000

def lsum : List Int → Int
  | [] => 0
  | a :: l => a + lsum l
theorem lsum_append (a b : List Int) : lsum (a ++ b) = lsum a + lsum b := by
  induction a with
  | nil => simp [lsum]
  | cons x a ih => simp [lsum, ih]; omega
theorem lsum_take {l : List Int} {i : Nat} (h : i < l.length) : lsum (l.take (i + 1)) = lsum (l.take i) + l[i] := by
  rw [List.take_succ_eq_append_getElem h, lsum_append]
  simp [lsum]
theorem lsum_bound {l : List Int} {M : Int} (hM : 0 ≤ M) (h : ∀ v ∈ l, -M ≤ v ∧ v ≤ M) : -(M * l.length) ≤ lsum l ∧ lsum l ≤ M * l.length := by
  induction l with
  | nil => simp [lsum]
  | cons a l ih =>
    have h1 := h a (by simp)
    have h2 := ih fun v hv => h v (by simp [hv])
    have e : M * ((a :: l).length : Int) = M * l.length + M := by
      rw [List.length_cons, Int.natCast_add, Int.mul_add]; simp
    simp only [lsum]
    omega
theorem lsum_vRow {W x0 y : Nat} {f : Nat → Nat → Int} : ∀ i, x0 + i ≤ W → lsum (vRow f x0 y i) = dot W (fun a => x0 ≤ a ∧ a < x0 + i) fun a => f a y
  | 0, _ => by
    rw [dot_none (fun a _ h => by omega)]
    simp [vRow, lsum]
  | i + 1, h => by
    have e : lsum (vRow f x0 y (i + 1)) = lsum (vRow f x0 y i) + f (x0 + i) y := by
      rw [vRow_succ, lsum_append]; simp [lsum]
    rw [e, lsum_vRow (W := W) i (by omega), dot_or (C := fun a => x0 ≤ a ∧ a < x0 + (i + 1)) (A := fun a => x0 ≤ a ∧ a < x0 + i) (B := fun a => a = x0 + i) (fun a _ => by omega) (fun a _ => by omega), dot_one (A := fun a => a = x0 + i) (k := x0 + i) (by omega) (fun a _ => Iff.rfl)]
theorem lsum_vRows {W H x0 y0 nx : Nat} {f : Nat → Nat → Int} (hx : x0 + nx ≤ W) : ∀ j, y0 + j ≤ H → lsum (vRows f x0 nx y0 j) = dot H (fun b => y0 ≤ b ∧ b < y0 + j) fun b => dot W (fun a => x0 ≤ a ∧ a < x0 + nx) fun a => f a b
  | 0, _ => by
    rw [dot_none (fun a _ h => by omega)]
    simp [vRows, lsum]
  | j + 1, h => by
    rw [vRows_succ, lsum_append, lsum_vRows (H := H) hx j (by omega), lsum_vRow nx hx, dot_or (C := fun b => y0 ≤ b ∧ b < y0 + (j + 1)) (A := fun b => y0 ≤ b ∧ b < y0 + j) (B := fun b => b = y0 + j) (fun a _ => by omega) (fun a _ => by omega), dot_one (A := fun b => b = y0 + j) (k := y0 + j) (by omega) (fun a _ => Iff.rfl)]
theorem lsum_RS {W H x0 y0 x1 y1 : Nat} {f : Nat → Nat → Int} (hx : x0 ≤ x1) (hx1 : x1 < W) (hy : y0 ≤ y1) (hy1 : y1 < H) : lsum (vRows f x0 (x1 - x0 + 1) y0 (y1 - y0 + 1)) = RS W H f x0 y0 x1 y1 := by
  rw [lsum_vRows (W := W) (H := H) (by omega) _ (by omega)]
  unfold RS
  exact dot_congr (fun b _ => by omega) fun b _ _ => dot_congr (fun a _ => by omega) fun a _ _ => rfl
end Go.Proofs.YtjnglcjofajcnaaGreat

/-
  the document's land: Fill, Sum, Range; Live.Range.
-/
namespace Go.Proofs.YtjnglcjofajcnaaGreat
open Go.RowKit
open Sy
set_option linter.unusedVariables false
set_option linter.unusedSimpArgs false
set_option maxRecDepth 100000
set_option maxHeartbeats 4000000

theorem sMFillBad {R : HP} {A : Option Addr} {n c W H : Nat} {r : Q4} {v : Int} (hb : withinZ r.x0 r.y0 r.x1 r.y1 W H ≠ 0) :
    PureR Tryz.prog R 13 [modV W H A n c, r.v, .int .i64 v] (.tuple #[modV W H A n c, .int .i64 (withinZ r.x0 r.y0 r.x1 r.y1 W H)]) := by
  have hwi := fun R' => sRWithin r.x0 r.y0 r.x1 r.y1 W H R'
  generalize withinZ r.x0 r.y0 r.x1 r.y1 W H = z at *
  refine fn_of_run0 false Tryz.func13 rfl hmix rfl fun w0 => ?_
  refine run_cut fun B hB => ?_
  conv => whnf
  (rw [hB]; clear hB B; refine run_cut fun B hB => ?_; conv => whnf)
  refine ⟨trivial, CallAt.pure (fun R' hR' => hwi R') ?_⟩
  conv => whnf
  (rw [hB]; clear hB B; refine run_cut fun B hB => ?_; conv => whnf)
  refine iff_t (by simpa using hb) ?_
  conv => whnf
  exact ⟨trivial, fin_pure rfl rfl⟩
theorem sMFillNo {R : HP} {A : Option Addr} {n c W H : Nat} {r : Q4} {v : Int} (hb : withinZ r.x0 r.y0 r.x1 r.y1 W H = 0) (hv : ¬ MayV v) :
    PureR Tryz.prog R 13 [modV W H A n c, r.v, .int .i64 v] (.tuple #[modV W H A n c, .int .i64 7]) := by
  have hwi := fun R' => sRWithin r.x0 r.y0 r.x1 r.y1 W H R'
  rw [hb] at hwi
  have hm := fun R' => sMay v R'
  rw [decide_eq_false hv] at hm
  refine fn_of_run0 false Tryz.func13 rfl hmix rfl fun w0 => ?_
  refine run_cut fun B hB => ?_
  conv => whnf
  (rw [hB]; clear hB B; refine run_cut fun B hB => ?_; conv => whnf)
  refine ⟨trivial, CallAt.pure (fun R' hR' => hwi R') ?_⟩
  conv => whnf
  (rw [hB]; clear hB B; refine run_cut fun B hB => ?_; conv => whnf)
  refine iff_f rfl ?_
  conv => whnf
  (rw [hB]; clear hB B; refine run_cut fun B hB => ?_; conv => whnf)
  refine ⟨trivial, CallAt.pure (fun R' hR' => hm R') ?_⟩
  conv => whnf
  refine iff_t rfl ?_
  conv => whnf
  exact ⟨trivial, fin_pure rfl rfl⟩
theorem ints_getD {n : Nat} {l : List Int} (h : l.length = n) : ints l = ints (cellsL n fun k => l.getD k 0) := by
  apply List.ext_getElem?
  intro i
  by_cases c : i < n
  · rw [ints_cellsL c]
    simp [ints, List.getElem?_eq_getElem (show i < l.length by omega)]
  · rw [List.getElem?_eq_none (by simp [ints]; omega), List.getElem?_eq_none (by rw [ints_len]; omega)]
theorem sMFill {R : HP} {A : Option Addr} {n c W H : Nat} {l : List Int} {v : Int} (ha : Vs R A n l) (hn : W * H = n) (hW : W ≤ 1024) (hH : H ≤ 1024) (x0 y0 x1 y1 : Nat) (r2 : x0 ≤ x1) (r3 : x1 < W) (r5 : y0 ≤ y1) (r6 : y1 < H) (hv : MayV v) :
    FnR Tryz.prog R 13 [modV W H A n c, rectV x0 y0 x1 y1, .int .i64 v] [] fun r hs => ∃ B d, r = .tuple #[modV W H (some ⟨B, 0, none⟩) n d, .int .i64 0] ∧ hs = [rowH (.slice (some ⟨B, 0, none⟩) n d) n 2 1 (ints (cellsL n (fillK W x0 y0 x1 y1 v fun k => l.getD k 0)))] := by
  refine FnR.of_sat fun w hs => ?_
  obtain ⟨hl, sa⟩ := ha.spot hs
  clear hs sa
  have hn2 : n ≤ 1048576 := by rw [← hn]; exact Nat.mul_le_mul hW hH
  have hpos : 0 < n := by rw [← hn]; exact Nat.mul_pos (by omega) (by omega)
  have hw : withinZ x0 y0 x1 y1 W H = 0 := within_of ⟨by omega, by omega, by omega, by omega⟩ (by omega) (by omega) (by omega) (by omega) (by omega) (by omega)
  have hwi := fun R' => sRWithin x0 y0 x1 y1 W H R'
  rw [hw] at hwi
  have hm := fun R' => sMay v R'
  rw [decide_eq_true hv] at hm
  have hone : ∀ u ∈ ints l, u.oneCell' = true := ints_one l
  have hst := ints_getD hl
  have hs0 : ints (cellsL n (fillT W x0 y0 x1 v (fun k => l.getD k 0) (y0 + 0) x0)) = ints l := by
    rw [hst]
    exact congrArg ints (cellsL_eq.2 fun k _ => fillT_start k)
  refine fn_of_run0 false Tryz.func13 rfl hmix rfl fun w0 => ?_
  refine run_cut fun B hB => ?_
  conv => whnf
  (rw [hB]; clear hB B; refine run_cut fun B hB => ?_; conv => whnf)
  refine ⟨trivial, CallAt.pure (fun R' hR' => hwi R') ?_⟩
  conv => whnf
  (rw [hB]; clear hB B; refine run_cut fun B hB => ?_; conv => whnf)
  refine iff_f rfl ?_
  conv => whnf
  (rw [hB]; clear hB B; refine run_cut fun B hB => ?_; conv => whnf)
  refine ⟨trivial, CallAt.pure (fun R' hR' => hm R') ?_⟩
  conv => whnf
  refine iff_f rfl ?_
  conv => whnf
  (rw [hB]; clear hB B; refine run_cut fun B hB => ?_; conv => whnf)
  refine ⟨trivial, RegAt.trees [((Tr.T 0 (Tr.T 1 (Tr.T 2 (Tr.T 3 (Tr.T 5 (Tr.T 6 (Tr.C 4 (Tr.C 7 (Tr.T 8 (Tr.H 9 Tr.E)) 9 (Tr.H 7 (Tr.T 8 Tr.E))) 9 (Tr.H 4 (Tr.H 7 (Tr.T 8 Tr.E)))))))))), 10), ((Tr.H 10 Tr.E), 11)] hmix (by kernel_rfl) ?_⟩
  conv => whnf
  refine ⟨?_, ?_⟩
  · conv => whnf
    refine ⟨trivial, OpAt.lit [] 1 rfl rfl rfl rfl rfl (by decide) rfl rfl rfl (by simp) rfl (by decide) fun g => ?_⟩
    conv => whnf
    refine ⟨trivial, ⟨⟨rfl, rfl⟩, fun h s => sub_nil s⟩, ?_⟩
    conv => whnf
    refine ⟨?_, ?_⟩
    · conv => whnf
      refine ⟨trivial, OpAt.append1 (.slice (some ⟨g, 0, none⟩) 0 0) 0 1 8 [] (ints l) A n c [] rfl (fun h s => s) rfl rfl rfl rfl rfl rfl rfl rfl rfl (by decide) (fun w hw => ha w hw) hone (by simp only [maxLen]; omega) (by omega) (by omega) fun Q d => ?_⟩
      simp only [Nat.zero_add, List.nil_append]
      conv => whnf
      refine ⟨trivial, ⟨⟨rfl, rfl⟩, fun h s => sub_nil s⟩, ?_⟩
      conv => whnf
      refine ⟨trivial, ⟨⟨rfl, rfl⟩, fun h s => sub_nil s⟩, ?_⟩
      conv => whnf
      refine ⟨trivial, ?_⟩
      conv => whnf
      refine ⟨trivial, ?_⟩
      conv => whnf
      (rw [hB]; clear hB B; conv => whnf)
      refine ⟨trivial, LoopAt.heap (α := Nat) [2, 3, 4, 6, 9] (fun j => [(10, .v (.int .i64 ((y0 + j : Nat) : Int)))]) (fun j => [rowH (.slice (some ⟨Q, 0, none⟩) n d) n 2 1 (ints (cellsL n (fillT W x0 y0 x1 v (fun k => l.getD k 0) (y0 + j) x0)))]) (fun j => j ≤ y1 - y0 + 1) (fun j => y1 - y0 + 1 - j) 0 (Nat.zero_le _) rfl ⟨⟨rfl, rfl⟩, trivial⟩ ⟨⟨rfl, rfl⟩, ⟨rfl, rfl⟩, ⟨rfl, rfl⟩, ⟨rfl, rfl⟩, ⟨rfl, rfl⟩, trivial⟩ ⟨⟨rfl, rfl, rfl, rfl⟩, ⟨rfl, rfl, rfl, rfl⟩, ⟨rfl, rfl, rfl, rfl⟩, ⟨rfl, rfl, rfl, rfl⟩, trivial⟩ (fun h s => sub_same ?_) ?_⟩
      · rw [hs0]; exact s
      intro j hj
      conv => whnf
      refine ⟨fun h5 => ?_, fun h5 => ?_⟩
      · have g5 : y0 + j ≤ y1 := by have := of_decide_eq_true h5; omega
        conv => whnf
        refine ⟨trivial, LoopAt.heap (α := Nat) [2, 3, 4, 6, 9, 10] (fun i => [(11, .v (.int .i64 ((x0 + i : Nat) : Int)))]) (fun i => [rowH (.slice (some ⟨Q, 0, none⟩) n d) n 2 1 (ints (cellsL n (fillT W x0 y0 x1 v (fun k => l.getD k 0) (y0 + j) (x0 + i))))]) (fun i => i ≤ x1 - x0 + 1) (fun i => x1 - x0 + 1 - i) 0 (Nat.zero_le _) rfl ⟨⟨rfl, rfl⟩, trivial⟩ ⟨⟨rfl, rfl⟩, ⟨rfl, rfl⟩, ⟨rfl, rfl⟩, ⟨rfl, rfl⟩, ⟨rfl, rfl⟩, ⟨rfl, rfl⟩, trivial⟩ ⟨⟨rfl, rfl, rfl, rfl⟩, ⟨rfl, rfl, rfl, rfl⟩, ⟨rfl, rfl, rfl, rfl⟩, ⟨rfl, rfl, rfl, rfl⟩, trivial⟩ (fun h s => sub_same s) ?_⟩
        intro i hi
        conv => whnf
        refine ⟨fun h6 => ?_, fun h6 => ?_⟩
        · have g6 : x0 + i ≤ x1 := by have := of_decide_eq_true h6; omega
          have hx : x0 + i < W := by omega
          have hy : y0 + j < H := by omega
          have hidx := idx_lt hx hy
          rw [hn] at hidx
          have hmul : ((y0 + j : Nat) : Int) * (W : Int) = (((y0 + j) * W : Nat) : Int) := by simp
          have hput := cellsL_put (g := fillT W x0 y0 x1 v (fun k => l.getD k 0) (y0 + j) (x0 + i)) (g' := fillT W x0 y0 x1 v (fun k => l.getD k 0) (y0 + j) (x0 + i + 1)) (v := v) hidx (by rw [← fillT_step hx (by omega), if_pos rfl]) (fun m _ hm => by rw [← fillT_step hx (by omega), if_neg hm])
          have hadd : (((y0 + j : Nat) : Int) * (W : Int) + ((x0 + i : Nat) : Int)).toNat = (y0 + j) * W + (x0 + i) := by rw [hmul]; omega
          conv => whnf
          refine ⟨⟨⟨⟨trivial, by rw [hmul]; unfold rng; omega⟩, by rw [hmul]; unfold rng; omega⟩, by rw [hmul]; omega⟩, OpAt.store Q (0 + (((y0 + j : Nat) : Int) * (W : Int) + ((x0 + i : Nat) : Int)).toNat) (.int .i64 v) [] rfl (fun h s => s) rfl rfl rfl rfl rfl (by simp [Value.cells, Value.oneCell']) (fun h r => row_put (by rw [hadd]; simp [Value.cells]; omega) r) ?_⟩
          conv => whnf
          refine ⟨⟨trivial, by unfold rng; omega⟩, .mk (i + 1) (by omega) (by omega) (Le.of (Nat.le_of_ble_eq_true rfl) (Nat.zero_le _) ⟨⟨rfl, rfl⟩, ⟨rfl, rfl⟩, ⟨rfl, rfl⟩, ⟨rfl, rfl⟩, ⟨rfl, rfl⟩, ⟨rfl, rfl⟩, ⟨rfl, rfl⟩, trivial⟩ ⟨⟨rfl, rfl, rfl, rfl⟩, ⟨rfl, rfl, rfl, rfl⟩, ⟨rfl, rfl, rfl, rfl⟩, ⟨rfl, rfl, rfl, rfl⟩, trivial⟩ fun h s => sub_same ?_)⟩
          show sepL [rowH (.slice (some ⟨Q, 0, none⟩) n d) n 2 1 (ints (cellsL n (fillT W x0 y0 x1 v (fun k => l.getD k 0) (y0 + j) (x0 + i + 1))))] _ h
          rw [← hput]
          have e3 : (0 + (((y0 + j : Nat) : Int) * (W : Int) + ((x0 + i : Nat) : Int)).toNat) = (y0 + j) * W + (x0 + i) := by rw [hadd, Nat.zero_add]
          rw [← e3]
          exact s
        · have g6 : x0 + i = x1 + 1 := by have := of_decide_eq_false h6; omega
          have hrow : cellsL n (fillT W x0 y0 x1 v (fun k => l.getD k 0) (y0 + j) (x0 + i)) = cellsL n (fillT W x0 y0 x1 v (fun k => l.getD k 0) (y0 + (j + 1)) x0) := by
            rw [g6]
            exact cellsL_eq.2 fun k _ => fillT_row (by omega) k
          conv => whnf
          refine ⟨⟨trivial, by unfold rng; omega⟩, .mk (j + 1) (by omega) (by omega) (Le.of (Nat.le_of_ble_eq_true rfl) (Nat.zero_le _) ⟨⟨rfl, rfl⟩, ⟨rfl, rfl⟩, ⟨rfl, rfl⟩, ⟨rfl, rfl⟩, ⟨rfl, rfl⟩, ⟨rfl, rfl⟩, trivial⟩ ⟨⟨rfl, rfl, rfl, rfl⟩, ⟨rfl, rfl, rfl, rfl⟩, ⟨rfl, rfl, rfl, rfl⟩, ⟨rfl, rfl, rfl, rfl⟩, trivial⟩ fun h s => sub_same ?_)⟩
          show sepL [rowH (.slice (some ⟨Q, 0, none⟩) n d) n 2 1 (ints (cellsL n (fillT W x0 y0 x1 v (fun k => l.getD k 0) (y0 + (j + 1)) x0)))] _ h
          rw [← hrow]
          exact s
      · have g5 : y0 + j = y1 + 1 := by have := of_decide_eq_false h5; omega
        have hend : cellsL n (fillT W x0 y0 x1 v (fun k => l.getD k 0) (y0 + j) x0) = cellsL n (fillK W x0 y0 x1 y1 v (fun k => l.getD k 0)) := by
          rw [g5]
          exact cellsL_eq.2 fun k _ => fillT_end k
        conv => whnf
        rw [hend]
        exact ⟨trivial, .mk _ (fun w s => s) ⟨Q, d, rfl, rfl⟩⟩
    · conv => whnf
      refine ⟨trivial, ⟨⟨rfl, rfl⟩, fun h s => sub_nil s⟩, ?_⟩
      conv => whnf
      refine ⟨trivial, OpAt.append1 (.slice (some ⟨g, 0, none⟩) 0 0) 0 1 8 [] (ints l) A n c [] rfl (fun h s => s) rfl rfl rfl rfl rfl rfl rfl rfl rfl (by decide) (fun w hw => ha w hw) hone (by simp only [maxLen]; omega) (by omega) (by omega) fun Q d => ?_⟩
      simp only [Nat.zero_add, List.nil_append]
      conv => whnf
      refine ⟨trivial, ⟨⟨rfl, rfl⟩, fun h s => sub_nil s⟩, ?_⟩
      conv => whnf
      refine ⟨trivial, ?_⟩
      conv => whnf
      refine ⟨trivial, ?_⟩
      conv => whnf
      (rw [hB]; clear hB B; conv => whnf)
      refine ⟨trivial, LoopAt.heap (α := Nat) [2, 3, 4, 6, 9] (fun j => [(10, .v (.int .i64 ((y0 + j : Nat) : Int)))]) (fun j => [rowH (.slice (some ⟨Q, 0, none⟩) n d) n 2 1 (ints (cellsL n (fillT W x0 y0 x1 v (fun k => l.getD k 0) (y0 + j) x0)))]) (fun j => j ≤ y1 - y0 + 1) (fun j => y1 - y0 + 1 - j) 0 (Nat.zero_le _) rfl ⟨⟨rfl, rfl⟩, trivial⟩ ⟨⟨rfl, rfl⟩, ⟨rfl, rfl⟩, ⟨rfl, rfl⟩, ⟨rfl, rfl⟩, ⟨rfl, rfl⟩, trivial⟩ ⟨⟨rfl, rfl, rfl, rfl⟩, ⟨rfl, rfl, rfl, rfl⟩, ⟨rfl, rfl, rfl, rfl⟩, ⟨rfl, rfl, rfl, rfl⟩, trivial⟩ (fun h s => sub_same ?_) ?_⟩
      · rw [hs0]; exact s
      intro j hj
      conv => whnf
      refine ⟨fun h5 => ?_, fun h5 => ?_⟩
      · have g5 : y0 + j ≤ y1 := by have := of_decide_eq_true h5; omega
        conv => whnf
        refine ⟨trivial, LoopAt.heap (α := Nat) [2, 3, 4, 6, 9, 10] (fun i => [(11, .v (.int .i64 ((x0 + i : Nat) : Int)))]) (fun i => [rowH (.slice (some ⟨Q, 0, none⟩) n d) n 2 1 (ints (cellsL n (fillT W x0 y0 x1 v (fun k => l.getD k 0) (y0 + j) (x0 + i))))]) (fun i => i ≤ x1 - x0 + 1) (fun i => x1 - x0 + 1 - i) 0 (Nat.zero_le _) rfl ⟨⟨rfl, rfl⟩, trivial⟩ ⟨⟨rfl, rfl⟩, ⟨rfl, rfl⟩, ⟨rfl, rfl⟩, ⟨rfl, rfl⟩, ⟨rfl, rfl⟩, ⟨rfl, rfl⟩, trivial⟩ ⟨⟨rfl, rfl, rfl, rfl⟩, ⟨rfl, rfl, rfl, rfl⟩, ⟨rfl, rfl, rfl, rfl⟩, ⟨rfl, rfl, rfl, rfl⟩, trivial⟩ (fun h s => sub_same s) ?_⟩
        intro i hi
        conv => whnf
        refine ⟨fun h6 => ?_, fun h6 => ?_⟩
        · have g6 : x0 + i ≤ x1 := by have := of_decide_eq_true h6; omega
          have hx : x0 + i < W := by omega
          have hy : y0 + j < H := by omega
          have hidx := idx_lt hx hy
          rw [hn] at hidx
          have hmul : ((y0 + j : Nat) : Int) * (W : Int) = (((y0 + j) * W : Nat) : Int) := by simp
          have hput := cellsL_put (g := fillT W x0 y0 x1 v (fun k => l.getD k 0) (y0 + j) (x0 + i)) (g' := fillT W x0 y0 x1 v (fun k => l.getD k 0) (y0 + j) (x0 + i + 1)) (v := v) hidx (by rw [← fillT_step hx (by omega), if_pos rfl]) (fun m _ hm => by rw [← fillT_step hx (by omega), if_neg hm])
          have hadd : (((y0 + j : Nat) : Int) * (W : Int) + ((x0 + i : Nat) : Int)).toNat = (y0 + j) * W + (x0 + i) := by rw [hmul]; omega
          conv => whnf
          refine ⟨⟨⟨⟨trivial, by rw [hmul]; unfold rng; omega⟩, by rw [hmul]; unfold rng; omega⟩, by rw [hmul]; omega⟩, OpAt.store Q (0 + (((y0 + j : Nat) : Int) * (W : Int) + ((x0 + i : Nat) : Int)).toNat) (.int .i64 v) [] rfl (fun h s => s) rfl rfl rfl rfl rfl (by simp [Value.cells, Value.oneCell']) (fun h r => row_put (by rw [hadd]; simp [Value.cells]; omega) r) ?_⟩
          conv => whnf
          refine ⟨⟨trivial, by unfold rng; omega⟩, .mk (i + 1) (by omega) (by omega) (Le.of (Nat.le_of_ble_eq_true rfl) (Nat.zero_le _) ⟨⟨rfl, rfl⟩, ⟨rfl, rfl⟩, ⟨rfl, rfl⟩, ⟨rfl, rfl⟩, ⟨rfl, rfl⟩, ⟨rfl, rfl⟩, ⟨rfl, rfl⟩, trivial⟩ ⟨⟨rfl, rfl, rfl, rfl⟩, ⟨rfl, rfl, rfl, rfl⟩, ⟨rfl, rfl, rfl, rfl⟩, ⟨rfl, rfl, rfl, rfl⟩, trivial⟩ fun h s => sub_same ?_)⟩
          show sepL [rowH (.slice (some ⟨Q, 0, none⟩) n d) n 2 1 (ints (cellsL n (fillT W x0 y0 x1 v (fun k => l.getD k 0) (y0 + j) (x0 + i + 1))))] _ h
          rw [← hput]
          have e3 : (0 + (((y0 + j : Nat) : Int) * (W : Int) + ((x0 + i : Nat) : Int)).toNat) = (y0 + j) * W + (x0 + i) := by rw [hadd, Nat.zero_add]
          rw [← e3]
          exact s
        · have g6 : x0 + i = x1 + 1 := by have := of_decide_eq_false h6; omega
          have hrow : cellsL n (fillT W x0 y0 x1 v (fun k => l.getD k 0) (y0 + j) (x0 + i)) = cellsL n (fillT W x0 y0 x1 v (fun k => l.getD k 0) (y0 + (j + 1)) x0) := by
            rw [g6]
            exact cellsL_eq.2 fun k _ => fillT_row (by omega) k
          conv => whnf
          refine ⟨⟨trivial, by unfold rng; omega⟩, .mk (j + 1) (by omega) (by omega) (Le.of (Nat.le_of_ble_eq_true rfl) (Nat.zero_le _) ⟨⟨rfl, rfl⟩, ⟨rfl, rfl⟩, ⟨rfl, rfl⟩, ⟨rfl, rfl⟩, ⟨rfl, rfl⟩, ⟨rfl, rfl⟩, trivial⟩ ⟨⟨rfl, rfl, rfl, rfl⟩, ⟨rfl, rfl, rfl, rfl⟩, ⟨rfl, rfl, rfl, rfl⟩, ⟨rfl, rfl, rfl, rfl⟩, trivial⟩ fun h s => sub_same ?_)⟩
          show sepL [rowH (.slice (some ⟨Q, 0, none⟩) n d) n 2 1 (ints (cellsL n (fillT W x0 y0 x1 v (fun k => l.getD k 0) (y0 + (j + 1)) x0)))] _ h
          rw [← hrow]
          exact s
      · have g5 : y0 + j = y1 + 1 := by have := of_decide_eq_false h5; omega
        have hend : cellsL n (fillT W x0 y0 x1 v (fun k => l.getD k 0) (y0 + j) x0) = cellsL n (fillK W x0 y0 x1 y1 v (fun k => l.getD k 0)) := by
          rw [g5]
          exact cellsL_eq.2 fun k _ => fillT_end k
        conv => whnf
        rw [hend]
        exact ⟨trivial, .mk _ (fun w s => s) ⟨Q, d, rfl, rfl⟩⟩
  · conv => whnf
    refine ⟨trivial, ⟨⟨rfl, rfl⟩, fun h s => sub_nil s⟩, ?_⟩
    conv => whnf
    refine ⟨trivial, OpAt.lit [] 1 rfl rfl rfl rfl rfl (by decide) rfl rfl rfl (by simp) rfl (by decide) fun g => ?_⟩
    conv => whnf
    refine ⟨trivial, ⟨⟨rfl, rfl⟩, fun h s => sub_nil s⟩, ?_⟩
    conv => whnf
    refine ⟨trivial, OpAt.append1 (.slice (some ⟨g, 0, none⟩) 0 0) 0 1 8 [] (ints l) A n c [] rfl (fun h s => s) rfl rfl rfl rfl rfl rfl rfl rfl rfl (by decide) (fun w hw => ha w hw) hone (by simp only [maxLen]; omega) (by omega) (by omega) fun Q d => ?_⟩
    simp only [Nat.zero_add, List.nil_append]
    conv => whnf
    refine ⟨trivial, ⟨⟨rfl, rfl⟩, fun h s => sub_nil s⟩, ?_⟩
    conv => whnf
    refine ⟨trivial, ?_⟩
    conv => whnf
    refine ⟨trivial, ?_⟩
    conv => whnf
    (rw [hB]; clear hB B; conv => whnf)
    refine ⟨trivial, LoopAt.heap (α := Nat) [2, 3, 4, 6, 9] (fun j => [(10, .v (.int .i64 ((y0 + j : Nat) : Int)))]) (fun j => [rowH (.slice (some ⟨Q, 0, none⟩) n d) n 2 1 (ints (cellsL n (fillT W x0 y0 x1 v (fun k => l.getD k 0) (y0 + j) x0)))]) (fun j => j ≤ y1 - y0 + 1) (fun j => y1 - y0 + 1 - j) 0 (Nat.zero_le _) rfl ⟨⟨rfl, rfl⟩, trivial⟩ ⟨⟨rfl, rfl⟩, ⟨rfl, rfl⟩, ⟨rfl, rfl⟩, ⟨rfl, rfl⟩, ⟨rfl, rfl⟩, trivial⟩ ⟨⟨rfl, rfl, rfl, rfl⟩, ⟨rfl, rfl, rfl, rfl⟩, ⟨rfl, rfl, rfl, rfl⟩, ⟨rfl, rfl, rfl, rfl⟩, trivial⟩ (fun h s => sub_same ?_) ?_⟩
    · rw [hs0]; exact s
    intro j hj
    conv => whnf
    refine ⟨fun h5 => ?_, fun h5 => ?_⟩
    · have g5 : y0 + j ≤ y1 := by have := of_decide_eq_true h5; omega
      conv => whnf
      refine ⟨trivial, LoopAt.heap (α := Nat) [2, 3, 4, 6, 9, 10] (fun i => [(11, .v (.int .i64 ((x0 + i : Nat) : Int)))]) (fun i => [rowH (.slice (some ⟨Q, 0, none⟩) n d) n 2 1 (ints (cellsL n (fillT W x0 y0 x1 v (fun k => l.getD k 0) (y0 + j) (x0 + i))))]) (fun i => i ≤ x1 - x0 + 1) (fun i => x1 - x0 + 1 - i) 0 (Nat.zero_le _) rfl ⟨⟨rfl, rfl⟩, trivial⟩ ⟨⟨rfl, rfl⟩, ⟨rfl, rfl⟩, ⟨rfl, rfl⟩, ⟨rfl, rfl⟩, ⟨rfl, rfl⟩, ⟨rfl, rfl⟩, trivial⟩ ⟨⟨rfl, rfl, rfl, rfl⟩, ⟨rfl, rfl, rfl, rfl⟩, ⟨rfl, rfl, rfl, rfl⟩, ⟨rfl, rfl, rfl, rfl⟩, trivial⟩ (fun h s => sub_same s) ?_⟩
      intro i hi
      conv => whnf
      refine ⟨fun h6 => ?_, fun h6 => ?_⟩
      · have g6 : x0 + i ≤ x1 := by have := of_decide_eq_true h6; omega
        have hx : x0 + i < W := by omega
        have hy : y0 + j < H := by omega
        have hidx := idx_lt hx hy
        rw [hn] at hidx
        have hmul : ((y0 + j : Nat) : Int) * (W : Int) = (((y0 + j) * W : Nat) : Int) := by simp
        have hput := cellsL_put (g := fillT W x0 y0 x1 v (fun k => l.getD k 0) (y0 + j) (x0 + i)) (g' := fillT W x0 y0 x1 v (fun k => l.getD k 0) (y0 + j) (x0 + i + 1)) (v := v) hidx (by rw [← fillT_step hx (by omega), if_pos rfl]) (fun m _ hm => by rw [← fillT_step hx (by omega), if_neg hm])
        have hadd : (((y0 + j : Nat) : Int) * (W : Int) + ((x0 + i : Nat) : Int)).toNat = (y0 + j) * W + (x0 + i) := by rw [hmul]; omega
        conv => whnf
        refine ⟨⟨⟨⟨trivial, by rw [hmul]; unfold rng; omega⟩, by rw [hmul]; unfold rng; omega⟩, by rw [hmul]; omega⟩, OpAt.store Q (0 + (((y0 + j : Nat) : Int) * (W : Int) + ((x0 + i : Nat) : Int)).toNat) (.int .i64 v) [] rfl (fun h s => s) rfl rfl rfl rfl rfl (by simp [Value.cells, Value.oneCell']) (fun h r => row_put (by rw [hadd]; simp [Value.cells]; omega) r) ?_⟩
        conv => whnf
        refine ⟨⟨trivial, by unfold rng; omega⟩, .mk (i + 1) (by omega) (by omega) (Le.of (Nat.le_of_ble_eq_true rfl) (Nat.zero_le _) ⟨⟨rfl, rfl⟩, ⟨rfl, rfl⟩, ⟨rfl, rfl⟩, ⟨rfl, rfl⟩, ⟨rfl, rfl⟩, ⟨rfl, rfl⟩, ⟨rfl, rfl⟩, trivial⟩ ⟨⟨rfl, rfl, rfl, rfl⟩, ⟨rfl, rfl, rfl, rfl⟩, ⟨rfl, rfl, rfl, rfl⟩, ⟨rfl, rfl, rfl, rfl⟩, trivial⟩ fun h s => sub_same ?_)⟩
        show sepL [rowH (.slice (some ⟨Q, 0, none⟩) n d) n 2 1 (ints (cellsL n (fillT W x0 y0 x1 v (fun k => l.getD k 0) (y0 + j) (x0 + i + 1))))] _ h
        rw [← hput]
        have e3 : (0 + (((y0 + j : Nat) : Int) * (W : Int) + ((x0 + i : Nat) : Int)).toNat) = (y0 + j) * W + (x0 + i) := by rw [hadd, Nat.zero_add]
        rw [← e3]
        exact s
      · have g6 : x0 + i = x1 + 1 := by have := of_decide_eq_false h6; omega
        have hrow : cellsL n (fillT W x0 y0 x1 v (fun k => l.getD k 0) (y0 + j) (x0 + i)) = cellsL n (fillT W x0 y0 x1 v (fun k => l.getD k 0) (y0 + (j + 1)) x0) := by
          rw [g6]
          exact cellsL_eq.2 fun k _ => fillT_row (by omega) k
        conv => whnf
        refine ⟨⟨trivial, by unfold rng; omega⟩, .mk (j + 1) (by omega) (by omega) (Le.of (Nat.le_of_ble_eq_true rfl) (Nat.zero_le _) ⟨⟨rfl, rfl⟩, ⟨rfl, rfl⟩, ⟨rfl, rfl⟩, ⟨rfl, rfl⟩, ⟨rfl, rfl⟩, ⟨rfl, rfl⟩, trivial⟩ ⟨⟨rfl, rfl, rfl, rfl⟩, ⟨rfl, rfl, rfl, rfl⟩, ⟨rfl, rfl, rfl, rfl⟩, ⟨rfl, rfl, rfl, rfl⟩, trivial⟩ fun h s => sub_same ?_)⟩
        show sepL [rowH (.slice (some ⟨Q, 0, none⟩) n d) n 2 1 (ints (cellsL n (fillT W x0 y0 x1 v (fun k => l.getD k 0) (y0 + (j + 1)) x0)))] _ h
        rw [← hrow]
        exact s
    · have g5 : y0 + j = y1 + 1 := by have := of_decide_eq_false h5; omega
      have hend : cellsL n (fillT W x0 y0 x1 v (fun k => l.getD k 0) (y0 + j) x0) = cellsL n (fillK W x0 y0 x1 y1 v (fun k => l.getD k 0)) := by
        rw [g5]
        exact cellsL_eq.2 fun k _ => fillT_end k
      conv => whnf
      rw [hend]
      exact ⟨trivial, .mk _ (fun w s => s) ⟨Q, d, rfl, rfl⟩⟩
end Go.Proofs.YtjnglcjofajcnaaGreat

/-
  the document's sums and ranges; Live.Range.
-/
namespace Go.Proofs.YtjnglcjofajcnaaGreat
open Go.RowKit
open Sy
set_option linter.unusedVariables false
set_option linter.unusedSimpArgs false
set_option maxRecDepth 100000
set_option maxHeartbeats 4000000

theorem sRValBad {R : HP} {A : Option Addr} {n c W H : Nat} {r : Q4} (hb : withinZ r.x0 r.y0 r.x1 r.y1 W H ≠ 0) :
    PureR Tryz.prog R 30 [modV W H A n c, r.v] (.tuple #[.slice none 0 0, .int .i64 (withinZ r.x0 r.y0 r.x1 r.y1 W H)]) := by
  have hwi := fun R' => sRWithin r.x0 r.y0 r.x1 r.y1 W H R'
  generalize withinZ r.x0 r.y0 r.x1 r.y1 W H = z at *
  refine fn_of_run0 false Tryz.func30 rfl hmix rfl fun w0 => ?_
  conv => whnf
  refine ⟨trivial, CallAt.pure (fun R' hR' => hwi R') ?_⟩
  conv => whnf
  refine iff_t (by simpa using hb) ?_
  conv => whnf
  exact ⟨trivial, fin_pure rfl rfl⟩
theorem sRValues_g {R : HP} {A : Option Addr} {n c W H : Nat} {l : List Int} (ha : Vs R A n l) (hn : W * H = n) (hW : W ≤ 1024) (hH : H ≤ 1024) (x0 y0 x1 y1 : Nat) (r2 : x0 ≤ x1) (r3 : x1 < W) (r5 : y0 ≤ y1) (r6 : y1 < H) :
    FnR Tryz.prog R 30 [modV W H A n c, rectV x0 y0 x1 y1] [] fun r hs => ∃ g d, r = .tuple #[.slice (some ⟨g, 0, none⟩) ((y1 - y0 + 1) * (x1 - x0 + 1)) d, .int .i64 0] ∧
      hs = [rowH (.slice (some ⟨g, 0, none⟩) ((y1 - y0 + 1) * (x1 - x0 + 1)) d) ((y1 - y0 + 1) * (x1 - x0 + 1)) 2 1 (ints (vRows (gv W l) x0 (x1 - x0 + 1) y0 (y1 - y0 + 1)))] := by
  have hlen := vRows_len (gv W l) x0 (x1 - x0 + 1) y0 (y1 - y0 + 1)
  have h := sRValues ha hn hW hH x0 y0 x1 y1 r2 r3 r5 r6 (c := c)
  rw [hlen] at h
  intro w s
  refine (h w s).mono ?_
  rintro e w' ⟨r, hs, rfl, ⟨A, d, rfl, rfl⟩, s', hw⟩
  obtain ⟨g, rfl, _⟩ := rowH_at (Sat.left s') (Nat.mul_pos (by omega) (by omega))
  exact ⟨_, _, rfl, ⟨g, d, rfl, rfl⟩, s', hw⟩
theorem sR19Sum {R : HP} {A : Option Addr} {n c W H : Nat} {l : List Int} (ha : Vs R A n l) (hn : W * H = n) (hW : W ≤ 1024) (hH : H ≤ 1024) (hf : Far W H (gv W l)) (r : Q4) :
    PureR Tryz.prog R 10 [modV W H A n c, r.v] (.tuple #[.int .i64 (sumZ W H (gv W l) r).1, .int .i64 (sumZ W H (gv W l) r).2]) := by
  have hwi := fun R' => sRWithin r.x0 r.y0 r.x1 r.y1 W H R'
  by_cases h : withinZ r.x0 r.y0 r.x1 r.y1 W H = 0
  · unfold sumZ
    rw [if_pos h]
    rw [h] at hwi
    obtain ⟨x0, y0, x1, y1, rfl, h1, h2, h3, h4⟩ := within_q h
    have hS := lsum_RS (f := gv W l) h1 h2 h3 h4
    simp only [Int.toNat_natCast]
    rw [← hS]
    have hval := fun R' (h : ∀ w, Sat R' w → Sat R w) => sRValues_g (R := R') (c := c) (ha.mono h) hn hW hH x0 y0 x1 y1 h1 h2 h3 h4
    have hlen := vRows_len (gv W l) x0 (x1 - x0 + 1) y0 (y1 - y0 + 1)
    have hN : (y1 - y0 + 1) * (x1 - x0 + 1) ≤ 1024 * 1024 := Nat.mul_le_mul (by omega) (by omega)
    have hbd : ∀ v ∈ vRows (gv W l) x0 (x1 - x0 + 1) y0 (y1 - y0 + 1), (-1099511627776 : Int) ≤ v ∧ v ≤ 1099511627776 := by
      intro v hv
      unfold vRows vRow at hv
      obtain ⟨j, hj, hv⟩ := List.mem_flatMap.1 hv
      obtain ⟨i, hi, rfl⟩ := List.mem_map.1 hv
      have := List.mem_range.1 hj
      have := List.mem_range.1 hi
      exact hf _ _ (by omega) (by omega)
    generalize vRows (gv W l) x0 (x1 - x0 + 1) y0 (y1 - y0 + 1) = V at *
    generalize (y1 - y0 + 1) * (x1 - x0 + 1) = N at *
    have hsb : ∀ i, i ≤ N → -1152921504606846976 ≤ lsum (V.take i) ∧ lsum (V.take i) ≤ 1152921504606846976 := fun i hi => by
      have h := lsum_bound (l := V.take i) (M := 1099511627776) (by decide) (fun v hv => hbd v (List.mem_of_mem_take hv))
      have e : (V.take i).length = i := by rw [List.length_take]; omega
      rw [e] at h
      omega
    have htk := fun i (h : i < V.length) => lsum_take h
    have hat := fun i (h : i < V.length) => ints_at V i h
    have hall : V.take N = V := List.take_of_length_le (by omega)
    clear hS hbd
    refine fn_of_run0 false Tryz.func10 rfl hmix rfl fun w0 => ?_
    conv => whnf
    refine ⟨trivial, CallAt.pure (fun R' hR' => hwi R') ?_⟩
    conv => whnf
    refine iff_f rfl ?_
    conv => whnf
    refine ⟨trivial, CallAt.fn (pre := []) _ (fun h s => s) (fun R' hR' => hval R' fun w s => hR' w s) ?_⟩
    rintro r hs ⟨vb, vc, rfl, rfl⟩
    conv => whnf
    refine ⟨trivial, LoopAt.keep (α := Nat) [7] (fun i => [(9, .v (.int .i64 (lsum (V.take i)))), (10, .v (.int .i64 (i : Int)))]) (fun i => i ≤ N) (fun i => N - i) 0 (Nat.zero_le _) rfl ⟨⟨rfl, rfl⟩, ⟨rfl, rfl⟩, trivial⟩ ⟨⟨rfl, rfl⟩, trivial⟩ ⟨⟨rfl, rfl, rfl, rfl⟩, ⟨rfl, rfl, rfl, rfl⟩, trivial⟩ ?_⟩
    intro i hi
    conv => whnf
    refine ⟨fun h5 => ?_, fun h5 => ?_⟩
    · have g5 : i < N := by simpa using h5
      have hv := hat i (by omega)
      have ht := htk i (by omega)
      have hb1 := hsb (i + 1) (by omega)
      conv => whnf
      refine ⟨⟨trivial, by omega⟩, LoadAt.cell (.int .i64 V[i]) rfl rfl (fun w hw => by
        have := row_at (hw.in_ 0 rfl) (by omega) hv
        rw [Int.toNat_natCast]; simpa using this) ?_⟩
      conv => whnf
      rw [← ht]
      refine ⟨⟨⟨trivial, by unfold rng; omega⟩, by unfold rng; omega⟩, .keep (i + 1) (by omega) (by omega) ⟨⟨rfl, rfl⟩, ⟨rfl, rfl⟩, trivial⟩ ⟨⟨rfl, rfl⟩, trivial⟩ ⟨⟨rfl, rfl, rfl, rfl⟩, ⟨rfl, rfl, rfl, rfl⟩, trivial⟩ rfl rfl rfl⟩
    · have g5 : i = N := by simp at h5; omega
      subst g5
      conv => whnf
      rw [hall]
      exact ⟨trivial, .mk [] (fun w ⟨h, hs, s⟩ => by obtain ⟨h', e, s'⟩ := sub_nil s; exact ⟨h', hs.mono e, s'⟩) ⟨rfl, rfl⟩⟩
  · unfold sumZ
    rw [if_neg h]
    generalize withinZ r.x0 r.y0 r.x1 r.y1 W H = z at *
    refine fn_of_run0 false Tryz.func10 rfl hmix rfl fun w0 => ?_
    conv => whnf
    refine ⟨trivial, CallAt.pure (fun R' hR' => hwi R') ?_⟩
    conv => whnf
    refine iff_t (by simpa using h) ?_
    conv => whnf
    exact ⟨trivial, fin_pure rfl rfl⟩
/-- the least and the greatest of a rectangle, and the code -/
def rngZ (W H : Nat) (f : Nat → Nat → Int) (r : Q4) : (Int × Int) × Int :=
  if withinZ r.x0 r.y0 r.x1 r.y1 W H = 0 then ((mnL (vRows f r.x0.toNat (r.x1.toNat - r.x0.toNat + 1) r.y0.toNat (r.y1.toNat - r.y0.toNat + 1)), mxL (vRows f r.x0.toNat (r.x1.toNat - r.x0.toNat + 1) r.y0.toNat (r.y1.toNat - r.y0.toNat + 1))), 0) else ((0, 0), withinZ r.x0 r.y0 r.x1 r.y1 W H)
theorem sR21Range {R : HP} {A : Option Addr} {n c W H : Nat} {l : List Int} (ha : Vs R A n l) (hn : W * H = n) (hW : W ≤ 1024) (hH : H ≤ 1024) (r : Q4) :
    PureR Tryz.prog R 12 [modV W H A n c, r.v] (.tuple #[rngV (rngZ W H (gv W l) r).1.1 (rngZ W H (gv W l) r).1.2, .int .i64 (rngZ W H (gv W l) r).2]) := by
  by_cases h : withinZ r.x0 r.y0 r.x1 r.y1 W H = 0
  · unfold rngZ
    rw [if_pos h]
    obtain ⟨x0, y0, x1, y1, rfl, h1, h2, h3, h4⟩ := within_q h
    simp only [Int.toNat_natCast]
    have hval := fun R' (h : ∀ w, Sat R' w → Sat R w) => sRValues_g (R := R') (c := c) (ha.mono h) hn hW hH x0 y0 x1 y1 h1 h2 h3 h4
    have hlen := vRows_len (gv W l) x0 (x1 - x0 + 1) y0 (y1 - y0 + 1)
    have hN : (y1 - y0 + 1) * (x1 - x0 + 1) ≤ 1024 * 1024 := Nat.mul_le_mul (by omega) (by omega)
    generalize vRows (gv W l) x0 (x1 - x0 + 1) y0 (y1 - y0 + 1) = V at *
    generalize (y1 - y0 + 1) * (x1 - x0 + 1) = N at *
    refine fn_of_run0 false Tryz.func12 rfl hmix rfl fun w0 => ?_
    conv => whnf
    refine ⟨trivial, CallAt.fn (pre := []) _ (fun h s => s) (fun R' hR' => hval R' fun w s => hR' w s) ?_⟩
    rintro r hs ⟨vb, vc, rfl, rfl⟩
    conv => whnf
    refine iff_f rfl ?_
    conv => whnf
    refine ⟨trivial, CallAt.pure (fun R' hR' => sRange (Vs.row fun w s => (hR' w s).in_ 0 rfl) (by omega)) ?_⟩
    conv => whnf
    exact ⟨trivial, .mk [] (fun w ⟨h, hs, s⟩ => by obtain ⟨h', e, s'⟩ := sub_nil s; exact ⟨h', hs.mono e, s'⟩) ⟨rfl, rfl⟩⟩
  · have hval := fun R' => sRValBad (R := R') (A := A) (n := n) (c := c) h
    unfold rngZ
    rw [if_neg h]
    generalize withinZ r.x0 r.y0 r.x1 r.y1 W H = z at *
    refine fn_of_run0 false Tryz.func12 rfl hmix rfl fun w0 => ?_
    conv => whnf
    refine ⟨trivial, CallAt.pure (fun R' hR' => hval R') ?_⟩
    conv => whnf
    refine iff_t (by simpa using h) ?_
    conv => whnf
    exact ⟨trivial, fin_pure rfl rfl⟩
theorem sPRangeAny {R : HP} {pb W H : Nat} {f : Nat → Nat → Int} (r : Q4) (hW : 1 ≤ W ∧ W ≤ 1024) (hH : 1 ≤ H ∧ H ≤ 1024) (hf : ∀ a b, a < W → b < H → MayV (f a b)) (hp : ∀ w, Sat R w → Sat (pyrH pb W H (Pf W H f)) w) :
    PureR Tryz.prog R 32 [.pointer (some ⟨pb, 0, none⟩), r.v] (.tuple #[rngV (rngZ W H f r).1.1 (rngZ W H f r).1.2, .int .i64 (rngZ W H f r).2]) := by
  by_cases h : withinZ r.x0 r.y0 r.x1 r.y1 W H = 0
  · have h0 := sPRange hW hH h hp
    unfold rngZ
    rw [if_pos h]
    obtain ⟨x0, y0, x1, y1, rfl, h1, h2, h3, h4⟩ := within_q h
    rw [rangeF_eq hW hH hf h1 h3 h2 h4] at h0
    simp only [Int.toNat_natCast]
    exact h0
  · unfold rngZ
    rw [if_neg h]
    exact sRangeBad hW hH h hp
theorem sLvRange {R : HP} {lb gb W H : Nat} {f : Nat → Nat → Int} {s : Value} {v : Int} {r : Q4} (hW : 1 ≤ W ∧ W ≤ 1024) (hH : 1 ≤ H ∧ H ≤ 1024) (hf : ∀ a b, a < W → b < H → MayV (f a b)) (hl : ∀ w, Sat R w → Sat (liveH lb gb W H f) w)
    (ho : ∀ R' : HP, (∀ w, Sat R' w → Sat R w) → PureR Tryz.prog R' 26 [.pointer (some ⟨lb, 0, none⟩), s, .int .i64 v] (.bool false)) :
    PureR Tryz.prog R 11 [.pointer (some ⟨lb, 0, none⟩), s, .int .i64 v, r.v] (.tuple #[rngV (rngZ W H f r).1.1 (rngZ W H f r).1.2, .bool false, .int .i64 (rngZ W H f r).2]) := by
  have hrg := fun pb R' (h : ∀ w, Sat R' w → Sat (pyrH pb W H (Pf W H f)) w) => sPRangeAny (pb := pb) r hW hH hf h
  generalize rngZ W H f r = q at *
  refine PureR.fix fun w hs' => ?_
  obtain ⟨fb, pb, c0, c1, c2, sf, sp⟩ := live_open (hl w hs')
  refine fn_of_run0 false Tryz.func11 rfl hmix rfl fun w0 => ?_
  conv => whnf
  refine ⟨trivial, CallAt.pure (fun R' hR' => ho R' (fun w s => was_sat hs' (hR' w s))) ?_⟩
  conv => whnf
  refine iff_f rfl ?_
  conv => whnf
  refine ⟨trivial, RegAt.joins [((Tr.T 0 (Tr.T 1 (Tr.T 2 (Tr.T 3 (Tr.T 4 (Tr.C 5 (Tr.T 6 (Tr.T 7 (Tr.T 8 (Tr.H 9 (Tr.H 10 Tr.E))))) 9 (Tr.H 5 (Tr.T 6 (Tr.T 7 (Tr.T 8 (Tr.H 10 Tr.E))))))))))), 11), ((Tr.T 11 Tr.E), 12)] [8] [(13, .p 2 0), (14, .v (.int .i64 q.2))] [(2, 47, [.v (.int .i64 q.1.1), .v (.int .i64 q.1.2)]), (1, 47, [.v (.int .i64 0), .v (.int .i64 0)])] 3 [] hmix (by kernel_rfl) ?_ ?_⟩
  · conv => whnf
    refine ⟨trivial, LoadAt.cell (.pointer (some ⟨pb, 0, none⟩)) rfl rfl (fun w hw => was_cell hw c2) ?_⟩
    conv => whnf
    refine ⟨?_, ?_⟩
    · refine ⟨trivial, CallAt.pure (fun R' hR' => hrg pb R' fun w s => was_sat sp (hR' w s)) ?_⟩
      conv => whnf
      refine ⟨trivial, ⟨⟨rfl, rfl⟩, fun h s => sub_same s⟩, ?_⟩
      conv => whnf
      refine ⟨trivial, ⟨⟨rfl, rfl⟩, fun h s => sub_same s⟩, ?_⟩
      conv => whnf
      refine ⟨trivial, ⟨⟨rfl, rfl⟩, fun h s => sub_same s⟩, ?_⟩
      conv => whnf
      refine ⟨trivial, Le.of (Nat.le_of_ble_eq_true rfl) (Nat.zero_le _) ⟨⟨rfl, rfl⟩, ⟨rfl, rfl⟩, ⟨rfl, rfl⟩, trivial⟩ ⟨⟨rfl, rfl, rfl, rfl⟩, ⟨rfl, rfl, rfl, rfl⟩, trivial⟩ fun h s => sub_same s⟩
    · refine ⟨trivial, ⟨⟨rfl, rfl⟩, fun h s => sub_same s⟩, ?_⟩
      conv => whnf
      refine ⟨trivial, CallAt.pure (fun R' hR' => hrg pb R' fun w s => was_sat sp (hR' w s)) ?_⟩
      conv => whnf
      refine ⟨trivial, ⟨⟨rfl, rfl⟩, fun h s => sub_same s⟩, ?_⟩
      conv => whnf
      refine ⟨trivial, ⟨⟨rfl, rfl⟩, fun h s => sub_same s⟩, ?_⟩
      conv => whnf
      refine ⟨trivial, Le.of (Nat.le_of_ble_eq_true rfl) (Nat.zero_le _) ⟨⟨rfl, rfl⟩, ⟨rfl, rfl⟩, ⟨rfl, rfl⟩, trivial⟩ ⟨⟨rfl, rfl, rfl, rfl⟩, ⟨rfl, rfl, rfl, rfl⟩, trivial⟩ fun h s => sub_same s⟩
  · conv => whnf
    exact ⟨trivial, fin_pure rfl rfl⟩
end Go.Proofs.YtjnglcjofajcnaaGreat

/-
  (*Grid).Fill of a value that can't be: nothing is filled.
-/
namespace Go.Proofs.YtjnglcjofajcnaaGreat
open Go.RowKit
open Sy
set_option linter.unusedVariables false
set_option linter.unusedSimpArgs false
set_option maxRecDepth 100000
set_option maxHeartbeats 4000000

theorem pMay (v : Int) (R : HP) : PureR Tryz.prog R 69 [.int .i64 v] (.bool (decide (MayV v))) :=
  PureR.of_below fun w _ => (may_any v w).mono fun e w' ⟨h1, h2⟩ => ⟨h1, by subst h2; exact Below.refl _ _⟩
theorem sSlCheck {R : HP} {b sw sh : Nat} {x0 y0 x1 y1 : Int} (hw : sw ≤ 16) (hh : sh ≤ 16) (hR : ∀ w, Sat R w → w.cell? ⟨b, 0, none⟩ = some (.int .i64 sw) ∧ w.cell? ⟨b, 1, none⟩ = some (.int .i64 sh)) : PureR Tryz.prog R 68 [.pointer (some ⟨b, 0, none⟩), rectV x0 y0 x1 y1] (.int .i64 (withinZ x0 y0 x1 y1 sw sh)) := by
  refine fn_of_run0 false Tryz.func68 rfl hmix rfl fun w0 => ?_
  conv => whnf
  refine ⟨trivial, RegAt.quiet hmix (by kernel_rfl) ?_⟩
  conv => whnf
  refine ⟨trivial, LoadAt.cell (.int .i64 sw) rfl rfl (fun w hw => (hR w hw).1) ?_⟩
  conv => whnf
  refine ⟨trivial, LoadAt.cell (.int .i64 sh) rfl rfl (fun w hw => (hR w hw).2) ?_⟩
  conv => whnf
  refine ⟨trivial, CallQ.pure (fun R' hR' => pWithin x0 y0 x1 y1 sw sh (by omega) (by omega) R') ?_⟩
  conv => whnf
  refine ⟨trivial, ?_⟩
  conv => whnf
  exact ⟨trivial, fin_pure rfl rfl⟩
theorem sSlFillNo {R : HP} {b sw sh x0 y0 x1 y1 : Nat} {v : Int} (hs : 1 ≤ sw ∧ sw ≤ 16 ∧ 1 ≤ sh ∧ sh ≤ 16) (hx : x0 ≤ x1) (hx' : x1 < sw) (hy : y0 ≤ y1) (hy' : y1 < sh) (hv : ¬ MayV v) (hR : ∀ w, Sat R w → w.cell? ⟨b, 0, none⟩ = some (.int .i64 sw) ∧ w.cell? ⟨b, 1, none⟩ = some (.int .i64 sh)) :
    PureR Tryz.prog R 38 [.pointer (some ⟨b, 0, none⟩), rectV x0 y0 x1 y1, .int .i64 v] (.int .i64 7) := by
  have hwi : withinZ x0 y0 x1 y1 sw sh = 0 := within_of ⟨by omega, by omega, by omega, by omega⟩ (by omega) (by omega) (by omega) (by omega) (by omega) (by omega)
  have hck := fun R' (h : ∀ w, Sat R' w → w.cell? ⟨b, 0, none⟩ = some (.int .i64 sw) ∧ w.cell? ⟨b, 1, none⟩ = some (.int .i64 sh)) => sSlCheck (x0 := x0) (y0 := y0) (x1 := x1) (y1 := y1) hs.2.1 hs.2.2.2 h
  rw [hwi] at hck
  have hm := fun R' => pMay v R'
  rw [decide_eq_false hv] at hm
  refine fn_of_run0 false Tryz.func38 rfl hmix rfl fun w0 => ?_
  conv => whnf
  refine ⟨trivial, CallAt.pure (fun R' hR' => hck R' (fun w s => hR w (hR' w s))) ?_⟩
  conv => whnf
  refine iff_f (by decide) ?_
  conv => whnf
  refine ⟨trivial, CallAt.pure (fun R' hR' => hm R') ?_⟩
  conv => whnf
  refine iff_t rfl ?_
  conv => whnf
  exact ⟨trivial, fin_pure rfl rfl⟩
theorem sFill_no {w : World} {b sw sh : Nat} {f : Nat → Int} {q : Option Nat} (hS : SlabIs w b sw sh f q) (x0 y0 x1 y1 : Nat) (v : Int) (hx : x0 ≤ x1) (hx' : x1 < sw) (hy : y0 ≤ y1) (hy' : y1 < sh) (hv : ¬ MayV v) :
    Calls Tryz.prog 38 #[.pointer (some ⟨b, 0, none⟩), rectV x0 y0 x1 y1, .int .i64 v] w fun e w' => e = .returned (.int .i64 7) ∧ Below w.heap.size w w' := by
  obtain ⟨V, hb, hl⟩ := hS.body
  exact PureR.below (args := [.pointer (some ⟨b, 0, none⟩), rectV x0 y0 x1 y1, .int .i64 v]) (sSlFillNo ⟨hS.w1, hS.w2, hS.h1, hS.h2⟩ hx hx' hy hy' hv fun w' s => ⟨was_cell s (hb.cell 0), was_cell s (hb.cell 1)⟩)

set_option maxHeartbeats 8000000 in
set_option maxRecDepth 100000 in
theorem gFill_no {w : World} {gb W H : Nat} {f : Nat → Nat → Int} {F : Nat → Prop} (hG : GridIs w gb W H f F) (r : Rc) (v : Int) (r1 : 0 ≤ r.x0) (r2 : r.x0 ≤ r.x1) (r3 : r.x1 < W) (r4 : 0 ≤ r.y0) (r5 : r.y0 ≤ r.y1) (r6 : r.y1 < H) (hv : ¬ MayV v) :
    Calls Tryz.prog 14 #[.pointer (some ⟨gb, 0, none⟩), rectV r.x0 r.y0 r.x1 r.y1, .int .i64 v] w (Ret (.int .i64 7) w) := by
  have hG' := hG
  obtain ⟨sb, sc, p, q, hO, hF⟩ := hG'
  have s2 := hO.w2
  have s4 := hO.h2
  have s1 := hO.w1
  have s3 := hO.h1
  have hhd := hO.head
  have hs := fun w' hb' => gcheck_any gb W H (.int .i64 (tiles W)) (.slice (some ⟨sb, 0, none⟩) (tiles W * tiles H) sc) r.x0 r.y0 r.x1 r.y1 w' hb' (by omega) (by omega) (by omega) (by omega)
  rw [show withinZ r.x0 r.y0 r.x1 r.y1 W H = 0 from within_of ⟨by omega, by omega, by omega, by omega⟩ r1 r2 r3 r4 r5 r6] at hs
  have HS := Lib.hid hs
  have HP := Lib.hid fun w' => Pieces_ok r w' ((right_iff _ _ _ _).2 ⟨by omega, by omega, by omega, by omega, by omega, by omega⟩)
  obtain ⟨L, hL⟩ : ∃ L, pcs r = L := ⟨_, rfl⟩
  have hpc := pc_ok r r1 r2 r4 r5
  have hnl : (pcs r).length ≤ 4096 := by
    rw [pcs_len]
    have e1 : pcY r ≤ 64 := by unfold pcY; omega
    have e2 : pcX r ≤ 64 := by unfold pcX; omega
    exact Nat.mul_le_mul e1 e2
  have hpos : 0 < (pcs r).length := by
    rw [pcs_len]
    exact Nat.mul_pos (by unfold pcY; omega) (by unfold pcX; omega)
  rw [hL] at HP hpc hnl hpos
  obtain ⟨n, hn⟩ : ∃ n, L.length = n := ⟨_, rfl⟩
  rw [hn] at hnl hpos
  have HN := Lib.hid hn
  have HPC := Lib.hid hpc
  have HV := Lib.hid hv
  have HG := Lib.hid hG
  have HPOS := Lib.hid hpos
  have HHD := Lib.hid hhd
  have hgl := hhd.lt
  obtain ⟨x0, y0, x1, y1⟩ := r
  simp only at *
  clear hs hpc hL hn hG hO hF hhd hv hpos
  go_enter Tryz.func14, Tryz.ntmps14
  go_wp2_with fail
  refine (HS.out _ (HHD.out.alloc _)).mono ?_
  rintro e w1 ⟨rfl, hb1⟩
  have hb1' : Below (w.heap.size + 1) (w.alloc (.cells #[.int .i64 x0, .int .i64 y0, .int .i64 x1, .int .i64 y1] 26)) w1 := by simpa using hb1
  obtain ⟨c0, c1, c2, c3⟩ := (box4_new w (.int .i64 x0) (.int .i64 y0) (.int .i64 x1) (.int .i64 y1) 26).bel hb1' (by omega)
  have HB : Below w.heap.size w w1 := (new_bel w _).trans (hb1'.mono (by omega))
  clear hb1 hb1' HS
  go_wp2_with fail
  refine (HP.out _).mono ?_
  rintro e w2 ⟨RA, rc, rfl, hrects, hb2⟩
  rw [HN.out] at hrects ⊢
  have HB2 : Below w.heap.size w w2 := bel_trans HB hb2 (Nat.le_refl _)
  have HR := Lib.hid (ownsRow_low hrects HB.size)
  clear hrects hb2 c0 c1 c2 c3 HP HB
  go_wp2_with fail
  go_loopw [22] (fun t wr => ∃ k : Nat, k ≤ 0 ∧ t = .int .i64 k ∧ Hid (Below w.heap.size w wr) ∧ Hid (wr.ownsRow w.heap.size 26 4 (.slice RA n rc) n (flt encR L))) (fun t _ => n - (intOf t).toNat)
  case atStart =>
    exact ⟨0, Nat.le_refl _, rfl, Lib.hid HB2, HR⟩
  case round =>
    obtain ⟨k, hk, rfl, HTr, HRr⟩ := hrel
    by_cases hlt : k < n
    · have hlt' : k < L.length := by rw [HN.out]; exact hlt
      obtain ⟨a0, b0, a1, b1, hpk, ha, hb, ea, eb, ha1, hb1⟩ := HPC.out k hlt'
      obtain ⟨g, hRA, hg1, hg2, hcell⟩ := own_thing (l := L) encR_len (by rw [HN.out]; exact HRr.out) hlt'
      subst hRA
      rw [hpk] at hcell
      have e0 : wr.cell? ⟨g, k * 4, none⟩ = some (.int .i64 a0) := hcell 0 _ rfl
      have e1 : wr.cell? ⟨g, k * 4 + 1, none⟩ = some (.int .i64 b0) := hcell 1 _ rfl
      have e2 : wr.cell? ⟨g, k * 4 + 2, none⟩ = some (.int .i64 a1) := hcell 2 _ rfl
      have e3 : wr.cell? ⟨g, k * 4 + 3, none⟩ = some (.int .i64 b1) := hcell 3 _ rfl
      have t1 : (k : Int) < (n : Int) := by omega
      have HPK := Lib.hid hpk
      have HEA := Lib.hid ea
      have HEB := Lib.hid eb
      clear hcell hpk ea eb
      go_upto_region 7 with fail
      obtain ⟨w5, hw5⟩ : ∃ w5, wr.alloc (.cells #[.int .i64 a0, .int .i64 b0, .int .i64 a1, .int .i64 b1] 26) = w5 := ⟨_, rfl⟩
      rw [hw5]
      have C : Box4 w5 wr.heap.size (.int .i64 a0) (.int .i64 b0) (.int .i64 a1) (.int .i64 b1) := by rw [← hw5]; exact box4_new wr _ _ _ _ _
      have hz5 : w5.heap.size = wr.heap.size + 1 := by rw [← hw5]; simp
      have HW5 := Lib.hid hw5
      have hB5 : wr.heap.size + 1 ≤ w5.heap.size := by omega
      have hb5 : wr.heap.size < wr.heap.size + 1 := by omega
      have HX0 := Below.refl (wr.heap.size + 1) w5
      have HZ5 := Lib.hid hz5
      clear hw5 hz5 e0 e1 e2 e3
      obtain ⟨A0, hA0⟩ : ∃ A0, a0 % 16 = A0 := ⟨_, rfl⟩
      obtain ⟨B0, hB0⟩ : ∃ B0, b0 % 16 = B0 := ⟨_, rfl⟩
      obtain ⟨A1, hA1⟩ : ∃ A1, a1 % 16 = A1 := ⟨_, rfl⟩
      obtain ⟨B1, hB1⟩ : ∃ B1, b1 % 16 = B1 := ⟨_, rfl⟩
      have HI0 := Lib.hid fun w' => inner_eq a0 b0 w'
      have HI1 := Lib.hid fun w' => inner_eq a1 b1 w'
      rw [hA0, hB0] at HI0
      rw [hA1, hB1] at HI1
      have HA0 := Lib.hid hA0
      have HB0 := Lib.hid hB0
      have HA1 := Lib.hid hA1
      have HB1 := Lib.hid hB1
      clear hA0 hB0 hA1 hB1
      go_cut [10, 11] (fun s10 s11 wx => ∃ ga gc : Nat, s10 = .pointer (some ⟨ga, 0, none⟩) ∧ s11 = .pointer (some ⟨gc, 0, none⟩) ∧ Blk wx ga 64 #[.int .i64 A0, .int .i64 B0] ∧ Blk wx gc 64 #[.int .i64 A1, .int .i64 B1] ∧ Below (wr.heap.size + 1) w5 wx)
      case first =>
        go_region_held3 (fun W' => (W'.cell? ⟨wr.heap.size, 0, none⟩ = some (.int .i64 a0) ∧ W'.cell? ⟨wr.heap.size, 1, none⟩ = some (.int .i64 b0) ∧ W'.cell? ⟨wr.heap.size, 2, none⟩ = some (.int .i64 a1) ∧ W'.cell? ⟨wr.heap.size, 3, none⟩ = some (.int .i64 b1)) ∧ Below (wr.heap.size + 1) w5 W')
          (first | exact ⟨C, HX0.drew⟩ | (refine keep_of ?_ hb5 C; repeat (first | exact HX0 | exact HX0.drew | refine Below.drew ?_ | refine bel_alloc' ?_ hB5 _ | refine bel_set' ?_ (by simp; omega) _)))
          ((go_at_call 36; (first | with_reducible refine (HI0.out _).mono ?_ | with_reducible refine (HI1.out _).mono ?_); rintro e w6 ⟨rfl, rfl⟩))
        all_goals
          go_wp2_with fail
          go_meet
          refine ⟨_, _, rfl, rfl, ?_, ?_, ?_⟩
          · repeat (first | (refine Blk.new' _ _ _ ?_; first | rfl | (simp; done)) | refine Blk.drew ?_ | refine Blk.alloc ?_ _)
          · repeat (first | (refine Blk.new' _ _ _ ?_; first | rfl | (simp; done)) | refine Blk.drew ?_ | refine Blk.alloc ?_ _)
          · repeat (first | exact HX0 | exact HX0.drew | refine Below.drew ?_ | refine bel_alloc' ?_ hB5 _ | refine bel_set' ?_ (by simp; omega) _)
      case rest =>
        obtain ⟨ga, gc, rfl, rfl, BA, BD, HBx⟩ := hcut
        have HBr : Below wr.heap.size wr wc := by
          have e := HW5.out
          have h5 : Below wr.heap.size wr w5 := by rw [← e]; exact new_bel wr _
          exact h5.trans (HBx.mono (by omega))
        have BR : Blk wc wr.heap.size 26 #[.int .i64 a0, .int .i64 b0, .int .i64 a1, .int .i64 b1] := by
          have e := HW5.out
          refine Blk.below ?_ HBx (by omega)
          rw [← e]; exact Blk.new wr _ _
        obtain ⟨sb2, sc2, p2, q2, hO2, hF2⟩ := (HG.out.kept HTr.out).kept HBr
        have hI := tile_of (show a0 < W by omega)
        have hJ := tile_of (show b0 < H by omega)
        have hK := idx_lt hI.1 hJ.1
        have hSL := hO2.slabs _ _ hI.1 hJ.1
        obtain ⟨cur, hcur, hptr⟩ := hO2.list
        have hat := (hcur.cell _).trans (hptr _ hK)
        have HSA := Lib.hid <| gslab_at gb sb2 _ sc2 (tiles W) a0 b0 _ _ _ _ #[] wc.drew hO2.head.drew hat rfl hK (tiles_le s2) (by omega) (by omega)
        have HFL := Lib.hid fun w' (hw' : Below wc.heap.size wc w') => sFill_no (hSL.kept hw') (a0 % 16) (b0 % 16) (a1 % 16) (b1 % 16) v (by have := HEA.out; omega) (by have := HEA.out; have h2 := (tile_of (show a1 < W by omega)).2; rw [← this] at h2; exact h2) (by have := HEB.out; omega) (by have := HEB.out; have h2 := (tile_of (show b1 < H by omega)).2; rw [← this] at h2; exact h2) HV.out
        rw [HA0.out, HB0.out, HA1.out, HB1.out] at HFL
        have HO2 := Lib.hid hO2
        have HF2 := Lib.hid hF2
        have HSL := Lib.hid hSL
        obtain ⟨K, hKe⟩ : ∃ K, b0 / 16 * tiles W + a0 / 16 = K := ⟨_, rfl⟩
        rw [hKe] at HSA HFL HSL
        obtain ⟨sl, hsl⟩ : ∃ sl, p2 K = sl := ⟨_, rfl⟩
        rw [hsl] at HSA HFL HSL
        obtain ⟨q0, hq0⟩ : ∃ q0, q2 K = q0 := ⟨_, rfl⟩
        rw [hq0] at HSL
        have HKE := Lib.hid hKe
        have HSE := Lib.hid hsl
        have HQE := Lib.hid hq0
        have SS : (wc.cell? ⟨wr.heap.size, 0, none⟩ = some (.int .i64 a0) ∧ wc.cell? ⟨wr.heap.size, 1, none⟩ = some (.int .i64 b0)) ∧ (wc.cell? ⟨ga, 0, none⟩ = some (.int .i64 A0) ∧ wc.cell? ⟨ga, 1, none⟩ = some (.int .i64 B0)) ∧ (wc.cell? ⟨gc, 0, none⟩ = some (.int .i64 A1) ∧ wc.cell? ⟨gc, 1, none⟩ = some (.int .i64 B1)) := ⟨⟨BR.cell 0, BR.cell 1⟩, ⟨BA.cell 0, BA.cell 1⟩, BD.cell 0, BD.cell 1⟩
        have HK8 : Hid (∀ m w7, Below (wc.drewN m).heap.size (wc.drewN m) w7 → (w7.cell? ⟨wr.heap.size, 0, none⟩ = some (.int .i64 a0) ∧ w7.cell? ⟨wr.heap.size, 1, none⟩ = some (.int .i64 b0)) ∧ (w7.cell? ⟨ga, 0, none⟩ = some (.int .i64 A0) ∧ w7.cell? ⟨ga, 1, none⟩ = some (.int .i64 B0)) ∧ (w7.cell? ⟨gc, 0, none⟩ = some (.int .i64 A1) ∧ w7.cell? ⟨gc, 1, none⟩ = some (.int .i64 B1))) := Lib.hid fun m w7 hT => by
          have r1 := (BR.drewN m).kept hT
          have r2 := (BA.drewN m).kept hT
          have r3 := (BD.drewN m).kept hT
          exact ⟨⟨r1.cell 0, r1.cell 1⟩, ⟨r2.cell 0, r2.cell 1⟩, r3.cell 0, r3.cell 1⟩
        clear hO2 hF2 hSL hcur hptr hat hKe hsl hq0 BR BA BD hI hJ hK HI0 HI1
        go_wp2_with fail
        go_region_held3 (fun W' => (W'.cell? ⟨wr.heap.size, 0, none⟩ = some (.int .i64 a0) ∧ W'.cell? ⟨wr.heap.size, 1, none⟩ = some (.int .i64 b0)) ∧ (W'.cell? ⟨ga, 0, none⟩ = some (.int .i64 A0) ∧ W'.cell? ⟨ga, 1, none⟩ = some (.int .i64 B0)) ∧ (W'.cell? ⟨gc, 0, none⟩ = some (.int .i64 A1) ∧ W'.cell? ⟨gc, 1, none⟩ = some (.int .i64 B1)))
          (first | exact SS | exact HK8.out _ _ hT7)
          (first | (go_at_call 37; refine HSA.out.mono ?_; rintro e w6 ⟨rfl, m, rfl⟩) | (go_at_call 38; refine (HFL.out _ (bel_drewN (Below.refl _ _) _)).mono ?_; rintro e w7 ⟨rfl, hT7⟩))
        go_wp2_with fail
        go_ret
        refine ⟨rfl, ?_⟩
        have h8 := bel_drewN (Below.refl wc.heap.size wc) (1 + m)
        exact bel_trans (bel_trans HTr.out HBr (Nat.le_refl _)) (bel_trans h8 hT7 (Nat.le_refl _)) (Nat.le_refl _)
    · exact absurd HPOS.out (by omega)
/-- a value that can't be: nothing is filled -/
theorem gFillNo {R : HP} {gb W H : Nat} {f : Nat → Nat → Int} {x0 y0 x1 y1 v : Int} (hR : ∀ w, Sat R w → GridAt w gb W H f) (hb : withinZ x0 y0 x1 y1 W H = 0) (hv : ¬ MayV v) : PureR Tryz.prog R 14 [.pointer (some ⟨gb, 0, none⟩), rectV x0 y0 x1 y1, .int .i64 v] (.int .i64 7) := by
  obtain ⟨_, a1, a2, a3, a4, a5, a6⟩ := within_zero hb
  exact PureR.of_below fun w s => by
    obtain ⟨sb, c, p, q, hO⟩ := hR w s
    exact gFill_no (F := fun _ => True) ⟨sb, c, p, q, hO, fun _ _ => ⟨trivial, fun _ _ => trivial⟩⟩ ⟨x0, y0, x1, y1⟩ v a1 a2 a3 a4 a5 a6 hv
/-- a rectangle that is none: nothing is filled -/
theorem gFillBad {R : HP} {gb W H : Nat} {f : Nat → Nat → Int} {x0 y0 x1 y1 v : Int} (hR : ∀ w, Sat R w → GridAt w gb W H f) (hb : withinZ x0 y0 x1 y1 W H ≠ 0) : PureR Tryz.prog R 14 [.pointer (some ⟨gb, 0, none⟩), rectV x0 y0 x1 y1, .int .i64 v] (.int .i64 (withinZ x0 y0 x1 y1 W H)) := by
  have hck := fun R' (h : ∀ w, Sat R' w → GridAt w gb W H f) => gCheckP (x0 := x0) (y0 := y0) (x1 := x1) (y1 := y1) h
  generalize withinZ x0 y0 x1 y1 W H = z at *
  refine fn_of_run0 false Tryz.func14 rfl hmix rfl fun w0 => ?_
  conv => whnf
  refine ⟨trivial, CallAt.pure (fun R' hR' => hck R' (fun w s => hR w (hR' w s))) ?_⟩
  conv => whnf
  refine iff_t (by simpa using hb) ?_
  conv => whnf
  exact ⟨trivial, fin_pure rfl rfl⟩
end Go.Proofs.YtjnglcjofajcnaaGreat

/-
  A fill of the land, of its grid, and of what goes with it: whatever the rectangle and the value.
-/
namespace Go.Proofs.YtjnglcjofajcnaaGreat
open Go.RowKit
open Sy
set_option linter.unusedVariables false
set_option linter.unusedSimpArgs false
set_option maxRecDepth 100000
set_option maxHeartbeats 4000000

def codeF (W H : Nat) (r : Q4) (v : Int) : Int := if withinZ r.x0 r.y0 r.x1 r.y1 W H = 0 then (if MayV v then 0 else 7) else withinZ r.x0 r.y0 r.x1 r.y1 W H
def nextL (W H n : Nat) (r : Q4) (v : Int) (l : List Int) : List Int := if codeF W H r v = 0 then cellsL n (fillK W r.x0.toNat r.y0.toNat r.x1.toNat r.y1.toNat v fun k => l.getD k 0) else l
theorem codeF_zero {W H : Nat} {r : Q4} {v : Int} (h : codeF W H r v = 0) : withinZ r.x0 r.y0 r.x1 r.y1 W H = 0 ∧ MayV v := by
  unfold codeF at h
  split at h
  · rename_i h1
    split at h
    · rename_i h2
      exact ⟨h1, h2⟩
    · omega
  · rename_i h1
    exact absurd h h1
theorem nextL_len {W H n : Nat} {r : Q4} {v : Int} {l : List Int} (h : l.length = n) : (nextL W H n r v l).length = n := by
  unfold nextL
  split
  · exact cellsL_len _ _
  · exact h
theorem cellsL_getD {n k : Nat} {f : Nat → Int} (h : k < n) : (cellsL n f).getD k 0 = f k := by
  rw [List.getD_eq_getElem?_getD]
  simp [cellsL, h]
theorem nextL_may {W H n : Nat} {r : Q4} {v : Int} {l : List Int} (hl : l.length = n) (h : ∀ u ∈ l, MayV u) : ∀ u ∈ nextL W H n r v l, MayV u := by
  intro u hu
  unfold nextL at hu
  split at hu
  · rename_i hc
    obtain ⟨_, hv⟩ := codeF_zero hc
    unfold cellsL at hu
    obtain ⟨k, hk, rfl⟩ := List.mem_map.1 hu
    have hk := List.mem_range.1 hk
    unfold fillK
    split
    · exact hv
    · show MayV (l.getD k 0)
      rw [List.getD_eq_getElem?_getD, List.getElem?_eq_getElem (by omega)]
      exact h _ (List.getElem_mem _)
  · exact h u hu
/-- the cells behind a fill -/
theorem nextL_gv {W H n x0 y0 x1 y1 : Nat} {v : Int} {l : List Int} (hn : W * H = n) (hc : codeF W H ⟨x0, y0, x1, y1⟩ v = 0) {x y : Nat} (hx : x < W) (hy : y < H) : gv W (nextL W H n ⟨x0, y0, x1, y1⟩ v l) x y = fillG ⟨x0, y0, x1, y1⟩ v (gv W l) x y := by
  have hk := idx_lt hx hy
  rw [hn] at hk
  have hxy := (at_iff (sw := W) (k := y * W + x) (y := y) hx).1 rfl
  unfold nextL
  rw [if_pos hc]
  unfold gv
  rw [cellsL_getD hk]
  unfold fillK fillG
  simp only [Int.toNat_natCast]
  rw [hxy.1, hxy.2]
  by_cases c : x0 ≤ x ∧ x ≤ x1 ∧ y0 ≤ y ∧ y ≤ y1
  · rw [if_pos c, if_pos ((inR_iff _ _ _).2 (by simp only; omega))]
  · rw [if_neg c, if_neg (fun q => c (by have := (inR_iff _ _ _).1 q; simp only at this; omega))]
theorem far_of_may {W H : Nat} {f : Nat → Nat → Int} (h : ∀ x y, x < W → y < H → MayV (f x y)) : Far W H f := fun i j hi hj => by
  have := h i j hi hj
  unfold MayV at this
  omega
theorem gv_may {W H n : Nat} {l : List Int} (hn : W * H = n) (hl : l.length = n) (h : ∀ u ∈ l, MayV u) : ∀ x y, x < W → y < H → MayV (gv W l x y) := fun x y hx hy => by
  have hk := idx_lt hx hy
  unfold gv
  rw [List.getD_eq_getElem?_getD, List.getElem?_eq_getElem (by omega)]
  exact h _ (List.getElem_mem _)
/-- a land's values: a row of their own, or what was handed in -/
def mqH (C : Prop) (A : Option Addr) (n c : Nat) (l : List Int) : HP := fun h => rowH (.slice A n c) n 2 1 (ints l) h ∨ (h = (fun _ => none) ∧ C)
theorem mq_vs {R R' : HP} {A : Option Addr} {n c : Nat} {l : List Int} (h1 : ∀ w, Sat R' w → Sat (mqH (Vs R A n l) A n c l) w) (h2 : ∀ w, Sat R' w → Sat R w) : Vs R' A n l := fun w s => by
  obtain ⟨h, e, q⟩ := h1 w s
  rcases q with q | ⟨_, q⟩
  · exact rowH_reads rfl ⟨h, e, q⟩
  · exact q w (h2 w s)
theorem mq_nil {R : HP} {C : Prop} {A : Option Addr} {n c : Nat} {l : List Int} (hC : C) {L : List HP} {h : Hl} (s : sepL L R h) : sepL (mqH C A n c l :: L) R h := by
  refine ⟨fun _ => none, h, fun i => .inl rfl, ?_, .inr ⟨rfl, hC⟩, s⟩
  funext i; simp [un]
theorem sMFillAny {R R0 : HP} {A : Option Addr} {n c W H : Nat} {l : List Int} (r : Q4) (v : Int) (h0 : ∀ w, Sat R w → Sat R0 w) (hn : W * H = n) (hW : W ≤ 1024) (hH : H ≤ 1024) :
    FnR Tryz.prog R 13 [modV W H A n c, r.v, .int .i64 v] [mqH (Vs R0 A n l) A n c l] fun x hs => ∃ A' c', x = .tuple #[modV W H A' n c', .int .i64 (codeF W H r v)] ∧ hs = [mqH (Vs R0 A' n (nextL W H n r v l)) A' n c' (nextL W H n r v l)] := by
  by_cases hw : withinZ r.x0 r.y0 r.x1 r.y1 W H = 0
  · by_cases hv : MayV v
    · have hc : codeF W H r v = 0 := by unfold codeF; rw [if_pos hw, if_pos hv]
      obtain ⟨x0, y0, x1, y1, rfl, h1, h2, h3, h4⟩ := within_q hw
      intro w s
      have hvs : Vs (sepL [mqH (Vs R0 A n l) A n c l] R) A n l := mq_vs (fun w s => s.in_ 0 rfl) (fun w s => h0 w s.rest)
      refine (sMFill (c := c) hvs hn hW hH x0 y0 x1 y1 h1 h2 h3 h4 hv w s).mono ?_
      rintro e w' ⟨x, hs, rfl, ⟨B, d, rfl, rfl⟩, s', hw'⟩
      refine ⟨_, _, rfl, ⟨some ⟨B, 0, none⟩, d, by rw [hc], rfl⟩, ?_, hw'⟩
      have e2 : nextL W H n ⟨x0, y0, x1, y1⟩ v l = cellsL n (fillK W x0 y0 x1 y1 v fun k => l.getD k 0) := by
        unfold nextL
        rw [if_pos hc]
        simp only [Int.toNat_natCast]
      obtain ⟨h, g1, g2⟩ := s'
      obtain ⟨hh, e3, s3⟩ := sub_tail (sepL_pull 1 (show sepL [_, mqH (Vs R0 A n l) A n c l] R h from g2))
      refine ⟨hh, g1.mono e3, ?_⟩
      rw [e2]
      obtain ⟨a1, a2, a3, a4, a5, a6⟩ := s3
      exact ⟨a1, a2, a3, a4, .inl a5, a6⟩
    · have hc : codeF W H r v = 7 := by unfold codeF; rw [if_pos hw, if_neg hv]
      have e2 : nextL W H n r v l = l := by unfold nextL; rw [if_neg (by rw [hc]; decide)]
      rw [hc, e2]
      intro w s
      refine (sMFillNo (R := sepL [mqH (Vs R0 A n l) A n c l] R) (A := A) (n := n) (c := c) hw hv w s).mono ?_
      rintro e w' ⟨x, hs, rfl, ⟨rfl, rfl⟩, s', hw'⟩
      exact ⟨_, _, rfl, ⟨A, c, rfl, rfl⟩, s', hw'⟩
  · have hc : codeF W H r v = withinZ r.x0 r.y0 r.x1 r.y1 W H := by unfold codeF; rw [if_neg hw]
    have e2 : nextL W H n r v l = l := by unfold nextL; rw [if_neg (by rw [hc]; exact hw)]
    rw [hc, e2]
    intro w s
    refine (sMFillBad (R := sepL [mqH (Vs R0 A n l) A n c l] R) (A := A) (n := n) (c := c) (v := v) hw w s).mono ?_
    rintro e w' ⟨x, hs, rfl, ⟨rfl, rfl⟩, s', hw'⟩
    exact ⟨_, _, rfl, ⟨A, c, rfl, rfl⟩, s', hw'⟩
theorem gFillAny {R : HP} {gb W H n : Nat} {l : List Int} (r : Q4) (v : Int) (hn : W * H = n) :
    FnR Tryz.prog R 14 [.pointer (some ⟨gb, 0, none⟩), r.v, .int .i64 v] [gridH gb W H (gv W l)] fun x hs => x = .int .i64 (codeF W H r v) ∧ hs = [gridH gb W H (gv W (nextL W H n r v l))] := by
  by_cases hw : withinZ r.x0 r.y0 r.x1 r.y1 W H = 0
  · by_cases hv : MayV v
    · have hc : codeF W H r v = 0 := by unfold codeF; rw [if_pos hw, if_pos hv]
      obtain ⟨x0, y0, x1, y1, rfl, h1, h2, h3, h4⟩ := within_q hw
      intro w s
      refine (gFill_f (f := gv W l) ⟨x0, y0, x1, y1⟩ v (by simp only; omega) (by simp only; omega) (by simp only; omega) (by simp only; omega) (by simp only; omega) (by simp only; omega) hv w s).mono ?_
      rintro e w' ⟨x, hs, rfl, ⟨rfl, rfl⟩, s', hw'⟩
      refine ⟨_, _, rfl, ⟨by rw [hc], rfl⟩, ?_, hw'⟩
      obtain ⟨h, g1, a1, a2, a3, a4, a5, a6⟩ := s'
      exact ⟨h, g1, a1, a2, a3, a4, gridH_congr (fun x y hx hy => (nextL_gv hn hc hx hy).symm) a5, a6⟩
    · have hc : codeF W H r v = 7 := by unfold codeF; rw [if_pos hw, if_neg hv]
      have e2 : nextL W H n r v l = l := by unfold nextL; rw [if_neg (by rw [hc]; decide)]
      rw [hc, e2]
      intro w s
      refine (gFillNo (R := sepL [gridH gb W H (gv W l)] R) (gridAt_rest 0 rfl fun w s => s) hw hv w s).mono ?_
      rintro e w' ⟨x, hs, rfl, ⟨rfl, rfl⟩, s', hw'⟩
      exact ⟨_, _, rfl, ⟨rfl, rfl⟩, s', hw'⟩
  · have hc : codeF W H r v = withinZ r.x0 r.y0 r.x1 r.y1 W H := by unfold codeF; rw [if_neg hw]
    have e2 : nextL W H n r v l = l := by unfold nextL; rw [if_neg (by rw [hc]; exact hw)]
    rw [hc, e2]
    intro w s
    refine (gFillBad (R := sepL [gridH gb W H (gv W l)] R) (v := v) (gridAt_rest 0 rfl fun w s => s) hw w s).mono ?_
    rintro e w' ⟨x, hs, rfl, ⟨rfl, rfl⟩, s', hw'⟩
    exact ⟨_, _, rfl, ⟨rfl, rfl⟩, s', hw'⟩
theorem sRValAny {R : HP} {A : Option Addr} {n c W H : Nat} {l : List Int} (ha : Vs R A n l) (r : Q4) (hn : W * H = n) (hW : W ≤ 1024) (hH : H ≤ 1024) :
    FnR Tryz.prog R 30 [modV W H A n c, r.v] [] fun x hs => ∃ B k d, x = .tuple #[.slice B k d, .int .i64 (withinZ r.x0 r.y0 r.x1 r.y1 W H)] ∧ hs = [] := by
  by_cases hw : withinZ r.x0 r.y0 r.x1 r.y1 W H = 0
  · rw [hw]
    obtain ⟨x0, y0, x1, y1, rfl, h1, h2, h3, h4⟩ := within_q hw
    intro w s
    refine (sRValues_g (c := c) ha hn hW hH x0 y0 x1 y1 h1 h2 h3 h4 w s).mono ?_
    rintro e w' ⟨x, hs, rfl, ⟨B, d, rfl, rfl⟩, s', hw'⟩
    exact ⟨_, _, rfl, ⟨_, _, _, rfl, rfl⟩, s'.rest, hw'⟩
  · intro w s
    refine (sRValBad (A := A) (n := n) (c := c) hw w s).mono ?_
    rintro e w' ⟨x, hs, rfl, ⟨rfl, rfl⟩, s', hw'⟩
    exact ⟨_, _, rfl, ⟨none, 0, 0, rfl, rfl⟩, s', hw'⟩
theorem sChangedAny {R : HP} {lb gb W H n : Nat} {l : List Int} (r : Q4) (v : Int) (hn : W * H = n) (hl : l.length = n) (hm : ∀ u ∈ l, MayV u) (hR : ∀ w, Sat R w → GridAt w gb W H (gv W (nextL W H n r v l))) :
    FnR Tryz.prog R 15 [.pointer (some ⟨lb, 0, none⟩), r.v] [liveH lb gb W H (gv W l)] fun x hs => x = .int .i64 (withinZ r.x0 r.y0 r.x1 r.y1 W H) ∧ hs = [liveH lb gb W H (gv W (nextL W H n r v l))] := by
  have hf := far_of_may (gv_may hn hl hm)
  have hg := far_of_may (gv_may hn (nextL_len (W := W) (H := H) (r := r) (v := v) hl) (nextL_may hl hm))
  by_cases hw : withinZ r.x0 r.y0 r.x1 r.y1 W H = 0
  · rw [hw]
    obtain ⟨x0, y0, x1, y1, rfl, h1, h2, h3, h4⟩ := within_q hw
    refine sChanged hf hg hR h1 h3 h2 h4 fun a b ha hb => ?_
    unfold mergeG
    split
    · rfl
    · rename_i hnot
      by_cases hc : codeF W H ⟨x0, y0, x1, y1⟩ v = 0
      · rw [nextL_gv hn hc ha hb]
        unfold fillG
        rw [if_neg (fun q => hnot (by have := (inR_iff _ _ _).1 q; simp only at this; omega))]
      · unfold nextL
        rw [if_neg hc]
  · have hc : ¬ codeF W H r v = 0 := fun h => hw (codeF_zero h).1
    have e2 : nextL W H n r v l = l := by unfold nextL; rw [if_neg hc]
    rw [e2] at hR ⊢
    intro w s
    refine (sChangedBad (R := sepL [liveH lb gb W H (gv W l)] R) hw (fun w s => s.in_ 0 rfl) (fun w s => hR w s.rest) w s).mono ?_
    rintro e w' ⟨x, hs, rfl, ⟨rfl, rfl⟩, s', hw'⟩
    exact ⟨_, _, rfl, ⟨rfl, rfl⟩, s', hw'⟩
end Go.Proofs.YtjnglcjofajcnaaGreat

/-
  snap: a snapshot with its squares; which one tells.
-/
namespace Go.Proofs.YtjnglcjofajcnaaGreat
open Go.RowKit
open Sy
set_option linter.unusedVariables false
set_option linter.unusedSimpArgs false
set_option maxRecDepth 100000
set_option maxHeartbeats 4000000

noncomputable def snapQP (sb : Nat) (st : Int) (W H : Nat) (f : Nat → Nat → Int) (x : Nat × Nat) : List HP := [blkH sb 79 #[.int .i64 st, .pointer (some ⟨x.1, 0, none⟩), .pointer (some ⟨x.2, 0, none⟩)], areaH x.1 W H f, sparseH x.2 W H f]
/-- a snapshot: its stamp, its sums, its squares -/
noncomputable def snapQ (sb : Nat) (st : Int) (W H : Nat) (f : Nat → Nat → Int) : HP := boxH (snapQP sb st W H f)
theorem snapQ_snap {w : World} {sb W H : Nat} {st : Int} {f : Nat → Nat → Int} (s : Sat (snapQ sb st W H f) w) : Sat (snapH sb st W H f) w := by
  obtain ⟨h, h1, ⟨x, h2⟩⟩ := s
  obtain ⟨h', e, s'⟩ := sub_front (m := snapP sb st W H f x) (r := [sparseH x.2 W H f]) h2
  exact ⟨h', h1.mono e, x, s'⟩
theorem snapQ_open {w : World} {sb W H : Nat} {st : Int} {f : Nat → Nat → Int} (s : Sat (snapQ sb st W H f) w) : ∃ qb, w.cell? ⟨sb, 2, none⟩ = some (.pointer (some ⟨qb, 0, none⟩)) ∧ Sat (sparseH qb W H f) w := by
  obtain ⟨⟨ab, qb⟩, s⟩ := Sat.unbox s
  have s1 := s.in_ 0 rfl
  exact ⟨qb, (blk_sat s1).cell 2, s.in_ 2 rfl⟩
theorem sTakeQ {R : HP} {gb W H : Nat} {f : Nat → Nat → Int} (st : Int) (hf : Far W H f) (hR : ∀ w, Sat R w → GridAt w gb W H f) :
    FnR Tryz.prog R 8 [.pointer (some ⟨gb, 0, none⟩), .int .i64 st] [] fun r hs => ∃ sb, r = .tuple #[.pointer (some ⟨sb, 0, none⟩), .int .i64 0] ∧ hs = [snapQ sb st W H f] := by
  have har := fun R' (h : ∀ w, Sat R' w → GridAt w gb W H f) => sABuild hf h
  have hsp := fun R' (h : ∀ w, Sat R' w → GridAt w gb W H f) => sSBuild h
  refine fn_of_run0 false Tryz.func8 rfl hmix rfl fun w0 => ?_
  conv => whnf
  refine ⟨trivial, CallAt.fn (pre := []) [] (fun h s => s) (fun R' hR' => har R' fun w s => hR w (hR' w s)) ?_⟩
  rintro r hs ⟨ab, rfl, rfl⟩
  conv => whnf
  refine ⟨trivial, CallAt.fn (pre := []) _ (fun h s => s) (fun R' hR' => hsp R' fun w s => hR w (hR' w s).rest) ?_⟩
  rintro r hs ⟨qb, rfl, rfl⟩
  conv => whnf
  intro sb _
  conv => whnf
  exact ⟨trivial, .mk [snapQ sb st W H f] (fun w ⟨h, hs, s⟩ => ⟨h, hs, boxH_shut (parts := snapQP sb st W H f) (ab, qb) (sepL_perm (List.Perm.cons _ (List.Perm.swap _ _ _)) s)⟩) ⟨sb, rfl, rfl⟩⟩
theorem sSpRangeAny {R : HP} {tb W H : Nat} {f : Nat → Nat → Int} (r : Q4) (hW : W ≤ 1024) (hH : H ≤ 1024) (hR : ∀ w, Sat R w → Sat (sparseH tb W H f) w) :
    PureR Tryz.prog R 61 [.pointer (some ⟨tb, 0, none⟩), r.v] (.tuple #[rngV (rngZ W H f r).1.1 (rngZ W H f r).1.2, .int .i64 (rngZ W H f r).2]) := by
  by_cases h : withinZ r.x0 r.y0 r.x1 r.y1 W H = 0
  · unfold rngZ
    rw [if_pos h]
    obtain ⟨x0, y0, x1, y1, rfl, h1, h2, h3, h4⟩ := within_q h
    simp only [Int.toNat_natCast]
    exact sSpRange hW hH h1 h2 h3 h4 hR
  · unfold rngZ
    rw [if_neg h]
    exact sSpRangeBad hW hH h hR
theorem sSnRange {R : HP} {sb W H : Nat} {st : Int} {f : Nat → Nat → Int} (r : Q4) (hW : W ≤ 1024) (hH : H ≤ 1024) (hR : ∀ w, Sat R w → Sat (snapQ sb st W H f) w) :
    PureR Tryz.prog R 31 [.pointer (some ⟨sb, 0, none⟩), r.v] (.tuple #[rngV (rngZ W H f r).1.1 (rngZ W H f r).1.2, .int .i64 (rngZ W H f r).2]) := by
  refine PureR.fix fun w hs => ?_
  obtain ⟨qb, c2, sq⟩ := snapQ_open (hR w hs)
  have hrg := fun R' (h : ∀ w, Sat R' w → Sat (sparseH qb W H f) w) => sSpRangeAny r hW hH h
  generalize rngZ W H f r = q at *
  refine fn_of_run0 false Tryz.func31 rfl hmix rfl fun w0 => ?_
  conv => whnf
  refine ⟨trivial, RegAt.tail 8 hmix (by kernel_rfl) ?_⟩
  conv => whnf
  refine ⟨trivial, LoadAt.cell (.pointer (some ⟨qb, 0, none⟩)) rfl rfl (fun w hw => was_cell hw c2) ?_⟩
  conv => whnf
  refine ⟨trivial, CallQ.pure (fun R' hR' => hrg R' (fun w s => was_sat sq (hR' w s))) ?_⟩
  conv => whnf
  refine ⟨trivial, ?_⟩
  conv => whnf
  exact ⟨trivial, fin_pure rfl rfl⟩
/-- does a snapshot tell? -/
def tellsB (st v : Int) (W W' H H' : Nat) : Bool := decide (st = v) && (decide (W = W') && decide (H = H'))
theorem sOldAny {R : HP} {lb gb sb W H W' H' : Nat} {st : Int} (v : Int) {f g f' : Nat → Nat → Int} (hl : ∀ w, Sat R w → Sat (liveH lb gb W H f) w) (hg : ∀ w, Sat R w → GridAt w gb W H g) (hs : ∀ w, Sat R w → Sat (snapH sb st W' H' f') w) :
    PureR Tryz.prog R 26 [.pointer (some ⟨lb, 0, none⟩), .pointer (some ⟨sb, 0, none⟩), .int .i64 v] (.bool (tellsB st v W W' H H')) := by
  unfold tellsB
  by_cases h : st = v
  · subst h
    rw [decide_eq_true rfl, Bool.true_and]
    exact sOldYes hl hg hs
  · rw [decide_eq_false h, Bool.false_and]
    refine sOldNo fun R' h' => ?_
    have := sFresh (R := R') v fun w s => hs w (h' w s)
    rw [decide_eq_false h] at this
    exact this
/-- what is told of a sum -/
noncomputable def toldS (b : Bool) (W H : Nat) (f : Nat → Nat → Int) (W' H' : Nat) (f' : Nat → Nat → Int) (r : Q4) : Int × Int := if b = true then sumZ W' H' f' r else sumZ W H f r
noncomputable def toldR (b : Bool) (W H : Nat) (f : Nat → Nat → Int) (W' H' : Nat) (f' : Nat → Nat → Int) (r : Q4) : (Int × Int) × Int := if b = true then rngZ W' H' f' r else rngZ W H f r
theorem sLvSumQ {R : HP} {lb gb sb W H W' H' : Nat} {st : Int} (v : Int) {f g f' : Nat → Nat → Int} (r : Q4) (hf : Far W H f) (hW : W ≤ 1024) (hH : H ≤ 1024) (hf' : Far W' H' f') (hW' : W' ≤ 1024) (hH' : H' ≤ 1024) (hl : ∀ w, Sat R w → Sat (liveH lb gb W H f) w) (hg : ∀ w, Sat R w → GridAt w gb W H g) (hs : ∀ w, Sat R w → Sat (snapQ sb st W' H' f') w) :
    PureR Tryz.prog R 9 [.pointer (some ⟨lb, 0, none⟩), .pointer (some ⟨sb, 0, none⟩), .int .i64 v, r.v] (.tuple #[.int .i64 (toldS (tellsB st v W W' H H') W H f W' H' f' r).1, .bool (tellsB st v W W' H H' && decide ((toldS (tellsB st v W W' H H') W H f W' H' f' r).2 = 0)), .int .i64 (toldS (tellsB st v W W' H H') W H f W' H' f' r).2]) := by
  have ho := fun (R' : HP) (h : ∀ w, Sat R' w → Sat R w) => sOldAny (R := R') v (fun w s => hl w (h w s)) (fun w s => hg w (h w s)) fun w s => snapQ_snap (hs w (h w s))
  cases hb : tellsB st v W W' H H' with
  | false =>
    rw [hb] at ho
    exact sLvSum hf hW hH hl ho
  | true =>
    rw [hb] at ho
    exact sLvSumOld hf hW hH hl ho fun R' h => sSnSum hf' hW' hH' fun w s => snapQ_snap (hs w (h w s))
theorem sLvRangeOld {R : HP} {lb : Nat} {s : Value} {v a b e : Int} {r : Q4}
    (ho : ∀ R' : HP, (∀ w, Sat R' w → Sat R w) → PureR Tryz.prog R' 26 [.pointer (some ⟨lb, 0, none⟩), s, .int .i64 v] (.bool true))
    (hn : ∀ R' : HP, (∀ w, Sat R' w → Sat R w) → PureR Tryz.prog R' 31 [s, r.v] (.tuple #[rngV a b, .int .i64 e])) :
    PureR Tryz.prog R 11 [.pointer (some ⟨lb, 0, none⟩), s, .int .i64 v, r.v] (.tuple #[rngV a b, .bool (decide (e = 0)), .int .i64 e]) := by
  refine fn_of_run0 false Tryz.func11 rfl hmix rfl fun w0 => ?_
  conv => whnf
  refine ⟨trivial, CallAt.pure (fun R' hR' => ho R' hR') ?_⟩
  conv => whnf
  refine iff_t rfl ?_
  conv => whnf
  refine ⟨trivial, CallAt.pure (fun R' hR' => hn R' hR') ?_⟩
  conv => whnf
  exact ⟨trivial, fin_pure rfl rfl⟩
theorem sLvRangeQ {R : HP} {lb gb sb W H W' H' : Nat} {st : Int} (v : Int) {f g f' : Nat → Nat → Int} (r : Q4) (hW : 1 ≤ W ∧ W ≤ 1024) (hH : 1 ≤ H ∧ H ≤ 1024) (hf : ∀ a b, a < W → b < H → MayV (f a b)) (hW' : W' ≤ 1024) (hH' : H' ≤ 1024) (hl : ∀ w, Sat R w → Sat (liveH lb gb W H f) w) (hg : ∀ w, Sat R w → GridAt w gb W H g) (hs : ∀ w, Sat R w → Sat (snapQ sb st W' H' f') w) :
    PureR Tryz.prog R 11 [.pointer (some ⟨lb, 0, none⟩), .pointer (some ⟨sb, 0, none⟩), .int .i64 v, r.v] (.tuple #[rngV (toldR (tellsB st v W W' H H') W H f W' H' f' r).1.1 (toldR (tellsB st v W W' H H') W H f W' H' f' r).1.2, .bool (tellsB st v W W' H H' && decide ((toldR (tellsB st v W W' H H') W H f W' H' f' r).2 = 0)), .int .i64 (toldR (tellsB st v W W' H H') W H f W' H' f' r).2]) := by
  have ho := fun (R' : HP) (h : ∀ w, Sat R' w → Sat R w) => sOldAny (R := R') v (fun w s => hl w (h w s)) (fun w s => hg w (h w s)) fun w s => snapQ_snap (hs w (h w s))
  cases hb : tellsB st v W W' H H' with
  | false =>
    rw [hb] at ho
    exact sLvRange hW hH hf hl ho
  | true =>
    rw [hb] at ho
    exact sLvRangeOld ho fun R' h => sSnRange r hW' hH' fun w s => hs w (h w s)
end Go.Proofs.YtjnglcjofajcnaaGreat

