/-
  Texts of the proofs, one behind the other: Ray, Skip1, Skip2, Skip3, RayP, Skip4, Skip5, Skip6, ViewA, ViewB, ViewC, ViewD, ViewE, ViewF, ViewG.
-/
import Derived.Test.YtlplbgbnojibmaaPartK
import Derived.Test.YtlplbgbnojibmaaPartO
import Derived.Test.YtlplbgbnojibmaaPartM
import Derived.Test.YtlplbgbnojibmaaPartI
import Derived.Test.YtlplbgbnojibmaaPartJ
/-
  ray: the cells between two cells.
-/
namespace Go.Proofs.Ytlplbgbnojibmaa
open Go.RowKit
open Sy
set_option linter.unusedVariables false
set_option linter.unusedSimpArgs false
set_option maxRecDepth 100000
set_option maxHeartbeats 4000000

abbrev P2 := Int × Int
def canC (c : P2) : Prop := 0 ≤ c.1 ∧ c.1 < 1024 ∧ 0 ≤ c.2 ∧ c.2 < 1024
instance (c : P2) : Decidable (canC c) := by unfold canC; infer_instance
abbrev c2 (c : P2) : Value := cellV c.1 c.2
structure Wk where
  n : Nat
  m : Nat
  ax : Int
  ay : Int
  ox : Int
  oy : Int
def sg (n : Int) : Int := if n < 0 then -1 else 1
def ofW (a b : P2) : Wk := if (b.1 - a.1).natAbs < (b.2 - a.2).natAbs then ⟨(b.2 - a.2).natAbs, (b.1 - a.1).natAbs, 0, sg (b.2 - a.2), sg (b.1 - a.1), 0⟩ else ⟨(b.1 - a.1).natAbs, (b.2 - a.2).natAbs, sg (b.1 - a.1), 0, 0, sg (b.2 - a.2)⟩
abbrev wkV (w : Wk) : Value := .agg #[.int .i64 (w.n : Int), .int .i64 (w.m : Int), .int .i64 w.ax, .int .i64 w.ay, .int .i64 w.ox, .int .i64 w.oy]
def stp1 (w : Wk) (s : P2 × Int) : P2 × Int := if 2 * (w.n : Int) ≤ s.2 + 2 * (w.m : Int) then ((s.1.1 + w.ax + w.ox, s.1.2 + w.ay + w.oy), s.2 + 2 * (w.m : Int) - 2 * (w.n : Int)) else ((s.1.1 + w.ax, s.1.2 + w.ay), s.2 + 2 * (w.m : Int))
def rowSt (w : Wk) (a : P2) : Nat → P2 × Int
  | 0 => (a, w.n)
  | i + 1 => stp1 w (rowSt w a i)
def rowL (a b : P2) (n : Nat) : List P2 := (List.range (n + 1)).map fun i => (rowSt (ofW a b) a i).1
theorem rowL_len (a b : P2) (n : Nat) : (rowL a b n).length = n + 1 := by simp [rowL]
theorem rowL_succ (a b : P2) (n : Nat) : rowL a b (n + 1) = rowL a b n ++ [(rowSt (ofW a b) a (n + 1)).1] := by simp [rowL, List.range_succ]
theorem ofW_le (a b : P2) : (ofW a b).m ≤ (ofW a b).n := by unfold ofW; split <;> simp only <;> omega
/-- where the walk stands -/
theorem rowSt_is {w : Wk} (hm : w.m ≤ w.n) (hn : 0 < w.n) (a : P2) : ∀ i : Nat, ∃ t : Nat, (rowSt w a i).1 = (a.1 + i * w.ax + t * w.ox, a.2 + i * w.ay + t * w.oy) ∧ (rowSt w a i).2 = (w.n : Int) + 2 * ((w.m : Int) * i) - 2 * ((w.n : Int) * t) ∧ 0 ≤ (rowSt w a i).2 ∧ (rowSt w a i).2 < 2 * (w.n : Int)
  | 0 => ⟨0, by simp [rowSt], by simp [rowSt], by simp [rowSt], by simp [rowSt]; omega⟩
  | i + 1 => by
    obtain ⟨t, h1, h2, h3, h4⟩ := rowSt_is hm hn a i
    have e1 : (((i + 1 : Nat) : Int)) = (i : Int) + 1 := by omega
    have m1 : (w.m : Int) * ((i : Int) + 1) = (w.m : Int) * i + w.m := by rw [Int.mul_add, Int.mul_one]
    have m2 : ((i : Int) + 1) * w.ax = (i : Int) * w.ax + w.ax := by rw [Int.add_mul, Int.one_mul]
    have m3 : ((i : Int) + 1) * w.ay = (i : Int) * w.ay + w.ay := by rw [Int.add_mul, Int.one_mul]
    have hs : rowSt w a (i + 1) = stp1 w (rowSt w a i) := rfl
    by_cases c : 2 * (w.n : Int) ≤ (rowSt w a i).2 + 2 * (w.m : Int)
    · have hv : stp1 w (rowSt w a i) = (((rowSt w a i).1.1 + w.ax + w.ox, (rowSt w a i).1.2 + w.ay + w.oy), (rowSt w a i).2 + 2 * (w.m : Int) - 2 * (w.n : Int)) := if_pos c
      have e2 : (((t + 1 : Nat) : Int)) = (t : Int) + 1 := by omega
      have m4 : (w.n : Int) * ((t : Int) + 1) = (w.n : Int) * t + w.n := by rw [Int.mul_add, Int.mul_one]
      have m5 : ((t : Int) + 1) * w.ox = (t : Int) * w.ox + w.ox := by rw [Int.add_mul, Int.one_mul]
      have m6 : ((t : Int) + 1) * w.oy = (t : Int) * w.oy + w.oy := by rw [Int.add_mul, Int.one_mul]
      refine ⟨t + 1, ?_, ?_, ?_, ?_⟩
      · rw [hs, hv, h1, e1, e2, m2, m3, m5, m6]
        simp only [Prod.mk.injEq]
        constructor <;> omega
      · rw [hs, hv, e1, e2, m1, m4]
        simp only
        omega
      · rw [hs, hv]; simp only; omega
      · rw [hs, hv]; simp only; omega
    · have hv : stp1 w (rowSt w a i) = (((rowSt w a i).1.1 + w.ax, (rowSt w a i).1.2 + w.ay), (rowSt w a i).2 + 2 * (w.m : Int)) := if_neg c
      refine ⟨t, ?_, ?_, ?_, ?_⟩
      · rw [hs, hv, h1, e1, m2, m3]
        simp only [Prod.mk.injEq]
        constructor <;> omega
      · rw [hs, hv, e1, m1]
        simp only
        omega
      · rw [hs, hv]; simp only; omega
      · rw [hs, hv]; simp only; omega
/-- it stays between the ends -/
theorem rowSt_in {a b : P2} {i : Nat} (hi : i ≤ (ofW a b).n) : min a.1 b.1 ≤ (rowSt (ofW a b) a i).1.1 ∧ (rowSt (ofW a b) a i).1.1 ≤ max a.1 b.1 ∧ min a.2 b.2 ≤ (rowSt (ofW a b) a i).1.2 ∧ (rowSt (ofW a b) a i).1.2 ≤ max a.2 b.2 := by
  rcases Nat.eq_zero_or_pos (ofW a b).n with z | hn
  · have : i = 0 := by omega
    subst this
    simp only [rowSt]
    omega
  · obtain ⟨t, h1, h2, h3, h4⟩ := rowSt_is (ofW_le a b) hn a i
    rw [h1]
    have hle := ofW_le a b
    have ht : t ≤ (ofW a b).m := by
      rcases Nat.lt_or_ge (ofW a b).m t with c | c
      · exfalso
        have k1 : (ofW a b).n * ((ofW a b).m + 1) ≤ (ofW a b).n * t := Nat.mul_le_mul_left _ c
        have k2 : (ofW a b).m * i ≤ (ofW a b).m * (ofW a b).n := Nat.mul_le_mul_left _ hi
        rw [Nat.mul_add, Nat.mul_one, Nat.mul_comm (ofW a b).n (ofW a b).m] at k1
        have k3 : ((ofW a b).n : Int) * t = (((ofW a b).n * t : Nat) : Int) := by simp
        have k4 : ((ofW a b).m : Int) * i = (((ofW a b).m * i : Nat) : Int) := by simp
        rw [k3, k4] at h2
        omega
      · exact c
    clear h1 h2 h3 h4 hle
    have hsx : sg (b.1 - a.1) = 1 ∧ a.1 ≤ b.1 ∨ sg (b.1 - a.1) = -1 ∧ b.1 < a.1 := by unfold sg; split <;> omega
    have hsy : sg (b.2 - a.2) = 1 ∧ a.2 ≤ b.2 ∨ sg (b.2 - a.2) = -1 ∧ b.2 < a.2 := by unfold sg; split <;> omega
    unfold ofW at *
    split at hi
    · rename_i c
      rw [if_pos c] at ht hn
      simp only [if_pos c] at *
      rcases hsx with ⟨e1, e2⟩ | ⟨e1, e2⟩ <;> rcases hsy with ⟨f1, f2⟩ | ⟨f1, f2⟩ <;> rw [e1, f1] <;> omega
    · rename_i c
      rw [if_neg c] at ht hn
      simp only [if_neg c] at *
      rcases hsx with ⟨e1, e2⟩ | ⟨e1, e2⟩ <;> rcases hsy with ⟨f1, f2⟩ | ⟨f1, f2⟩ <;> rw [e1, f1] <;> omega
theorem sRSign (n : Int) (h : -4096 ≤ n ∧ n ≤ 4096) (R : HP) : PureR Try.prog R 171 [.int .i64 n] (.tuple #[.int .i64 (sg n), .int .i64 (n.natAbs : Int)]) := by
  refine fn_of_run0 false Try.func171 rfl hmix rfl fun w0 => ?_
  conv => whnf
  refine ⟨fun h1 => ?_, fun h1 => ?_⟩
  · have g1 : n < 0 := of_decide_eq_true h1
    have e1 : sg n = -1 := if_pos g1
    have e2 : (n.natAbs : Int) = 0 - n := by omega
    rw [e1, e2]
    conv => whnf
    exact ⟨(by (repeat' apply And.intro) <;> first | exact True.intro | (unfold rng; omega) | omega), fin_pure rfl rfl⟩
  · have g1 : ¬ n < 0 := of_decide_eq_false h1
    have e1 : sg n = 1 := if_neg g1
    have e2 : (n.natAbs : Int) = n := by omega
    rw [e1, e2]
    conv => whnf
    exact ⟨trivial, fin_pure rfl rfl⟩
theorem sRCan (c : P2) (R : HP) : PureR Try.prog R 170 [c2 c] (.bool (decide (canC c))) := by
  refine fn_of_run0 false Try.func170 rfl hmix rfl fun w0 => ?_
  conv => whnf
  refine ⟨fun h1 => ?_, fun h1 => ?_⟩
  · conv => whnf
    refine ⟨fun h2 => ?_, fun h2 => ?_⟩
    · conv => whnf
      refine ⟨fun h3 => ?_, fun h3 => ?_⟩
      · conv => whnf
        refine ⟨trivial, fin_drop ?_⟩
        have g1 := of_decide_eq_true h1; have g2 := of_decide_eq_true h2; have g3 := of_decide_eq_true h3
        show Value.bool _ = Value.bool _
        congr 1
        exact decide_eq_decide.2 ⟨fun q => ⟨g1, g2, g3, q⟩, fun q => q.2.2.2⟩
      · conv => whnf
        refine ⟨trivial, fin_drop ?_⟩
        have g3 := of_decide_eq_false h3
        rw [decide_eq_false (fun q : canC c => g3 q.2.2.1)]; rfl
    · conv => whnf
      refine ⟨trivial, fin_drop ?_⟩
      have g3 := of_decide_eq_false h2
      rw [decide_eq_false (fun q : canC c => g3 q.2.1)]; rfl
  · conv => whnf
    refine ⟨trivial, fin_drop ?_⟩
    have g3 := of_decide_eq_false h1
    rw [decide_eq_false (fun q : canC c => g3 q.1)]; rfl
theorem sRPlus1 (c s : P2) (R : HP) (h : -4096 ≤ c.1 ∧ c.1 ≤ 4096 ∧ -4096 ≤ c.2 ∧ c.2 ≤ 4096 ∧ -1 ≤ s.1 ∧ s.1 ≤ 1 ∧ -1 ≤ s.2 ∧ s.2 ≤ 1) : PureR Try.prog R 166 [c2 c, c2 s, .int .i64 1] (c2 (c.1 + s.1, c.2 + s.2)) := by
  have e1 : (1 : Int) * s.1 = s.1 := Int.one_mul _
  have e2 : (1 : Int) * s.2 = s.2 := Int.one_mul _
  refine fn_of_run0 false Try.func166 rfl hmix rfl fun w0 => ?_
  conv => whnf
  rw [e1, e2]
  exact ⟨(by (repeat' apply And.intro) <;> first | exact True.intro | (unfold rng; omega) | omega), fin_pure rfl rfl⟩
theorem sg_b (n : Int) : -1 ≤ sg n ∧ sg n ≤ 1 := by unfold sg; split <;> omega
theorem sROf (a b : P2) (ha : canC a) (hb : canC b) (R : HP) : PureR Try.prog R 165 [c2 a, c2 b] (wkV (ofW a b)) := by
  unfold canC at ha hb
  have h1 := fun R' => sRSign (b.1 - a.1) (by omega) R'
  have h2 := fun R' => sRSign (b.2 - a.2) (by omega) R'
  refine fn_of_run0 false Try.func165 rfl hmix rfl fun w0 => ?_
  conv => whnf
  refine ⟨(by (repeat' apply And.intro) <;> first | exact True.intro | (unfold rng; omega) | omega), CallAt.pure (fun R' hR' => h1 R') ?_⟩
  conv => whnf
  refine ⟨(by (repeat' apply And.intro) <;> first | exact True.intro | (unfold rng; omega) | omega), CallAt.pure (fun R' hR' => h2 R') ?_⟩
  conv => whnf
  refine ⟨fun h => ?_, fun h => ?_⟩
  · have g : (b.1 - a.1).natAbs < (b.2 - a.2).natAbs := by have := of_decide_eq_true h; omega
    have e : ofW a b = ⟨(b.2 - a.2).natAbs, (b.1 - a.1).natAbs, 0, sg (b.2 - a.2), sg (b.1 - a.1), 0⟩ := if_pos g
    rw [e]
    conv => whnf
    exact ⟨trivial, fin_pure rfl rfl⟩
  · have g : ¬ (b.1 - a.1).natAbs < (b.2 - a.2).natAbs := by have := of_decide_eq_false h; omega
    have e : ofW a b = ⟨(b.1 - a.1).natAbs, (b.2 - a.2).natAbs, sg (b.1 - a.1), 0, 0, sg (b.2 - a.2)⟩ := if_neg g
    rw [e]
    conv => whnf
    exact ⟨trivial, fin_pure rfl rfl⟩
theorem sRLen (a b : P2) (ha : canC a) (hb : canC b) (R : HP) : PureR Try.prog R 164 [c2 a, c2 b] (.tuple #[.int .i64 ((ofW a b).n : Int), .int .i64 0]) := by
  have h1 := fun R' => sRCan a R'
  have h2 := fun R' => sRCan b R'
  have h3 := fun R' => sROf a b ha hb R'
  rw [decide_eq_true ha] at h1
  rw [decide_eq_true hb] at h2
  generalize ofW a b = k at *
  refine fn_of_run0 false Try.func164 rfl hmix rfl fun w0 => ?_
  conv => whnf
  refine ⟨trivial, CallAt.pure (fun R' hR' => h1 R') ?_⟩
  conv => whnf
  repeat (first | (refine ⟨fun _ => ?_, fun h => absurd h (by decide)⟩; conv => whnf) | (refine ⟨fun h => absurd h (by decide), fun _ => ?_⟩; conv => whnf))
  refine ⟨trivial, CallAt.pure (fun R' hR' => h2 R') ?_⟩
  conv => whnf
  repeat (first | (refine ⟨fun _ => ?_, fun h => absurd h (by decide)⟩; conv => whnf) | (refine ⟨fun h => absurd h (by decide), fun _ => ?_⟩; conv => whnf))
  refine ⟨trivial, CallAt.pure (fun R' hR' => h3 R') ?_⟩
  conv => whnf
  exact ⟨trivial, fin_pure rfl rfl⟩
theorem ofW_n {a b : P2} (ha : canC a) (hb : canC b) : (ofW a b).n ≤ 1023 := by
  unfold canC at ha hb
  unfold ofW
  split <;> simp only <;> omega
def pick0 (z : Int) (f : Nat → Int) : Nat → Int
  | 0 => z
  | j + 1 => f j
theorem sRayRow {R : HP} (a b : P2) (ha : canC a) (hb : canC b) : FnR Try.prog R 154 [c2 a, c2 b] [] fun r hs => ∃ g c, r = .tuple #[.slice (some ⟨g, 0, none⟩) ((ofW a b).n + 1) c, .int .i64 0] ∧
    hs = [rowH (.slice (some ⟨g, 0, none⟩) ((ofW a b).n + 1) c) ((ofW a b).n + 1) 35 2 (cel (rowL a b (ofW a b).n))] := by
  have h1 := fun R' => sRLen a b ha hb R'
  have h2 := fun R' => sROf a b ha hb R'
  have hn := ofW_n ha hb
  have hle := ofW_le a b
  have hin := fun i (hi : i ≤ (ofW a b).n) => @rowSt_in a b i hi
  have hpos := fun (h : 0 < (ofW a b).n) i => rowSt_is hle h a i
  have hrb : ∀ i, 0 < (ofW a b).n → 0 ≤ (rowSt (ofW a b) a i).2 ∧ (rowSt (ofW a b) a i).2 < 2 * ((ofW a b).n : Int) := fun i h => by
    obtain ⟨t, _, _, h3, h4⟩ := hpos h i
    exact ⟨h3, h4⟩
  clear hpos
  have hsu := fun n => rowL_succ a b n
  have hl0 : cel (rowL a b 0) = [.int .i64 a.1, .int .i64 a.2] := rfl
  have hwb : -1 ≤ (ofW a b).ax ∧ (ofW a b).ax ≤ 1 ∧ -1 ≤ (ofW a b).ay ∧ (ofW a b).ay ≤ 1 ∧ -1 ≤ (ofW a b).ox ∧ (ofW a b).ox ≤ 1 ∧ -1 ≤ (ofW a b).oy ∧ (ofW a b).oy ≤ 1 := by
    have := sg_b (b.1 - a.1)
    have := sg_b (b.2 - a.2)
    unfold ofW
    split <;> simp only <;> omega
  unfold canC at ha hb
  have hy : ∀ i, 2 * ((ofW a b).n : Int) ≤ (rowSt (ofW a b) a i).2 + 2 * ((ofW a b).m : Int) → (rowSt (ofW a b) a (i + 1)).1.1 = (rowSt (ofW a b) a i).1.1 + (ofW a b).ax + (ofW a b).ox ∧ (rowSt (ofW a b) a (i + 1)).1.2 = (rowSt (ofW a b) a i).1.2 + (ofW a b).ay + (ofW a b).oy ∧ (rowSt (ofW a b) a (i + 1)).2 = (rowSt (ofW a b) a i).2 + 2 * ((ofW a b).m : Int) - 2 * ((ofW a b).n : Int) := fun i h => by
    have e : rowSt (ofW a b) a (i + 1) = _ := if_pos h
    rw [e]; exact ⟨rfl, rfl, rfl⟩
  have hno : ∀ i, ¬ 2 * ((ofW a b).n : Int) ≤ (rowSt (ofW a b) a i).2 + 2 * ((ofW a b).m : Int) → (rowSt (ofW a b) a (i + 1)).1.1 = (rowSt (ofW a b) a i).1.1 + (ofW a b).ax ∧ (rowSt (ofW a b) a (i + 1)).1.2 = (rowSt (ofW a b) a i).1.2 + (ofW a b).ay ∧ (rowSt (ofW a b) a (i + 1)).2 = (rowSt (ofW a b) a i).2 + 2 * ((ofW a b).m : Int) := fun i h => by
    have e : rowSt (ofW a b) a (i + 1) = _ := if_neg h
    rw [e]; exact ⟨rfl, rfl, rfl⟩
  obtain ⟨XS, hX⟩ : ∃ X : Nat → Int, ∀ i, (rowSt (ofW a b) a i).1.1 = pick0 a.1 X i := ⟨fun j => (rowSt (ofW a b) a (j + 1)).1.1, fun i => by cases i <;> rfl⟩
  obtain ⟨YS, hY⟩ : ∃ X : Nat → Int, ∀ i, (rowSt (ofW a b) a i).1.2 = pick0 a.2 X i := ⟨fun j => (rowSt (ofW a b) a (j + 1)).1.2, fun i => by cases i <;> rfl⟩
  obtain ⟨ZS, hZ⟩ : ∃ X : Nat → Int, ∀ i, (rowSt (ofW a b) a i).2 = pick0 ((ofW a b).n : Int) X i := ⟨fun j => (rowSt (ofW a b) a (j + 1)).2, fun i => by cases i <;> rfl⟩
  have hp : ∀ n, cel (rowL a b (n + 1)) = cel (rowL a b n) ++ [.int .i64 (pick0 a.1 XS (n + 1)), .int .i64 (pick0 a.2 YS (n + 1))] := fun n => by
    rw [hsu, cel_append, ← hX, ← hY]; rfl
  have hone : ∀ n, ∀ u ∈ cel (rowL a b n), u.oneCell' = true := fun n u hu => by
    unfold cel at hu
    obtain ⟨p, _, hp⟩ := List.mem_flatMap.1 hu
    simp at hp
    rcases hp with rfl | rfl <;> rfl
  have hcl := fun n => cel_length (rowL a b n)
  simp only [hX, hY, hZ] at hy hno hin hrb
  have hrl := fun n => rowL_len a b n
  clear hsu hX hY hZ
  generalize rowL a b = RL at *
  generalize ofW a b = k at *
  obtain ⟨n, m, ax, ay, ox, oy⟩ := k
  simp only at *
  refine fn_of_run0 false Try.func154 rfl hmix rfl fun w0 => ?_
  conv => whnf
  refine ⟨trivial, CallAt.pure (fun R' hR' => h1 R') ?_⟩
  conv => whnf
  refine iff_f rfl ?_
  conv => whnf
  refine ⟨trivial, CallAt.pure (fun R' hR' => h2 R') ?_⟩
  conv => whnf
  refine ⟨trivial, OpAt.lit [.agg #[.int .i64 a.1, .int .i64 a.2]] 2 rfl rfl rfl rfl rfl (by decide) rfl rfl rfl (by simp [Value.cells]) rfl (by decide) fun g => ?_⟩
  conv => whnf
  refine ⟨trivial, LoopAt.of (α := Nat × Nat × Nat) [6, 8, 26, 2] (fun q => [(9, .v (.slice (some ⟨q.2.1, 0, none⟩) (q.1 + 1) q.2.2)), (10, .v (.int .i64 (pick0 (n : Int) ZS q.1))), (27, .v (.int .i64 (q.1 : Int)))])
    (fun q => [(2, 248, [.v (.int .i64 (n : Int)), .v (.int .i64 (m : Int)), .v (.int .i64 ax), .v (.int .i64 ay), .v (.int .i64 ox), .v (.int .i64 oy)]), (1, 35, [.v (.int .i64 b.1), .v (.int .i64 b.2)]), (0, 35, [.v (.int .i64 (pick0 a.1 XS q.1)), .v (.int .i64 (pick0 a.2 YS q.1))])])
    (fun q => [rowH (.slice (some ⟨q.2.1, 0, none⟩) (q.1 + 1) q.2.2) (q.1 + 1) 35 2 (cel (RL q.1))]) (fun q => q.1 ≤ n) (fun q => n - q.1) (0, g, 1) (Nat.zero_le _)
    (Le.of (Nat.le_of_ble_eq_true rfl) (Nat.zero_le _) ⟨⟨rfl, rfl⟩, ⟨rfl, rfl⟩, ⟨rfl, rfl⟩, ⟨rfl, rfl⟩, ⟨rfl, rfl⟩, ⟨rfl, rfl⟩, ⟨rfl, rfl⟩, trivial⟩ ⟨⟨rfl, rfl, rfl, rfl⟩, ⟨rfl, rfl, rfl, rfl⟩, ⟨rfl, rfl, rfl, rfl⟩, trivial⟩ fun h s => sub_same (by rw [hl0]; exact s)) ?_⟩
  rintro ⟨i, A, c⟩ hi
  simp only at hi
  conv => whnf
  refine ⟨fun h5 => ?_, fun h5 => ?_⟩
  · have g5 : i < n := by simpa using h5
    obtain ⟨b1, b2, b3, b4⟩ := hin i (by omega)
    obtain ⟨z1, z2⟩ := hrb i (by omega)
    obtain ⟨z3, z4⟩ := hrb (i + 1) (by omega)
    have hy := hy i
    have hno := hno i
    have hp := hp i
    have hone := hone i
    have hcl := hcl i
    rw [hrl i] at hcl
    generalize hx' : pick0 a.1 XS (i + 1) = x' at *
    generalize hy' : pick0 a.2 YS (i + 1) = y' at *
    generalize hz' : pick0 (n : Int) ZS (i + 1) = z' at *
    generalize pick0 a.1 XS i = x at *
    generalize pick0 a.2 YS i = y at *
    generalize pick0 (n : Int) ZS i = z at *
    conv => whnf
    refine ⟨trivial, CallAt.pure (fun R' hR' => sRPlus1 (x, y) (ax, ay) R' (by simp only; omega)) ?_⟩
    conv => whnf
    refine ⟨fun h6 => ?_, fun h6 => ?_⟩
    · have g6 : 2 * (n : Int) ≤ z + 2 * (m : Int) := of_decide_eq_true h6
      obtain ⟨e1, e2, e3⟩ := hy g6
      conv => whnf
      refine ⟨(by (repeat' apply And.intro) <;> first | exact True.intro | (unfold rng; omega) | omega), CallAt.pure (fun R' hR' => sRPlus1 (x + ax, y + ay) (ox, oy) R' (by simp only; omega)) ?_⟩
      conv => whnf
      simp only [← e1, ← e2, ← e3]
      refine ⟨(by (repeat' apply And.intro) <;> first | exact True.intro | (unfold rng; omega) | omega), OpAt.lit [.agg #[.int .i64 x', .int .i64 y']] 2 rfl rfl rfl rfl rfl (by decide) rfl rfl rfl (by simp [Value.cells]) rfl (by decide) fun g2 => ?_⟩
      conv => whnf
      refine ⟨trivial, OpAt.append1 (.slice (some ⟨A, 0, none⟩) (i + 1) c) (i + 1) 2 16 (cel (RL i)) [.int .i64 x', .int .i64 y'] (some ⟨g2, 0, none⟩) 1 1 _ rfl (fun h s => sepL_pull 1 s) rfl rfl rfl rfl rfl rfl rfl rfl rfl (by decide) (fun w hw => rowH_reads rfl (Sat.left hw)) (by simp [Value.oneCell']) (by simp only [maxLen]; omega) (by omega) (by omega) fun A' c' => ?_⟩
      conv => whnf
      subst hx' hy' hz'
      refine ⟨⟨trivial, by unfold rng; simp only; omega⟩, .mk (i + 1, A', c') (by simp only; omega) (by simp only; omega) (Le.of (Nat.le_of_ble_eq_true rfl) (Nat.zero_le _) ⟨⟨rfl, rfl⟩, ⟨rfl, rfl⟩, ⟨rfl, rfl⟩, ⟨rfl, rfl⟩, ⟨rfl, rfl⟩, ⟨rfl, rfl⟩, ⟨rfl, rfl⟩, trivial⟩ ⟨⟨rfl, rfl, rfl, rfl⟩, ⟨rfl, rfl, rfl, rfl⟩, ⟨rfl, rfl, rfl, rfl⟩, trivial⟩ fun h s => ?_)⟩
      obtain ⟨h', e', s'⟩ := sub_drop1 s
      refine ⟨h', e', ?_⟩
      show sepL [rowH (.slice (some ⟨A', 0, none⟩) (i + 1 + 1) c') (i + 1 + 1) 35 2 (cel (RL (i + 1)))] _ h'
      rw [hp]
      exact s'
    · have g6 : ¬ 2 * (n : Int) ≤ z + 2 * (m : Int) := of_decide_eq_false h6
      obtain ⟨e1, e2, e3⟩ := hno g6
      conv => whnf
      simp only [← e1, ← e2, ← e3]
      refine ⟨(by (repeat' apply And.intro) <;> first | exact True.intro | (unfold rng; omega) | omega), OpAt.lit [.agg #[.int .i64 x', .int .i64 y']] 2 rfl rfl rfl rfl rfl (by decide) rfl rfl rfl (by simp [Value.cells]) rfl (by decide) fun g2 => ?_⟩
      conv => whnf
      refine ⟨trivial, OpAt.append1 (.slice (some ⟨A, 0, none⟩) (i + 1) c) (i + 1) 2 16 (cel (RL i)) [.int .i64 x', .int .i64 y'] (some ⟨g2, 0, none⟩) 1 1 _ rfl (fun h s => sepL_pull 1 s) rfl rfl rfl rfl rfl rfl rfl rfl rfl (by decide) (fun w hw => rowH_reads rfl (Sat.left hw)) (by simp [Value.oneCell']) (by simp only [maxLen]; omega) (by omega) (by omega) fun A' c' => ?_⟩
      conv => whnf
      subst hx' hy' hz'
      refine ⟨⟨trivial, by unfold rng; simp only; omega⟩, .mk (i + 1, A', c') (by simp only; omega) (by simp only; omega) (Le.of (Nat.le_of_ble_eq_true rfl) (Nat.zero_le _) ⟨⟨rfl, rfl⟩, ⟨rfl, rfl⟩, ⟨rfl, rfl⟩, ⟨rfl, rfl⟩, ⟨rfl, rfl⟩, ⟨rfl, rfl⟩, ⟨rfl, rfl⟩, trivial⟩ ⟨⟨rfl, rfl, rfl, rfl⟩, ⟨rfl, rfl, rfl, rfl⟩, ⟨rfl, rfl, rfl, rfl⟩, trivial⟩ fun h s => ?_)⟩
      obtain ⟨h', e', s'⟩ := sub_drop1 s
      refine ⟨h', e', ?_⟩
      show sepL [rowH (.slice (some ⟨A', 0, none⟩) (i + 1 + 1) c') (i + 1 + 1) 35 2 (cel (RL (i + 1)))] _ h'
      rw [hp]
      exact s'
  · have g5 : n = i := by simp at h5; omega
    subst g5
    conv => whnf
    exact ⟨trivial, .mk _ (fun w s => s) ⟨A, c, rfl, rfl⟩⟩
end Go.Proofs.Ytlplbgbnojibmaa

/-
  slope.Hides, skip.may, tier.Above in plain numbers.
-/
namespace Go.Proofs.Ytlplbgbnojibmaa
open Go.RowKit
open Sy
set_option linter.unusedVariables false
set_option linter.unusedSimpArgs false
set_option maxRecDepth 100000
set_option maxHeartbeats 4000000

def nearP (n : Int) : Prop := -1099511627776 ≤ n ∧ n ≤ 1099511627776
instance (n : Int) : Decidable (nearP n) := by unfold nearP; infer_instance
theorem sNear (n : Int) (R : HP) : PureR Try.prog R 157 [.int .i64 n] (.bool (decide (nearP n))) := by
  refine fn_of_run0 false Try.func157 rfl hmix rfl fun w0 => ?_
  conv => whnf
  refine ⟨fun h1 => ?_, fun h1 => ?_⟩
  · conv => whnf
    refine ⟨trivial, fin_drop ?_⟩
    have g1 := of_decide_eq_true h1
    show Value.bool _ = Value.bool _
    congr 1
    exact decide_eq_decide.2 ⟨fun q => ⟨g1, q⟩, fun q => q.2⟩
  · conv => whnf
    refine ⟨trivial, fin_drop ?_⟩
    have g1 := of_decide_eq_false h1
    rw [decide_eq_false (fun q : nearP n => g1 q.1)]; rfl
theorem mul_rng {d n : Int} (hd : -2199023255552 ≤ d ∧ d ≤ 2199023255552) (hn : 0 ≤ n ∧ n ≤ 1024) : -2251799813685248 ≤ d * n ∧ d * n ≤ 2251799813685248 := by
  have h1 := Int.mul_le_mul_of_nonneg_right hd.1 hn.1
  have h2 := Int.mul_le_mul_of_nonneg_right hd.2 hn.1
  omega
theorem sHides (z u t : Int) (i n : Nat) (hn : 1 ≤ n ∧ n ≤ 1024) (hi : i ≤ n) (hz : nearP z) (hu : nearP u) (ht : nearP t) (R : HP) : PureR Try.prog R 130 [.int .i64 z, .int .i64 u, .int .i64 t, .int .i64 (i : Int), .int .i64 (n : Int)] (.tuple #[.bool (decide ((t - u) * (i : Int) < (z - u) * (n : Int))), .int .i64 0]) := by
  have h1 := fun R' => sNear z R'
  have h2 := fun R' => sNear u R'
  have h3 := fun R' => sNear t R'
  rw [decide_eq_true hz] at h1
  rw [decide_eq_true hu] at h2
  rw [decide_eq_true ht] at h3
  unfold nearP at hz hu ht
  have m1 := mul_rng (d := z - u) (n := n) (by omega) (by omega)
  have m2 := mul_rng (d := t - u) (n := i) (by omega) (by omega)
  refine fn_of_run0 false Try.func130 rfl hmix rfl fun w0 => ?_
  conv => whnf
  refine ⟨fun h => ?_, fun h => absurd h (by simp; omega)⟩
  conv => whnf
  refine ⟨fun h => ?_, fun h => absurd h (by simp; omega)⟩
  conv => whnf
  refine ⟨fun h => ?_, fun h => absurd h (by simp)⟩
  conv => whnf
  refine ⟨fun h => absurd h (by simp; omega), fun h => ?_⟩
  conv => whnf
  refine ⟨trivial, CallAt.pure (fun R' hR' => h1 R') ?_⟩
  conv => whnf
  repeat (first | (refine ⟨fun _ => ?_, fun h => absurd h (by decide)⟩; conv => whnf) | (refine ⟨fun h => absurd h (by decide), fun _ => ?_⟩; conv => whnf))
  refine ⟨trivial, CallAt.pure (fun R' hR' => h2 R') ?_⟩
  conv => whnf
  repeat (first | (refine ⟨fun _ => ?_, fun h => absurd h (by decide)⟩; conv => whnf) | (refine ⟨fun h => absurd h (by decide), fun _ => ?_⟩; conv => whnf))
  refine ⟨trivial, CallAt.pure (fun R' hR' => h3 R') ?_⟩
  conv => whnf
  repeat (first | (refine ⟨fun _ => ?_, fun h => absurd h (by decide)⟩; conv => whnf) | (refine ⟨fun h => absurd h (by decide), fun _ => ?_⟩; conv => whnf))
  exact ⟨⟨⟨⟨⟨trivial, by unfold rng; omega⟩, by unfold rng; generalize (z - u) * (n : Int) = p at *; omega⟩, by unfold rng; omega⟩, by unfold rng; generalize (t - u) * (i : Int) = p at *; omega⟩, fin_pure rfl rfl⟩
theorem sSMay (h : Int) (R : HP) : PureR Try.prog R 126 [.int .i64 h] (.bool (decide (0 ≤ h ∧ h ≤ 1048576))) := by
  refine fn_of_run0 false Try.func126 rfl hmix rfl fun w0 => ?_
  conv => whnf
  refine ⟨fun h1 => ?_, fun h1 => ?_⟩
  · conv => whnf
    refine ⟨trivial, fin_drop ?_⟩
    have g1 := of_decide_eq_true h1
    show Value.bool _ = Value.bool _
    congr 1
    exact decide_eq_decide.2 ⟨fun q => ⟨g1, q⟩, fun q => q.2⟩
  · conv => whnf
    refine ⟨trivial, fin_drop ?_⟩
    have g1 := of_decide_eq_false h1
    rw [decide_eq_false (fun q : 0 ≤ h ∧ h ≤ 1048576 => g1 q.1)]; rfl
theorem sAbove {W H k x y : Nat} (hs : SizeOk (W : Int) (H : Int)) (hk : k < levN W H) (hx : x < W) (hy : y < H) (R : HP) : PureR Try.prog R 167 [.int .i64 W, .int .i64 H, .int .i64 k, cellV x y] (.tuple #[cellV ((x / 2 ^ k : Nat) : Int) ((y / 2 ^ k : Nat) : Int), .int .i64 0]) := by
  have h1 := fun R' => sTSize W H k hs hk R'
  have h11 := levN_le hs
  have h2 := hs
  unfold SizeOk at h2
  have hc := fun R' => sTCheck W H 0 x y hs (by have := levN_pos W H; omega) (by rw [halfN_zero (by omega)]; exact hx) (by rw [halfN_zero (by omega)]; exact hy) R'
  refine fn_of_run0 false Try.func167 rfl hmix rfl fun w0 => ?_
  conv => whnf
  refine ⟨trivial, CallAt.pure (fun R' hR' => h1 R') ?_⟩
  conv => whnf
  refine iff_f rfl ?_
  conv => whnf
  refine ⟨trivial, CallAt.pure (fun R' hR' => hc R') ?_⟩
  conv => whnf
  refine iff_f rfl ?_
  conv => whnf
  refine ⟨trivial, RegAt.tail 9 hmix (by kernel_rfl) ?_⟩
  conv => whnf
  have hk64 : (k : Int) ≤ (IntKind.i64.bits : Int) := by show (k : Int) ≤ 64; omega
  refine ⟨⟨⟨trivial, by omega, hk64⟩, by omega, hk64⟩, ?_⟩
  conv => whnf
  refine ⟨trivial, fin_pure rfl ?_⟩
  show Value.tuple #[.agg #[.int .i64 ((x : Int) / 2 ^ ((k : Int).toNat)), .int .i64 ((y : Int) / 2 ^ ((k : Int).toNat))], .int .i64 0] = _
  simp
theorem sHas2 (x0 y0 x1 y1 x y : Int) (hr : Q4.ok ⟨x0, y0, x1, y1⟩) (R : HP) : PureR Try.prog R 93 [rectV x0 y0 x1 y1, cellV x y] (.bool (decide (x0 ≤ x ∧ x ≤ x1 ∧ y0 ≤ y ∧ y ≤ y1))) := by
  have hrt := fun R' => pRight ⟨x0, y0, x1, y1⟩ R'
  rw [decide_eq_true hr] at hrt
  refine fn_of_run0 false Try.func93 rfl hmix rfl fun w0 => ?_
  conv => whnf
  refine ⟨trivial, CallAt.pure (fun R' hR' => hrt R') ?_⟩
  conv => whnf
  refine ⟨fun _ => ?_, fun h => absurd h (by decide)⟩
  conv => whnf
  refine ⟨fun h1 => ?_, fun h1 => ?_⟩
  · conv => whnf
    refine ⟨fun h2 => ?_, fun h2 => ?_⟩
    · conv => whnf
      refine ⟨fun h3 => ?_, fun h3 => ?_⟩
      · conv => whnf
        refine ⟨trivial, fin_drop ?_⟩
        have g1 := of_decide_eq_true h1; have g2 := of_decide_eq_true h2; have g3 := of_decide_eq_true h3
        show Value.bool _ = Value.bool _
        congr 1
        exact decide_eq_decide.2 ⟨fun q => ⟨g1, g2, g3, q⟩, fun q => q.2.2.2⟩
      · conv => whnf
        refine ⟨trivial, fin_drop ?_⟩
        have g3 := of_decide_eq_false h3
        rw [decide_eq_false (fun q : x0 ≤ x ∧ x ≤ x1 ∧ y0 ≤ y ∧ y ≤ y1 => g3 q.2.2.1)]; rfl
    · conv => whnf
      refine ⟨trivial, fin_drop ?_⟩
      have g3 := of_decide_eq_false h2
      rw [decide_eq_false (fun q : x0 ≤ x ∧ x ≤ x1 ∧ y0 ≤ y ∧ y ≤ y1 => g3 q.2.1)]; rfl
  · conv => whnf
    refine ⟨trivial, fin_drop ?_⟩
    have g3 := of_decide_eq_false h1
    rw [decide_eq_false (fun q : x0 ≤ x ∧ x ≤ x1 ∧ y0 ≤ y ∧ y ≤ y1 => g3 q.1)]; rfl
end Go.Proofs.Ytlplbgbnojibmaa

/-
  skip's ways: value, most, leave.
-/
namespace Go.Proofs.Ytlplbgbnojibmaa
open Go.RowKit
open Sy
set_option linter.unusedVariables false
set_option linter.unusedSimpArgs false
set_option maxRecDepth 100000
set_option maxHeartbeats 4000000

/-- a way: its pyramid, its cells -/
structure WayAt (R : HP) (wb pb W H gb n c : Nat) (q : Nat → Nat × Nat) (F : Nat → Nat → Int × Int) : Prop where
  head : ∀ w, Sat R w → w.cell? ⟨wb, 0, none⟩ = some (.pointer (some ⟨pb, 0, none⟩)) ∧ w.cell? ⟨wb, 1, none⟩ = some (.int .i64 (W : Int)) ∧ w.cell? ⟨wb, 2, none⟩ = some (.int .i64 (H : Int)) ∧ w.cell? ⟨wb, 3, none⟩ = some (.slice (some ⟨gb, 0, none⟩) n c)
  cel : ∀ w, Sat R w → ∀ i, i < n → w.cell? ⟨gb, i * 2, none⟩ = some (.int .i64 ((q i).1 : Int)) ∧ w.cell? ⟨gb, i * 2 + 1, none⟩ = some (.int .i64 ((q i).2 : Int))
  pyr : ∀ w, Sat R w → Sat (pyrH pb W H F) w
theorem WayAt.mono {R R' : HP} {wb pb W H gb n c : Nat} {q : Nat → Nat × Nat} {F : Nat → Nat → Int × Int} (h : WayAt R wb pb W H gb n c q F) (hr : ∀ w, Sat R' w → Sat R w) : WayAt R' wb pb W H gb n c q F :=
  ⟨fun w s => h.head w (hr w s), fun w s => h.cel w (hr w s), fun w s => h.pyr w (hr w s)⟩
/-- the values of a level at a place's cell -/
def topV (W : Nat) (F : Nat → Nat → Int × Int) (k : Nat) (c : Nat × Nat) : Int × Int := F k (c.2 / 2 ^ k * halfN W k + c.1 / 2 ^ k)
theorem sWValue {R : HP} {wb pb W H gb n c : Nat} {q : Nat → Nat × Nat} {F : Nat → Nat → Int × Int} (hA : WayAt R wb pb W H gb n c q F) (hW : 1 ≤ W ∧ W ≤ 1024) (hH : 1 ≤ H ∧ H ≤ 1024) {i : Nat} (hi : i < n) (hq : (q i).1 < W ∧ (q i).2 < H) :
    PureR Try.prog R 127 [.pointer (some ⟨wb, 0, none⟩), .int .i64 (i : Int)] (.int .i64 (topV W F 0 (q i)).2) := by
  have hv : topV W F 0 (q i) = F 0 ((q i).2 * W + (q i).1) := by
    unfold topV
    rw [halfN_zero hW.1]; simp
  rw [hv]
  have hat := fun (R' : HP) (hR' : ∀ w, Sat R' w → Sat R w) => sPAt (R := R') (x := ((q i).1 : Int)) (y := ((q i).2 : Int)) hW hH (fun w s => hA.pyr w (hR' w s)) (levN_pos (W : Int) (H : Int)) (v := F 0 ((q i).2 * W + (q i).1)) (e := 0) (.inl ⟨(q i).1, (q i).2, rfl, rfl, by rw [halfN_zero hW.1]; exact hq.1, by rw [halfN_zero hH.1]; exact hq.2, by rw [halfN_zero hW.1], rfl⟩)
  have h0 := fun w s => (hA.head w s).1
  have h3 := fun w s => (hA.head w s).2.2.2
  have hc := fun w s => hA.cel w s i hi
  clear hv hA
  generalize F 0 ((q i).2 * W + (q i).1) = v at *
  generalize q i = u at *
  obtain ⟨x, y⟩ := u
  simp only at *
  refine fn_of_run0 false Try.func127 rfl hmix rfl fun w0 => ?_
  conv => whnf
  refine ⟨trivial, RegAt.joins [((Tr.T 0 (Tr.T 1 (Tr.T 2 (Tr.T 3 (Tr.T 4 (Tr.T 5 (Tr.T 6 (Tr.T 7 (Tr.T 8 (Tr.T 9 (Tr.T 10 (Tr.C 11 (Tr.T 12 (Tr.T 13 (Tr.T 14 (Tr.H 15 (Tr.H 16 Tr.E))))) 15 (Tr.H 11 (Tr.T 12 (Tr.T 13 (Tr.T 14 (Tr.H 16 Tr.E))))))))))))))))), 17), ((Tr.T 17 Tr.E), 18)] [] [(5, .p 0 0)] [(0, 30, [.v (.int .i64 v.1), .v (.int .i64 v.2)])] 1 [] hmix (by kernel_rfl) ?_ ?_⟩
  · conv => whnf
    refine ⟨trivial, LoadAt.cell (.pointer (some ⟨pb, 0, none⟩)) rfl rfl (fun w hw => h0 w hw) ?_⟩
    conv => whnf
    refine ⟨trivial, LoadAt.cell (.slice (some ⟨gb, 0, none⟩) n c) rfl rfl (fun w hw => h3 w hw) ?_⟩
    conv => whnf
    refine ⟨⟨trivial, by omega⟩, LoadAt.agg [.int .i64 (x : Int), .int .i64 (y : Int)] rfl rfl rfl (fun w hw j v hj => ?_) ?_⟩
    · obtain ⟨q1, q2⟩ := hc w hw
      rw [Int.toNat_natCast, Nat.zero_add]
      rcases j with _ | _ | j
      · simp at hj; rw [← hj]; exact q1
      · simp at hj; rw [← hj]; exact q2
      · simp at hj
    conv => whnf
    refine ⟨?_, ?_⟩
    · refine ⟨trivial, CallAt.pure (fun R' hR' => hat R' hR') ?_⟩
      conv => whnf
      refine ⟨trivial, ⟨⟨rfl, rfl⟩, fun h s => sub_same s⟩, ?_⟩
      conv => whnf
      refine ⟨trivial, ⟨⟨rfl, rfl⟩, fun h s => sub_same s⟩, ?_⟩
      conv => whnf
      refine ⟨trivial, ⟨⟨rfl, rfl⟩, fun h s => sub_same s⟩, ?_⟩
      conv => whnf
      refine ⟨trivial, Le.of (Nat.le_of_ble_eq_true rfl) (Nat.zero_le _) ⟨⟨rfl, rfl⟩, trivial⟩ ⟨⟨rfl, rfl, rfl, rfl⟩, trivial⟩ fun h s => sub_same s⟩
    · refine ⟨trivial, ⟨⟨rfl, rfl⟩, fun h s => sub_same s⟩, ?_⟩
      conv => whnf
      refine ⟨trivial, CallAt.pure (fun R' hR' => hat R' hR') ?_⟩
      conv => whnf
      refine ⟨trivial, ⟨⟨rfl, rfl⟩, fun h s => sub_same s⟩, ?_⟩
      conv => whnf
      refine ⟨trivial, ⟨⟨rfl, rfl⟩, fun h s => sub_same s⟩, ?_⟩
      conv => whnf
      refine ⟨trivial, Le.of (Nat.le_of_ble_eq_true rfl) (Nat.zero_le _) ⟨⟨rfl, rfl⟩, trivial⟩ ⟨⟨rfl, rfl, rfl, rfl⟩, trivial⟩ fun h s => sub_same s⟩
  · conv => whnf
    exact ⟨trivial, fin_pure rfl rfl⟩
theorem sWMost {R : HP} {wb pb W H gb n c : Nat} {q : Nat → Nat × Nat} {F : Nat → Nat → Int × Int} (hA : WayAt R wb pb W H gb n c q F) (hW : 1 ≤ W ∧ W ≤ 1024) (hH : 1 ≤ H ∧ H ≤ 1024) {k i : Nat} (hk : k < levN W H) (hi : i < n) (hq : (q i).1 < W ∧ (q i).2 < H) :
    PureR Try.prog R 156 [.pointer (some ⟨wb, 0, none⟩), .int .i64 (k : Int), .int .i64 (i : Int)] (.int .i64 (topV W F k (q i)).2) := by
  have hsz : SizeOk (W : Int) (H : Int) := ⟨by omega, by omega, by omega, by omega⟩
  have hat := fun (R' : HP) (hR' : ∀ w, Sat R' w → Sat R w) => sPAt (R := R') (x := (((q i).1 / 2 ^ k : Nat) : Int)) (y := (((q i).2 / 2 ^ k : Nat) : Int)) hW hH (fun w s => hA.pyr w (hR' w s)) hk (v := topV W F k (q i)) (e := 0) (.inl ⟨(q i).1 / 2 ^ k, (q i).2 / 2 ^ k, rfl, rfl, cell_in k hq.1, cell_in k hq.2, rfl, rfl⟩)
  have hab := fun R' => sAbove hsz hk hq.1 hq.2 R'
  have h0 := fun w s => (hA.head w s).1
  have h1 := fun w s => (hA.head w s).2.1
  have h2 := fun w s => (hA.head w s).2.2.1
  have h3 := fun w s => (hA.head w s).2.2.2
  have hc := fun w s => hA.cel w s i hi
  have hl11 := levN_le hsz
  clear hA hq
  generalize topV W F k (q i) = v at *
  generalize q i = u at *
  obtain ⟨x, y⟩ := u
  simp only at *
  generalize x / 2 ^ k = X at *
  generalize y / 2 ^ k = Y at *
  refine fn_of_run0 false Try.func156 rfl hmix rfl fun w0 => ?_
  conv => whnf
  refine ⟨trivial, RegAt.joins [((Tr.T 0 (Tr.T 1 (Tr.T 2 (Tr.T 3 (Tr.T 4 (Tr.T 5 (Tr.T 6 (Tr.T 7 (Tr.T 8 (Tr.T 9 (Tr.T 10 (Tr.T 11 (Tr.T 12 (Tr.T 13 (Tr.T 14 (Tr.T 15 (Tr.C 16 (Tr.T 17 (Tr.T 18 (Tr.T 19 (Tr.H 20 (Tr.H 21 Tr.E))))) 20 (Tr.H 16 (Tr.T 17 (Tr.T 18 (Tr.T 19 (Tr.H 21 Tr.E)))))))))))))))))))))), 22), ((Tr.T 22 Tr.E), 23)] [0, 1] [(7, .p 0 0)] [(0, 35, [.v (.int .i64 (X : Int)), .v (.int .i64 (Y : Int))])] 1 [] hmix (by kernel_rfl) ?_ ?_⟩
  · conv => whnf
    refine ⟨trivial, LoadAt.cell (.int .i64 (W : Int)) rfl rfl (fun w hw => h1 w hw) ?_⟩
    conv => whnf
    refine ⟨trivial, LoadAt.cell (.int .i64 (H : Int)) rfl rfl (fun w hw => h2 w hw) ?_⟩
    conv => whnf
    refine ⟨trivial, LoadAt.cell (.slice (some ⟨gb, 0, none⟩) n c) rfl rfl (fun w hw => h3 w hw) ?_⟩
    conv => whnf
    refine ⟨⟨trivial, by omega⟩, LoadAt.agg [.int .i64 (x : Int), .int .i64 (y : Int)] rfl rfl rfl (fun w hw j v hj => ?_) ?_⟩
    · obtain ⟨q1, q2⟩ := hc w hw
      rw [Int.toNat_natCast, Nat.zero_add]
      rcases j with _ | _ | j
      · simp at hj; rw [← hj]; exact q1
      · simp at hj; rw [← hj]; exact q2
      · simp at hj
    conv => whnf
    refine ⟨?_, ?_⟩
    · refine ⟨trivial, CallAt.pure (fun R' hR' => hab R') ?_⟩
      conv => whnf
      refine ⟨trivial, ⟨⟨rfl, rfl⟩, fun h s => sub_same s⟩, ?_⟩
      conv => whnf
      refine ⟨trivial, ⟨⟨rfl, rfl⟩, fun h s => sub_same s⟩, ?_⟩
      conv => whnf
      refine ⟨trivial, ⟨⟨rfl, rfl⟩, fun h s => sub_same s⟩, ?_⟩
      conv => whnf
      refine ⟨trivial, Le.of (Nat.le_of_ble_eq_true rfl) (Nat.zero_le _) ⟨⟨rfl, rfl⟩, ⟨rfl, rfl⟩, ⟨rfl, rfl⟩, trivial⟩ ⟨⟨rfl, rfl, rfl, rfl⟩, trivial⟩ fun h s => sub_same s⟩
    · refine ⟨trivial, ⟨⟨rfl, rfl⟩, fun h s => sub_same s⟩, ?_⟩
      conv => whnf
      refine ⟨trivial, CallAt.pure (fun R' hR' => hab R') ?_⟩
      conv => whnf
      refine ⟨trivial, ⟨⟨rfl, rfl⟩, fun h s => sub_same s⟩, ?_⟩
      conv => whnf
      refine ⟨trivial, ⟨⟨rfl, rfl⟩, fun h s => sub_same s⟩, ?_⟩
      conv => whnf
      refine ⟨trivial, Le.of (Nat.le_of_ble_eq_true rfl) (Nat.zero_le _) ⟨⟨rfl, rfl⟩, ⟨rfl, rfl⟩, ⟨rfl, rfl⟩, trivial⟩ ⟨⟨rfl, rfl, rfl, rfl⟩, trivial⟩ fun h s => sub_same s⟩
  · conv => whnf
    refine ⟨trivial, RegAt.joins [((Tr.T 0 (Tr.T 1 (Tr.T 2 (Tr.T 3 (Tr.T 4 (Tr.T 5 (Tr.C 6 (Tr.T 7 (Tr.T 8 (Tr.T 9 (Tr.H 10 (Tr.H 11 Tr.E))))) 10 (Tr.H 6 (Tr.T 7 (Tr.T 8 (Tr.T 9 (Tr.H 11 Tr.E)))))))))))), 12), ((Tr.T 12 Tr.E), 13)] [] [(9, .p 1 0)] [(1, 30, [.v (.int .i64 v.1), .v (.int .i64 v.2)]), (0, 35, [.v (.int .i64 (X : Int)), .v (.int .i64 (Y : Int))])] 2 [] hmix (by kernel_rfl) ?_ ?_⟩
    · conv => whnf
      refine ⟨trivial, LoadAt.cell (.pointer (some ⟨pb, 0, none⟩)) rfl rfl (fun w hw => h0 w hw) ?_⟩
      conv => whnf
      refine ⟨?_, ?_⟩
      · refine ⟨trivial, CallAt.pure (fun R' hR' => hat R' hR') ?_⟩
        conv => whnf
        refine ⟨trivial, ⟨⟨rfl, rfl⟩, fun h s => sub_same s⟩, ?_⟩
        conv => whnf
        refine ⟨trivial, ⟨⟨rfl, rfl⟩, fun h s => sub_same s⟩, ?_⟩
        conv => whnf
        refine ⟨trivial, ⟨⟨rfl, rfl⟩, fun h s => sub_same s⟩, ?_⟩
        conv => whnf
        refine ⟨trivial, Le.of (Nat.le_of_ble_eq_true rfl) (Nat.zero_le _) ⟨⟨rfl, rfl⟩, trivial⟩ ⟨⟨rfl, rfl, rfl, rfl⟩, ⟨rfl, rfl, rfl, rfl⟩, trivial⟩ fun h s => sub_same s⟩
      · refine ⟨trivial, ⟨⟨rfl, rfl⟩, fun h s => sub_same s⟩, ?_⟩
        conv => whnf
        refine ⟨trivial, CallAt.pure (fun R' hR' => hat R' hR') ?_⟩
        conv => whnf
        refine ⟨trivial, ⟨⟨rfl, rfl⟩, fun h s => sub_same s⟩, ?_⟩
        conv => whnf
        refine ⟨trivial, ⟨⟨rfl, rfl⟩, fun h s => sub_same s⟩, ?_⟩
        conv => whnf
        refine ⟨trivial, Le.of (Nat.le_of_ble_eq_true rfl) (Nat.zero_le _) ⟨⟨rfl, rfl⟩, trivial⟩ ⟨⟨rfl, rfl, rfl, rfl⟩, ⟨rfl, rfl, rfl, rfl⟩, trivial⟩ fun h s => sub_same s⟩
    · conv => whnf
      exact ⟨trivial, fin_pure rfl rfl⟩
/-- within the cell of a level that a place is in -/
def inCell (W H k : Nat) (c d : Nat × Nat) : Prop := c.1 / 2 ^ k * 2 ^ k ≤ d.1 ∧ d.1 ≤ spX1 W k (c.1 / 2 ^ k) ∧ c.2 / 2 ^ k * 2 ^ k ≤ d.2 ∧ d.2 ≤ spX1 H k (c.2 / 2 ^ k)
theorem sp_self {W k x : Nat} (hx : x < W) : x / 2 ^ k * 2 ^ k ≤ x ∧ x ≤ spX1 W k (x / 2 ^ k) := by
  have hp := pow_pos' k
  refine ⟨Nat.div_mul_le_self _ _, ?_⟩
  unfold spX1
  have h1 : x < (x / 2 ^ k + 1) * 2 ^ k := by
    rw [Nat.mul_comm]
    exact Nat.lt_mul_div_succ x hp
  generalize (x / 2 ^ k + 1) * 2 ^ k = p at *
  omega
theorem sWLeave {R : HP} {wb pb W H gb n c : Nat} {q : Nat → Nat × Nat} {F : Nat → Nat → Int × Int} (hA : WayAt R wb pb W H gb n c q F) (hW : 1 ≤ W ∧ W ≤ 1024) (hH : 1 ≤ H ∧ H ≤ 1024) (hn : n ≤ 1024) {k i e : Nat} (hk : k < levN W H) (hi : i ≤ e) (he : e < n) (hq : ∀ j, j < n → (q j).1 < W ∧ (q j).2 < H) :
    FnR Try.prog R 155 [.pointer (some ⟨wb, 0, none⟩), .int .i64 (k : Int), .int .i64 (i : Int), .int .i64 (e : Int)] [] fun r hs => ∃ t : Nat, r = .int .i64 (t : Int) ∧ i ≤ t ∧ t ≤ e ∧ inCell W H k (q i) (q t) ∧ hs = [] := by
  have hsz : SizeOk (W : Int) (H : Int) := ⟨by omega, by omega, by omega, by omega⟩
  have hqi := hq i (by omega)
  have hab := fun R' => sAbove hsz hk hqi.1 hqi.2 R'
  have hsp := fun R' => sTSpan W H k _ _ hsz hk (cell_in k hqi.1) (cell_in k hqi.2) R'
  have k1 := sp_ok hW.1 (cell_in k hqi.1)
  have k2 := sp_ok hH.1 (cell_in k hqi.2)
  have hself : inCell W H k (q i) (q i) := ⟨(sp_self hqi.1).1, (sp_self hqi.1).2, (sp_self hqi.2).1, (sp_self hqi.2).2⟩
  have h1 := fun w s => (hA.head w s).2.1
  have h2 := fun w s => (hA.head w s).2.2.1
  have h3 := fun w s => (hA.head w s).2.2.2
  have hcl := fun w s j hj => hA.cel w s j hj
  have hc := fun w s => hA.cel w s i (by omega)
  have hl11 := levN_le hsz
  clear hA hq
  unfold inCell at *
  have hqe : q i = q i := rfl
  generalize hu : q i = u at *
  obtain ⟨x, y⟩ := u
  simp only at *
  generalize x / 2 ^ k = X at *
  generalize y / 2 ^ k = Y at *
  generalize X * 2 ^ k = x0 at *
  generalize Y * 2 ^ k = y0 at *
  generalize spX1 W k X = x1 at *
  generalize spX1 H k Y = y1 at *
  have hhas := fun (j : Nat) R' => sHas2 (x0 : Int) (y0 : Int) (x1 : Int) (y1 : Int) ((q j).1 : Int) ((q j).2 : Int) (by unfold Q4.ok; simp only; omega) R'
  refine fn_of_run0 true Try.func155 rfl hmix rfl fun w0 => ?_
  conv => whnf
  refine ⟨trivial, RegAt.joins [((Tr.T 0 (Tr.T 1 (Tr.T 2 (Tr.T 3 (Tr.T 4 (Tr.T 5 (Tr.T 6 (Tr.T 7 (Tr.T 8 (Tr.T 9 (Tr.T 10 (Tr.T 11 (Tr.T 12 (Tr.T 13 (Tr.T 14 (Tr.T 15 (Tr.C 16 (Tr.T 17 (Tr.T 18 (Tr.T 19 (Tr.H 20 (Tr.H 21 Tr.E))))) 20 (Tr.H 16 (Tr.T 17 (Tr.T 18 (Tr.T 19 (Tr.H 21 Tr.E)))))))))))))))))))))), 22), ((Tr.T 22 Tr.E), 23)] [0, 1, 2, 3] [(9, .p 0 0)] [(0, 35, [.v (.int .i64 (X : Int)), .v (.int .i64 (Y : Int))])] 1 [] hmix (by kernel_rfl) ?_ ?_⟩
  · conv => whnf
    refine ⟨trivial, LoadAt.cell (.int .i64 (W : Int)) rfl rfl (fun w hw => h1 w hw) ?_⟩
    conv => whnf
    refine ⟨trivial, LoadAt.cell (.int .i64 (H : Int)) rfl rfl (fun w hw => h2 w hw) ?_⟩
    conv => whnf
    refine ⟨trivial, LoadAt.cell (.slice (some ⟨gb, 0, none⟩) n c) rfl rfl (fun w hw => h3 w hw) ?_⟩
    conv => whnf
    refine ⟨⟨trivial, by omega⟩, LoadAt.agg [.int .i64 (x : Int), .int .i64 (y : Int)] rfl rfl rfl (fun w hw j v hj => ?_) ?_⟩
    · obtain ⟨q1, q2⟩ := hc w hw
      rw [Int.toNat_natCast, Nat.zero_add]
      rcases j with _ | _ | j
      · simp at hj; rw [← hj]; exact q1
      · simp at hj; rw [← hj]; exact q2
      · simp at hj
    conv => whnf
    refine ⟨?_, ?_⟩
    · refine ⟨trivial, CallAt.pure (fun R' hR' => hab R') ?_⟩
      conv => whnf
      refine ⟨trivial, ⟨⟨rfl, rfl⟩, fun h s => sub_same s⟩, ?_⟩
      conv => whnf
      refine ⟨trivial, ⟨⟨rfl, rfl⟩, fun h s => sub_same s⟩, ?_⟩
      conv => whnf
      refine ⟨trivial, ⟨⟨rfl, rfl⟩, fun h s => sub_same s⟩, ?_⟩
      conv => whnf
      refine ⟨trivial, Le.of (Nat.le_of_ble_eq_true rfl) (Nat.zero_le _) ⟨⟨rfl, rfl⟩, ⟨rfl, rfl⟩, ⟨rfl, rfl⟩, ⟨rfl, rfl⟩, ⟨rfl, rfl⟩, trivial⟩ ⟨⟨rfl, rfl, rfl, rfl⟩, trivial⟩ fun h s => sub_same s⟩
    · refine ⟨trivial, ⟨⟨rfl, rfl⟩, fun h s => sub_same s⟩, ?_⟩
      conv => whnf
      refine ⟨trivial, CallAt.pure (fun R' hR' => hab R') ?_⟩
      conv => whnf
      refine ⟨trivial, ⟨⟨rfl, rfl⟩, fun h s => sub_same s⟩, ?_⟩
      conv => whnf
      refine ⟨trivial, ⟨⟨rfl, rfl⟩, fun h s => sub_same s⟩, ?_⟩
      conv => whnf
      refine ⟨trivial, Le.of (Nat.le_of_ble_eq_true rfl) (Nat.zero_le _) ⟨⟨rfl, rfl⟩, ⟨rfl, rfl⟩, ⟨rfl, rfl⟩, ⟨rfl, rfl⟩, ⟨rfl, rfl⟩, trivial⟩ ⟨⟨rfl, rfl, rfl, rfl⟩, trivial⟩ fun h s => sub_same s⟩
  · conv => whnf
    refine ⟨trivial, RegAt.joins [((Tr.T 0 (Tr.T 1 (Tr.T 2 (Tr.T 3 (Tr.T 4 (Tr.T 5 (Tr.T 6 (Tr.T 7 (Tr.T 8 (Tr.T 9 (Tr.C 10 (Tr.T 11 (Tr.T 12 (Tr.T 13 (Tr.H 14 (Tr.H 15 Tr.E))))) 14 (Tr.H 10 (Tr.T 11 (Tr.T 12 (Tr.T 13 (Tr.H 15 Tr.E)))))))))))))))), 16), ((Tr.T 16 Tr.E), 17)] [0, 2, 3] [(11, .p 1 0)] [(1, 25, [.v (.int .i64 (x0 : Int)), .v (.int .i64 (y0 : Int)), .v (.int .i64 (x1 : Int)), .v (.int .i64 (y1 : Int))]), (0, 35, [.v (.int .i64 (X : Int)), .v (.int .i64 (Y : Int))])] 2 [] hmix (by kernel_rfl) ?_ ?_⟩
    · conv => whnf
      refine ⟨trivial, LoadAt.cell (.int .i64 (W : Int)) rfl rfl (fun w hw => h1 w hw) ?_⟩
      conv => whnf
      refine ⟨trivial, LoadAt.cell (.int .i64 (H : Int)) rfl rfl (fun w hw => h2 w hw) ?_⟩
      conv => whnf
      refine ⟨?_, ?_⟩
      · refine ⟨trivial, CallAt.pure (fun R' hR' => hsp R') ?_⟩
        conv => whnf
        refine ⟨trivial, ⟨⟨rfl, rfl⟩, fun h s => sub_same s⟩, ?_⟩
        conv => whnf
        refine ⟨trivial, ⟨⟨rfl, rfl⟩, fun h s => sub_same s⟩, ?_⟩
        conv => whnf
        refine ⟨trivial, ⟨⟨rfl, rfl⟩, fun h s => sub_same s⟩, ?_⟩
        conv => whnf
        refine ⟨trivial, Le.of (Nat.le_of_ble_eq_true rfl) (Nat.zero_le _) ⟨⟨rfl, rfl⟩, ⟨rfl, rfl⟩, ⟨rfl, rfl⟩, ⟨rfl, rfl⟩, trivial⟩ ⟨⟨rfl, rfl, rfl, rfl⟩, ⟨rfl, rfl, rfl, rfl⟩, trivial⟩ fun h s => sub_same s⟩
      · refine ⟨trivial, ⟨⟨rfl, rfl⟩, fun h s => sub_same s⟩, ?_⟩
        conv => whnf
        refine ⟨trivial, CallAt.pure (fun R' hR' => hsp R') ?_⟩
        conv => whnf
        refine ⟨trivial, ⟨⟨rfl, rfl⟩, fun h s => sub_same s⟩, ?_⟩
        conv => whnf
        refine ⟨trivial, ⟨⟨rfl, rfl⟩, fun h s => sub_same s⟩, ?_⟩
        conv => whnf
        refine ⟨trivial, Le.of (Nat.le_of_ble_eq_true rfl) (Nat.zero_le _) ⟨⟨rfl, rfl⟩, ⟨rfl, rfl⟩, ⟨rfl, rfl⟩, ⟨rfl, rfl⟩, trivial⟩ ⟨⟨rfl, rfl, rfl, rfl⟩, ⟨rfl, rfl, rfl, rfl⟩, trivial⟩ fun h s => sub_same s⟩
    · conv => whnf
      refine ⟨trivial, LoopAt.keep (α := Nat × Nat) [0, 11] (fun a => [(13, .v (.int .i64 (a.1 : Int))), (14, .v (.int .i64 (a.2 : Int)))]) (fun a => (i ≤ a.1 ∧ a.1 ≤ a.2 ∧ a.2 ≤ e) ∧ x0 ≤ (q a.1).1 ∧ (q a.1).1 ≤ x1 ∧ y0 ≤ (q a.1).2 ∧ (q a.1).2 ≤ y1) (fun a => a.2 - a.1) (i, e) ⟨⟨Nat.le_refl _, hi, Nat.le_refl _⟩, by rw [hu]; exact hself⟩ rfl ⟨⟨rfl, rfl⟩, ⟨rfl, rfl⟩, trivial⟩ ⟨⟨rfl, rfl⟩, ⟨rfl, rfl⟩, trivial⟩ ⟨⟨rfl, rfl, rfl, rfl⟩, ⟨rfl, rfl, rfl, rfl⟩, trivial⟩ ?_⟩
      rintro ⟨lo, hi'⟩ ⟨⟨a1, a2, a3⟩, a4⟩
      simp only at a1 a2 a3 a4
      obtain ⟨m, hm⟩ : ∃ m : Nat, m = (lo + hi' + 1) / 2 := ⟨_, rfl⟩
      have hdm : ((lo : Int) + (hi' : Int) + 1).tdiv 2 = (m : Int) := by
        rw [hm]
        have e1 : (lo : Int) + (hi' : Int) + 1 = ((lo + hi' + 1 : Nat) : Int) := by omega
        rw [e1]
        exact (Int.tdiv_eq_ediv_of_nonneg (by omega)).trans (by omega)
      conv => whnf
      refine ⟨fun h => ?_, fun h => ?_⟩
      · have hlt : lo < hi' := by have := of_decide_eq_true h; omega
        have hcm := fun w s => hcl w s m (by omega)
        have hhm := fun R' => hhas m R'
        conv => whnf
        rw [hdm, IntWalk.i64_in (m : Int) (by omega)]
        refine ⟨(by (repeat' apply And.intro) <;> first | exact True.intro | (unfold rng; omega) | omega), RegAt.quiet hmix (by kernel_rfl) ?_⟩
        conv => whnf
        refine ⟨trivial, LoadAt.cell (.slice (some ⟨gb, 0, none⟩) n c) rfl rfl (fun w hw => h3 w hw) ?_⟩
        conv => whnf
        refine ⟨⟨trivial, by omega⟩, LoadAt.agg [.int .i64 ((q m).1 : Int), .int .i64 ((q m).2 : Int)] rfl rfl rfl (fun w hw j v hj => ?_) ?_⟩
        · obtain ⟨q1, q2⟩ := hcm w hw
          rw [Int.toNat_natCast, Nat.zero_add]
          rcases j with _ | _ | j
          · simp at hj; rw [← hj]; exact q1
          · simp at hj; rw [← hj]; exact q2
          · simp at hj
        conv => whnf
        refine ⟨trivial, CallQ.pure (fun R' hR' => hhm R') ?_⟩
        conv => whnf
        refine ⟨trivial, ?_⟩
        conv => whnf
        refine ⟨fun g => ?_, fun g => ?_⟩
        · have g1 := of_decide_eq_true g
          conv => whnf
          exact ⟨trivial, .keep (m, hi') ⟨⟨by show i ≤ m; omega, by show m ≤ hi'; omega, a3⟩, by show x0 ≤ (q m).1 ∧ (q m).1 ≤ x1 ∧ y0 ≤ (q m).2 ∧ (q m).2 ≤ y1; omega⟩ (by show hi' - m < hi' - lo; omega) ⟨⟨rfl, rfl⟩, ⟨rfl, rfl⟩, trivial⟩ ⟨⟨rfl, rfl⟩, ⟨rfl, rfl⟩, trivial⟩ ⟨⟨rfl, rfl, rfl, rfl⟩, ⟨rfl, rfl, rfl, rfl⟩, trivial⟩ rfl rfl rfl⟩
        · conv => whnf
          have em : (m : Int) - 1 = ((m - 1 : Nat) : Int) := by omega
          rw [em]
          exact ⟨(by (repeat' apply And.intro) <;> first | exact True.intro | (unfold rng; omega) | omega), .keep (lo, m - 1) ⟨⟨a1, by show lo ≤ m - 1; omega, by show m - 1 ≤ e; omega⟩, a4⟩ (by show m - 1 - lo < hi' - lo; omega) ⟨⟨rfl, rfl⟩, ⟨rfl, rfl⟩, trivial⟩ ⟨⟨rfl, rfl⟩, ⟨rfl, rfl⟩, trivial⟩ ⟨⟨rfl, rfl, rfl, rfl⟩, ⟨rfl, rfl, rfl, rfl⟩, trivial⟩ rfl rfl rfl⟩
      · have heq : lo = hi' := by have := of_decide_eq_false h; omega
        conv => whnf
        exact ⟨trivial, .mk [] (fun w s => s) ⟨lo, rfl, a1, by omega, a4, rfl⟩⟩
end Go.Proofs.Ytlplbgbnojibmaa

/-
  skip: the first place that hides; what Clear asks.
-/
namespace Go.Proofs.Ytlplbgbnojibmaa
open Go.RowKit
open Sy
set_option linter.unusedVariables false
set_option linter.unusedSimpArgs false
set_option maxRecDepth 100000
set_option maxHeartbeats 4000000

/-- hides a value at a place -/
def hidB (u t : Int) (N : Nat) (v : Int) (i : Nat) : Prop := (t - u) * (i : Int) < (v - u) * (N : Int)
instance (u t : Int) (N : Nat) (v : Int) (i : Nat) : Decidable (hidB u t N v i) := by unfold hidB; infer_instance
theorem sClear1 {R : HP} {eb tb nb N : Nat} {u t : Int} (z : Int) (i j : Nat) (hN : 1 ≤ N ∧ N ≤ 1024) (hi : i ≤ N) (hj : j ≤ N) (hz : nearP z) (hu : nearP u) (ht : nearP t)
    (hR : ∀ w, Sat R w → w.cell? ⟨eb, 0, none⟩ = some (.int .i64 u) ∧ w.cell? ⟨tb, 0, none⟩ = some (.int .i64 t) ∧ w.cell? ⟨nb, 0, none⟩ = some (.int .i64 (N : Int))) :
    PureR Try.prog R 129 [.int .i64 z, .int .i64 (i : Int), .int .i64 (j : Int), .pointer (some ⟨eb, 0, none⟩), .pointer (some ⟨tb, 0, none⟩), .pointer (some ⟨nb, 0, none⟩)] (.bool (decide (hidB u t N z i) || decide (hidB u t N z j))) := by
  have h1 := fun R' => sHides z u t i N hN hi hz hu ht R'
  have h2 := fun R' => sHides z u t j N hN hj hz hu ht R'
  have c0 := fun w s => (hR w s).1
  have c1 := fun w s => (hR w s).2.1
  have c2 := fun w s => (hR w s).2.2
  unfold hidB
  generalize decide ((t - u) * (i : Int) < (z - u) * (N : Int)) = a at *
  generalize decide ((t - u) * (j : Int) < (z - u) * (N : Int)) = b at *
  refine fn_of_run0 false Try.func129 rfl hmix rfl fun w0 => ?_
  conv => whnf
  refine ⟨trivial, LoadAt.cell (.int .i64 u) rfl rfl (fun w hw => c0 w hw) ?_⟩
  conv => whnf
  refine ⟨trivial, LoadAt.cell (.int .i64 t) rfl rfl (fun w hw => c1 w hw) ?_⟩
  conv => whnf
  refine ⟨trivial, LoadAt.cell (.int .i64 (N : Int)) rfl rfl (fun w hw => c2 w hw) ?_⟩
  conv => whnf
  refine ⟨trivial, CallAt.pure (fun R' hR' => h1 R') ?_⟩
  conv => whnf
  refine ⟨trivial, LoadAt.cell (.int .i64 u) rfl rfl (fun w hw => c0 w hw) ?_⟩
  conv => whnf
  refine ⟨trivial, LoadAt.cell (.int .i64 t) rfl rfl (fun w hw => c1 w hw) ?_⟩
  conv => whnf
  refine ⟨trivial, LoadAt.cell (.int .i64 (N : Int)) rfl rfl (fun w hw => c2 w hw) ?_⟩
  conv => whnf
  refine ⟨trivial, CallAt.pure (fun R' hR' => h2 R') ?_⟩
  conv => whnf
  refine ⟨fun g => ?_, fun g => ?_⟩
  · rw [g]
    conv => whnf
    exact ⟨trivial, fin_drop rfl⟩
  · rw [g]
    conv => whnf
    exact ⟨trivial, fin_drop rfl⟩
/-- a way's cells: in the grid, on a line that doesn't come back -/
structure WayOk (W H n : Nat) (q : Nat → Nat × Nat) : Prop where
  ins : ∀ j, j < n → (q j).1 < W ∧ (q j).2 < H
  conv : ∀ i j t, i ≤ j → j ≤ t → t < n → ((q i).1 ≤ (q j).1 ∧ (q j).1 ≤ (q t).1 ∨ (q t).1 ≤ (q j).1 ∧ (q j).1 ≤ (q i).1) ∧ ((q i).2 ≤ (q j).2 ∧ (q j).2 ≤ (q t).2 ∨ (q t).2 ≤ (q j).2 ∧ (q j).2 ≤ (q i).2)
  inj : ∀ i t, i ≤ t → t < n → q i = q t → i = t
/-- a level's cells show the greatest below -/
structure TopOk (W H : Nat) (F : Nat → Nat → Int × Int) : Prop where
  near : ∀ k c, k < levN W H → c.1 < W → c.2 < H → MayV (topV W F k c).2
  top : ∀ k c d, k < levN W H → c.1 < W → c.2 < H → d.1 < W → d.2 < H → inCell W H k c d → (topV W F 0 d).2 ≤ (topV W F k c).2
theorem cell_conv {W H n k i j t : Nat} {q : Nat → Nat × Nat} (h : WayOk W H n q) (hij : i ≤ j) (hjt : j ≤ t) (ht : t < n) (hi : inCell W H k (q i) (q t)) : inCell W H k (q i) (q j) := by
  obtain ⟨a, b⟩ := h.conv i j t hij hjt ht
  have s1 := h.ins i (by omega)
  have u1 := sp_self (k := k) s1.1
  have u2 := sp_self (k := k) s1.2
  unfold inCell at *
  omega
theorem cell_zero {W H n i t : Nat} {q : Nat → Nat × Nat} (h : WayOk W H n q) (hit : i ≤ t) (ht : t < n) (hi : inCell W H 0 (q i) (q t)) : i = t := by
  apply h.inj i t hit ht
  have s1 := h.ins i (by omega)
  unfold inCell spX1 at hi
  simp only [Nat.pow_zero, Nat.div_one, Nat.mul_one] at hi
  apply Prod.ext <;> omega
/-- a part of a way in which nothing hides -/
theorem none_hid {u t m v : Int} {N i j e : Nat} (hv : v ≤ m) (hi : ¬ hidB u t N m i) (he : ¬ hidB u t N m e) (h1 : i ≤ j) (h2 : j ≤ e) : ¬ hidB u t N v j := by
  unfold hidB at *
  have m1 : (v - u) * (N : Int) ≤ (m - u) * (N : Int) := Int.mul_le_mul_of_nonneg_right (by omega) (by omega)
  rcases Int.le_total 0 (t - u) with c | c
  · have m2 : (t - u) * (i : Int) ≤ (t - u) * (j : Int) := Int.mul_le_mul_of_nonneg_left (by omega) c
    omega
  · have m2 : (t - u) * (e : Int) ≤ (t - u) * (j : Int) := Int.mul_le_mul_of_nonpos_left c (by omega)
    omega
theorem sFirst26 {R : HP} {wb pb W H gb n c eb tb nb N : Nat} {u t : Int} {q : Nat → Nat × Nat} {F : Nat → Nat → Int × Int} (hA : WayAt R wb pb W H gb n c q F) (hW : 1 ≤ W ∧ W ≤ 1024) (hH : 1 ≤ H ∧ H ≤ 1024) (hn : n ≤ 1024) (hq : WayOk W H n q) (hF : TopOk W H F) (hN : 1 ≤ N ∧ N ≤ 1024) {s e : Nat} (hs : s ≤ e + 1) (he : e < n) (heN : e ≤ N)
    (hu : nearP u) (ht : nearP t) (hR : ∀ w, Sat R w → w.cell? ⟨eb, 0, none⟩ = some (.int .i64 u) ∧ w.cell? ⟨tb, 0, none⟩ = some (.int .i64 t) ∧ w.cell? ⟨nb, 0, none⟩ = some (.int .i64 (N : Int))) :
    FnR Try.prog R 128 [.pointer (some ⟨wb, 0, none⟩), .int .i64 (s : Int), .int .i64 (e : Int), .func (.func 129) #[] #[.pointer (some ⟨eb, 0, none⟩), .pointer (some ⟨tb, 0, none⟩), .pointer (some ⟨nb, 0, none⟩)]] [] fun r hs => hs = [] ∧
      ((∃ i : Nat, r = .int .i64 (i : Int) ∧ s ≤ i ∧ i ≤ e ∧ hidB u t N (topV W F 0 (q i)).2 i ∧ ∀ j, s ≤ j → j < i → ¬ hidB u t N (topV W F 0 (q j)).2 j) ∨ (r = .int .i64 (-1) ∧ ∀ j, s ≤ j → j ≤ e → ¬ hidB u t N (topV W F 0 (q j)).2 j)) := by
  have hsz : SizeOk (W : Int) (H : Int) := ⟨by omega, by omega, by omega, by omega⟩
  have hl11 := levN_le hsz
  have hl0 := levN_pos (W : Int) (H : Int)
  have hlv := fun (R' : HP) (hR' : ∀ w, Sat R' w → Sat R w) (k i : Nat) (hk : k < levN W H) (hi : i ≤ e) => sWLeave (R := R') (hA.mono hR') hW hH hn hk hi he hq.ins
  have hmo := fun (R' : HP) (hR' : ∀ w, Sat R' w → Sat R w) (k i : Nat) (hk : k < levN W H) (hi : i ≤ e) => sWMost (R := R') (hA.mono hR') hW hH hk (by omega : i < n) (hq.ins i (by omega))
  have hcl := fun (R' : HP) (hR' : ∀ w, Sat R' w → Sat R w) (k i j : Nat) (hk : k < levN W H) (hi : i ≤ e) (hj : j ≤ e) => sClear1 (R := R') (topV W F k (q i)).2 i j hN (by omega) (by omega) (by have := hF.near k (q i) hk (hq.ins i (by omega)).1 (hq.ins i (by omega)).2; unfold MayV at this; unfold nearP; omega) hu ht (fun w s => hR w (hR' w s))
  have hpl := fun (R' : HP) (hR' : ∀ w, Sat R' w → Sat R w) => sPLevels (R := R') (pb := pb) (W := W) (H := H) (F := F) (fun w s => hA.pyr w (hR' w s))
  have h0 := fun w s => (hA.head w s).1
  have htop : ∀ k i j, k < levN W H → i < n → j < n → inCell W H k (q i) (q j) → (topV W F 0 (q j)).2 ≤ (topV W F k (q i)).2 := fun k i j hk hi hj h => hF.top k (q i) (q j) hk (hq.ins i hi).1 (hq.ins i hi).2 (hq.ins j hj).1 (hq.ins j hj).2 h
  have hcv := fun k i j t a b c d => @cell_conv W H n k i j t q hq a b c d
  have hz := fun i t a b c => @cell_zero W H n i t q hq a b c
  clear hA hR hF
  generalize (levN W H) = L at *
  refine fn_of_run0 false Try.func128 rfl hmix rfl fun w0 => ?_
  conv => whnf
  refine ⟨trivial, LoopAt.keep (α := Nat × Nat) [0, 2, 3] (fun a => [(1, .v (.int .i64 (a.1 : Int))), (9, .v (.int .i64 (a.2 : Int)))]) (fun a => s ≤ a.1 ∧ a.1 ≤ e + 1 ∧ a.2 < L ∧ ∀ j, s ≤ j → j < a.1 → ¬ hidB u t N (topV W F 0 (q j)).2 j) (fun a => 2 * (e + 1 - a.1) + a.2) (s, 0) ⟨Nat.le_refl _, hs, hl0, fun j h1 h2 => absurd h2 (by show ¬ j < s; omega)⟩ rfl ⟨⟨rfl, rfl⟩, ⟨rfl, rfl⟩, trivial⟩ ⟨⟨rfl, rfl⟩, ⟨rfl, rfl⟩, ⟨rfl, rfl⟩, trivial⟩ trivial ?_⟩
  rintro ⟨i, k⟩ ⟨a1, a2, a3, a4⟩
  simp only at a1 a2 a3 a4
  conv => whnf
  refine ⟨fun h => ?_, fun h => ?_⟩
  · have hie : i ≤ e := by have := of_decide_eq_true h; omega
    conv => whnf
    refine ⟨trivial, CallAt.fn (pre := []) [] (fun h s => s) (fun R' hR' => hlv R' hR' k i a3 hie) ?_⟩
    rintro v hs ⟨m, rfl, b1, b2, b3, rfl⟩
    conv => whnf
    refine ⟨trivial, CallAt.pure (fun R' hR' => hmo R' hR' k i a3 hie) ?_⟩
    conv => whnf
    refine ⟨trivial, CallAt.pure (fun R' hR' => hcl R' hR' k i m a3 hie b2) ?_⟩
    conv => whnf
    refine ⟨fun g => ?_, fun g => ?_⟩
    · have g : (decide (hidB u t N (topV W F k (q i)).2 i) || decide (hidB u t N (topV W F k (q i)).2 m)) = false := by simpa using g
      have g1 : ¬ hidB u t N (topV W F k (q i)).2 i := by intro c; rw [decide_eq_true c] at g; simp at g
      have g2 : ¬ hidB u t N (topV W F k (q i)).2 m := by intro c; rw [decide_eq_true c] at g; simp at g
      have hno : ∀ j, i ≤ j → j ≤ m → ¬ hidB u t N (topV W F 0 (q j)).2 j := fun j d1 d2 => none_hid (htop k i j a3 (by omega) (by omega) (hcv k i j m d1 d2 (by omega) b3)) g1 g2 d1 d2
      have e1 : (m : Int) + 1 = ((m + 1 : Nat) : Int) := by omega
      conv => whnf
      refine ⟨(by (repeat' apply And.intro) <;> first | exact True.intro | (unfold rng; omega) | omega), LoadAt.cell (.pointer (some ⟨pb, 0, none⟩)) rfl rfl (fun w hw => h0 w hw) ?_⟩
      conv => whnf
      refine ⟨trivial, CallAt.pure (fun R' hR' => hpl R' hR') ?_⟩
      conv => whnf
      refine ⟨(by (repeat' apply And.intro) <;> first | exact True.intro | (unfold rng; omega) | omega), .keep (m + 1, min (k + 1) (L - 1)) ⟨by show s ≤ m + 1; omega, by show m + 1 ≤ e + 1; omega, by show min (k + 1) (L - 1) < L; omega, fun j d1 d2 => ?_⟩ (by show 2 * (e + 1 - (m + 1)) + min (k + 1) (L - 1) < 2 * (e + 1 - i) + k; omega) ⟨⟨?_, rfl⟩, ⟨?_, rfl⟩, trivial⟩ ⟨⟨rfl, rfl⟩, ⟨rfl, rfl⟩, ⟨rfl, rfl⟩, trivial⟩ trivial rfl rfl rfl⟩
      · have d2 : j < m + 1 := d2
        rcases Nat.lt_or_ge j i with d3 | d3
        · exact a4 j d1 d3
        · exact hno j d3 (by omega)
      · show some (SV.v (Value.int IntKind.i64 _)) = some (SV.v (Value.int IntKind.i64 _))
        rw [← e1]
      · show some (SV.v (Value.int IntKind.i64 (min ((k : Int) + 1) ((L : Int) - 1)))) = some (SV.v (Value.int IntKind.i64 ((min (k + 1) (L - 1) : Nat) : Int)))
        congr 3
        omega
    · have g : hidB u t N (topV W F k (q i)).2 i ∨ hidB u t N (topV W F k (q i)).2 m := by
        by_cases c : hidB u t N (topV W F k (q i)).2 i
        · exact .inl c
        · exact .inr (by simpa [c] using g)
      conv => whnf
      refine ⟨fun g3 => ?_, fun g3 => ?_⟩
      · have g3 := of_decide_eq_true g3
        have e1 : (k : Int) - 1 = ((k - 1 : Nat) : Int) := by omega
        conv => whnf
        rw [e1]
        exact ⟨(by (repeat' apply And.intro) <;> first | exact True.intro | (unfold rng; omega) | omega), .keep (i, k - 1) ⟨a1, a2, by show k - 1 < L; omega, a4⟩ (by show 2 * (e + 1 - i) + (k - 1) < 2 * (e + 1 - i) + k; omega) ⟨⟨rfl, rfl⟩, ⟨rfl, rfl⟩, trivial⟩ ⟨⟨rfl, rfl⟩, ⟨rfl, rfl⟩, ⟨rfl, rfl⟩, trivial⟩ trivial rfl rfl rfl⟩
      · have g3 := of_decide_eq_false g3
        have hk0 : k = 0 := by omega
        subst hk0
        have := hz i m b1 (by omega) b3
        subst this
        conv => whnf
        refine ⟨trivial, .mk [] (fun w s => s) ⟨rfl, .inl ⟨i, rfl, a1, hie, ?_, a4⟩⟩⟩
        exact g.elim (fun x => x) (fun x => x)
  · have hie : i = e + 1 := by have := of_decide_eq_false h; omega
    conv => whnf
    exact ⟨trivial, .mk [] (fun w s => s) ⟨rfl, .inr ⟨rfl, fun j h1 h2 => a4 j h1 (by omega)⟩⟩⟩
end Go.Proofs.Ytlplbgbnojibmaa

/-
  A ray's cells, by numbers.
-/
namespace Go.Proofs.Ytlplbgbnojibmaa
open Go.RowKit
open Sy
set_option linter.unusedVariables false
set_option linter.unusedSimpArgs false
set_option maxRecDepth 100000
set_option maxHeartbeats 4000000

def rayK (m n i : Nat) : Nat := (2 * i * m + n) / (2 * n)
theorem rayK_mono (m n : Nat) {i j : Nat} (h : i ≤ j) : rayK m n i ≤ rayK m n j := by
  unfold rayK
  apply Nat.div_le_div_right
  have := Nat.mul_le_mul_right m (Nat.mul_le_mul_left 2 h)
  omega
theorem rowSt_K {w : Wk} (hm : w.m ≤ w.n) (hn : 0 < w.n) (a : P2) (i : Nat) : (rowSt w a i).1 = (a.1 + i * w.ax + rayK w.m w.n i * w.ox, a.2 + i * w.ay + rayK w.m w.n i * w.oy) := by
  obtain ⟨t, h1, h2, h3, h4⟩ := rowSt_is hm hn a i
  have e1 : ((w.m : Int) * i) = ((w.m * i : Nat) : Int) := by simp
  have e2 : ((w.n : Int) * t) = ((w.n * t : Nat) : Int) := by simp
  rw [e1, e2] at h2
  have e3 : 2 * i * w.m = 2 * (w.m * i) := by rw [Nat.mul_assoc, Nat.mul_comm i]
  have hk : rayK w.m w.n i = t := by
    unfold rayK
    rw [e3]
    apply Nat.div_eq_of_lt_le
    · have : t * (2 * w.n) = 2 * (w.n * t) := by rw [Nat.mul_comm t, Nat.mul_assoc]
      omega
    · have : (t + 1) * (2 * w.n) = 2 * (w.n * t) + 2 * w.n := by rw [Nat.add_mul, Nat.mul_comm t, Nat.mul_assoc]; omega
      omega
  rw [h1, hk]
/-- the ray's cell at a step -/
def rayC (a b : P2) (i : Nat) : P2 :=
  if (b.1 - a.1).natAbs < (b.2 - a.2).natAbs then (a.1 + rayK (b.1 - a.1).natAbs (b.2 - a.2).natAbs i * sg (b.1 - a.1), a.2 + i * sg (b.2 - a.2))
  else (a.1 + i * sg (b.1 - a.1), a.2 + rayK (b.2 - a.2).natAbs (b.1 - a.1).natAbs i * sg (b.2 - a.2))
theorem rowSt_C {a b : P2} (hn : 0 < (ofW a b).n) (i : Nat) : (rowSt (ofW a b) a i).1 = rayC a b i := by
  rw [rowSt_K (ofW_le a b) hn]
  unfold rayC ofW
  split <;> simp
theorem rayC_zero {a b : P2} (hn : 0 < (ofW a b).n) : rayC a b 0 = a := by rw [← rowSt_C hn]; rfl
def monoS (f : Nat → Int) : Prop := (∀ i j, i ≤ j → f i ≤ f j) ∨ (∀ i j, i ≤ j → f j ≤ f i)
theorem mono_of {c : Nat → Nat} {z s : Int} (hs : s = 1 ∨ s = -1) (h : ∀ i j, i ≤ j → c i ≤ c j) : monoS fun i => z + (c i : Int) * s := by
  rcases hs with rfl | rfl
  · left
    intro i j hij
    have := h i j hij
    simp only
    omega
  · right
    intro i j hij
    have := h i j hij
    simp only
    omega
theorem sg_is (n : Int) : sg n = 1 ∨ sg n = -1 := by unfold sg; split <;> simp
theorem rayC_mono (a b : P2) : monoS (fun i => (rayC a b i).1) ∧ monoS (fun i => (rayC a b i).2) := by
  unfold rayC
  split
  · exact ⟨mono_of (sg_is _) fun i j h => rayK_mono _ _ h, mono_of (c := fun i => i) (sg_is _) fun i j h => h⟩
  · exact ⟨mono_of (c := fun i => i) (sg_is _) fun i j h => h, mono_of (sg_is _) fun i j h => rayK_mono _ _ h⟩
theorem rayC_inj {a b : P2} {i j : Nat} (h : rayC a b i = rayC a b j) : i = j := by
  unfold rayC at h
  split at h
  · have h2 := congrArg Prod.snd h
    simp only at h2
    rcases sg_is (b.2 - a.2) with e | e <;> rw [e] at h2 <;> omega
  · have h2 := congrArg Prod.fst h
    simp only at h2
    rcases sg_is (b.1 - a.1) with e | e <;> rw [e] at h2 <;> omega
theorem rowL_get {a b : P2} {n i : Nat} (h : i < n + 1) : (rowL a b n)[i]? = some (rowSt (ofW a b) a i).1 := by
  unfold rowL
  rw [List.getElem?_map, List.getElem?_range h]
  rfl
theorem rayK_last {m n : Nat} (hn : 0 < n) : rayK m n n = m := by
  unfold rayK
  apply Nat.div_eq_of_lt_le
  · have : m * (2 * n) = 2 * n * m := Nat.mul_comm _ _
    omega
  · have : (m + 1) * (2 * n) = 2 * n * m + 2 * n := by rw [Nat.add_mul, Nat.one_mul, Nat.mul_comm]
    omega
theorem sg_abs (n : Int) : (n.natAbs : Int) * sg n = n := by
  unfold sg
  split <;> omega
theorem ofW_n0 {a b : P2} (h : (ofW a b).n = 0) : a = b := by
  unfold ofW at h
  split at h
  · simp only at h; omega
  · simp only at h
    apply Prod.ext <;> omega
theorem row_last (a b : P2) : (rowSt (ofW a b) a (ofW a b).n).1 = b := by
  rcases Nat.eq_zero_or_pos (ofW a b).n with z | hn
  · rw [z]
    exact ofW_n0 z
  · rw [rowSt_C hn]
    unfold rayC
    unfold ofW at *
    split
    · rename_i c
      simp only [if_pos c] at *
      rw [rayK_last hn, sg_abs, sg_abs]
      apply Prod.ext <;> simp only <;> omega
    · rename_i c
      simp only [if_neg c] at *
      rw [rayK_last hn, sg_abs, sg_abs]
      apply Prod.ext <;> simp only <;> omega
end Go.Proofs.Ytlplbgbnojibmaa

/-
  skip.of: a way's making.
-/
namespace Go.Proofs.Ytlplbgbnojibmaa
open Go.RowKit
open Sy
set_option linter.unusedVariables false
set_option linter.unusedSimpArgs false
set_option maxRecDepth 100000
set_option maxHeartbeats 4000000

def inG (W H : Nat) (c : P2) : Prop := 0 ≤ c.1 ∧ c.1 < (W : Int) ∧ 0 ≤ c.2 ∧ c.2 < (H : Int)
instance (W H : Nat) (c : P2) : Decidable (inG W H c) := by unfold inG; infer_instance
def nat2 (c : P2) : Nat × Nat := (c.1.toNat, c.2.toNat)
def atZ (W H : Nat) (F : Nat → Nat → Int × Int) (c : P2) : Int × Int := if inG W H c then F 0 (c.2.toNat * W + c.1.toNat) else (0, 0)
def atE (W H : Nat) (c : P2) : Int := if inG W H c then 0 else 4
theorem sPAt0 {R : HP} {pb W H : Nat} {F : Nat → Nat → Int × Int} (c : P2) (hW : 1 ≤ W ∧ W ≤ 1024) (hH : 1 ≤ H ∧ H ≤ 1024) (hR : ∀ w, Sat R w → Sat (pyrH pb W H F) w) :
    PureR Try.prog R 78 [.pointer (some ⟨pb, 0, none⟩), .int .i64 0, c2 c] (.tuple #[rngV (atZ W H F c).1 (atZ W H F c).2, .int .i64 (atE W H c)]) := by
  refine sPAt (R := R) (k := 0) (x := c.1) (y := c.2) hW hH hR (levN_pos (W : Int) (H : Int)) (v := atZ W H F c) (e := atE W H c) ?_
  unfold atZ atE
  by_cases h : inG W H c
  · rw [if_pos h, if_pos h]
    unfold inG at h
    exact .inl ⟨c.1.toNat, c.2.toNat, by omega, by omega, by rw [halfN_zero hW.1]; omega, by rw [halfN_zero hH.1]; omega, by rw [halfN_zero hW.1], rfl⟩
  · rw [if_neg h, if_neg h]
    unfold inG at h
    exact .inr ⟨by rw [halfN_zero hW.1, halfN_zero hH.1]; omega, rfl, rfl⟩
theorem sOfNil (a b : P2) (R : HP) : PureR Try.prog R 125 [.pointer none, c2 a, c2 b] (.tuple #[.pointer none, .int .i64 1]) := by
  refine fn_of_run0 false Try.func125 rfl hmix rfl fun w0 => ?_
  conv => whnf
  exact ⟨trivial, fin_pure rfl rfl⟩
theorem sOfBad {R : HP} {pb W H : Nat} {a b : P2} {F : Nat → Nat → Int × Int} (hW : 1 ≤ W ∧ W ≤ 1024) (hH : 1 ≤ H ∧ H ≤ 1024) (hb : ¬ inG W H a ∨ ¬ inG W H b) (hp : ∀ w, Sat R w → Sat (pyrH pb W H F) w) :
    PureR Try.prog R 125 [.pointer (some ⟨pb, 0, none⟩), c2 a, c2 b] (.tuple #[.pointer none, .int .i64 4]) := by
  have hsz := fun (R' : HP) (hR' : ∀ w, Sat R' w → Sat R w) => sPSize (R := R') hW.1 hH.1 fun w s => hp w (hR' w s)
  have hat := fun (c : P2) (R' : HP) (hR' : ∀ w, Sat R' w → Sat R w) => sPAt0 (R := R') c hW hH fun w s => hp w (hR' w s)
  have ha := hat a
  have hb' := hat b
  have e4 : ∀ c, ¬ inG W H c → atE W H c = 4 := fun c h => if_neg h
  have e0 : ∀ c, inG W H c → atE W H c = 0 := fun c h => if_pos h
  generalize atZ W H F a = va at *
  generalize atZ W H F b = vb at *
  obtain ⟨A, hA⟩ : ∃ A, A = atE W H a := ⟨_, rfl⟩
  obtain ⟨B, hB⟩ : ∃ B, B = atE W H b := ⟨_, rfl⟩
  rw [← hA] at ha
  rw [← hB] at hb'
  refine fn_of_run0 false Try.func125 rfl hmix rfl fun w0 => ?_
  conv => whnf
  refine ⟨trivial, CallAt.pure (fun R' hR' => hsz R' hR') ?_⟩
  conv => whnf
  refine ⟨trivial, OpAt.val (.agg #[.int .i64 a.1, .int .i64 a.2, .int .i64 b.1, .int .i64 b.2]) rfl rfl (fun w _ => by kernel_rfl) ?_⟩
  conv => whnf
  refine ⟨trivial, LoopAt.keep (α := Nat) [0, 4, 5, 8, 31] (fun i => [(32, .v (.int .i64 (i : Int)))]) (fun i => i ≤ 2 ∧ (1 ≤ i → A = 0) ∧ (2 ≤ i → B = 0)) (fun i => 2 - i) 0 ⟨by omega, fun h => absurd h (by omega), fun h => absurd h (by omega)⟩ rfl ⟨⟨rfl, rfl⟩, trivial⟩ ⟨⟨rfl, rfl⟩, ⟨rfl, rfl⟩, ⟨rfl, rfl⟩, ⟨rfl, rfl⟩, ⟨rfl, rfl⟩, trivial⟩ ⟨⟨rfl, rfl, rfl, rfl⟩, ⟨rfl, rfl, rfl, rfl⟩, ⟨rfl, rfl, rfl, rfl⟩, trivial⟩ ?_⟩
  rintro i ⟨i1, i2, i3⟩
  have hi : i = 0 ∨ i = 1 ∨ i = 2 := by omega
  rcases hi with rfl | rfl | rfl
  · conv => whnf
    refine iff_t rfl ?_
    conv => whnf
    refine ⟨trivial, OpAt.val (c2 a) rfl rfl (fun w _ => by kernel_rfl) ?_⟩
    conv => whnf
    refine ⟨trivial, CallAt.pure (fun R' hR' => ha R' hR') ?_⟩
    conv => whnf
    refine ⟨fun h => ?_, fun h => ?_⟩
    · have h : A ≠ 0 := by simpa using h
      have : A = 4 := by
        rw [hA]; exact e4 a fun c => h (by rw [hA]; exact e0 a c)
      rw [this]
      conv => whnf
      exact ⟨trivial, fin_pure rfl rfl⟩
    · have h : A = 0 := by simpa using h
      conv => whnf
      exact ⟨(by (repeat' apply And.intro) <;> first | exact True.intro | (unfold rng; omega) | omega), .keep 1 ⟨by omega, fun _ => h, fun h => absurd h (by omega)⟩ (by decide) ⟨⟨rfl, rfl⟩, trivial⟩ ⟨⟨rfl, rfl⟩, ⟨rfl, rfl⟩, ⟨rfl, rfl⟩, ⟨rfl, rfl⟩, ⟨rfl, rfl⟩, trivial⟩ ⟨⟨rfl, rfl, rfl, rfl⟩, ⟨rfl, rfl, rfl, rfl⟩, ⟨rfl, rfl, rfl, rfl⟩, trivial⟩ rfl rfl rfl⟩
  · conv => whnf
    refine iff_t rfl ?_
    conv => whnf
    refine ⟨trivial, OpAt.val (c2 b) rfl rfl (fun w _ => by kernel_rfl) ?_⟩
    conv => whnf
    refine ⟨trivial, CallAt.pure (fun R' hR' => hb' R' hR') ?_⟩
    conv => whnf
    refine ⟨fun h => ?_, fun h => ?_⟩
    · have h : B ≠ 0 := by simpa using h
      have : B = 4 := by
        rw [hB]; exact e4 b fun c => h (by rw [hB]; exact e0 b c)
      rw [this]
      conv => whnf
      exact ⟨trivial, fin_pure rfl rfl⟩
    · have h : B = 0 := by simpa using h
      conv => whnf
      exact ⟨(by (repeat' apply And.intro) <;> first | exact True.intro | (unfold rng; omega) | omega), .keep 2 ⟨by omega, fun _ => i2 (by omega), fun _ => h⟩ (by decide) ⟨⟨rfl, rfl⟩, trivial⟩ ⟨⟨rfl, rfl⟩, ⟨rfl, rfl⟩, ⟨rfl, rfl⟩, ⟨rfl, rfl⟩, ⟨rfl, rfl⟩, trivial⟩ ⟨⟨rfl, rfl, rfl, rfl⟩, ⟨rfl, rfl, rfl, rfl⟩, ⟨rfl, rfl, rfl, rfl⟩, trivial⟩ rfl rfl rfl⟩
  · exfalso
    rcases hb with h | h
    · have := e4 a h
      rw [← hA, i2 (by omega)] at this
      omega
    · have := e4 b h
      rw [← hB, i3 (by omega)] at this
      omega
/-- a way that was made -/
abbrev wayHd (wb pb W H gb n c : Nat) : HP := blkH wb 202 #[.pointer (some ⟨pb, 0, none⟩), .int .i64 (W : Int), .int .i64 (H : Int), .slice (some ⟨gb, 0, none⟩) n c]
abbrev wayRw (gb n c : Nat) (l : List P2) : HP := rowH (.slice (some ⟨gb, 0, none⟩) n c) n 35 2 (cel l)
theorem sOf {R : HP} {pb W H : Nat} {a b : P2} {F : Nat → Nat → Int × Int} (hW : 1 ≤ W ∧ W ≤ 1024) (hH : 1 ≤ H ∧ H ≤ 1024) (hia : inG W H a) (hib : inG W H b) (hp : ∀ w, Sat R w → Sat (pyrH pb W H F) w) :
    FnR Try.prog R 125 [.pointer (some ⟨pb, 0, none⟩), c2 a, c2 b] [] fun r hs => ∃ wb gb c, r = .tuple #[.pointer (some ⟨wb, 0, none⟩), .int .i64 0] ∧ hs = [wayHd wb pb W H gb ((ofW a b).n + 1) c, wayRw gb ((ofW a b).n + 1) c (rowL a b (ofW a b).n)] := by
  have hsz := fun (R' : HP) (hR' : ∀ w, Sat R' w → Sat R w) => sPSize (R := R') hW.1 hH.1 fun w s => hp w (hR' w s)
  have hat := fun (c : P2) (R' : HP) (hR' : ∀ w, Sat R' w → Sat R w) => sPAt0 (R := R') c hW hH fun w s => hp w (hR' w s)
  have ha := hat a
  have hb := hat b
  have ea : atE W H a = 0 := if_pos hia
  have eb : atE W H b = 0 := if_pos hib
  rw [ea] at ha
  rw [eb] at hb
  have hca : canC a := by unfold inG at hia; unfold canC; omega
  have hcb : canC b := by unfold inG at hib; unfold canC; omega
  have hrow := fun R' => sRayRow (R := R') a b hca hcb
  clear hat ea eb
  generalize atZ W H F a = va at *
  generalize atZ W H F b = vb at *
  generalize rowL a b (ofW a b).n = l at *
  generalize (ofW a b).n = n at *
  refine fn_of_run0 false Try.func125 rfl hmix rfl fun w0 => ?_
  conv => whnf
  refine ⟨trivial, CallAt.pure (fun R' hR' => hsz R' hR') ?_⟩
  conv => whnf
  refine ⟨trivial, OpAt.val (.agg #[.int .i64 a.1, .int .i64 a.2, .int .i64 b.1, .int .i64 b.2]) rfl rfl (fun w _ => by kernel_rfl) ?_⟩
  conv => whnf
  refine ⟨trivial, LoopAt.keep (α := Nat) [0, 4, 5, 8, 31] (fun i => [(32, .v (.int .i64 (i : Int)))]) (fun i => i ≤ 2) (fun i => 2 - i) 0 (by omega) rfl ⟨⟨rfl, rfl⟩, trivial⟩ ⟨⟨rfl, rfl⟩, ⟨rfl, rfl⟩, ⟨rfl, rfl⟩, ⟨rfl, rfl⟩, ⟨rfl, rfl⟩, trivial⟩ ⟨⟨rfl, rfl, rfl, rfl⟩, ⟨rfl, rfl, rfl, rfl⟩, ⟨rfl, rfl, rfl, rfl⟩, trivial⟩ ?_⟩
  rintro i i1
  have hi : i = 0 ∨ i = 1 ∨ i = 2 := by omega
  rcases hi with rfl | rfl | rfl
  · conv => whnf
    refine iff_t rfl ?_
    conv => whnf
    refine ⟨trivial, OpAt.val (c2 a) rfl rfl (fun w _ => by kernel_rfl) ?_⟩
    conv => whnf
    refine ⟨trivial, CallAt.pure (fun R' hR' => ha R' hR') ?_⟩
    conv => whnf
    refine iff_f rfl ?_
    conv => whnf
    exact ⟨(by (repeat' apply And.intro) <;> first | exact True.intro | (unfold rng; omega) | omega), .keep 1 (by omega) (by decide) ⟨⟨rfl, rfl⟩, trivial⟩ ⟨⟨rfl, rfl⟩, ⟨rfl, rfl⟩, ⟨rfl, rfl⟩, ⟨rfl, rfl⟩, ⟨rfl, rfl⟩, trivial⟩ ⟨⟨rfl, rfl, rfl, rfl⟩, ⟨rfl, rfl, rfl, rfl⟩, ⟨rfl, rfl, rfl, rfl⟩, trivial⟩ rfl rfl rfl⟩
  · conv => whnf
    refine iff_t rfl ?_
    conv => whnf
    refine ⟨trivial, OpAt.val (c2 b) rfl rfl (fun w _ => by kernel_rfl) ?_⟩
    conv => whnf
    refine ⟨trivial, CallAt.pure (fun R' hR' => hb R' hR') ?_⟩
    conv => whnf
    refine iff_f rfl ?_
    conv => whnf
    exact ⟨(by (repeat' apply And.intro) <;> first | exact True.intro | (unfold rng; omega) | omega), .keep 2 (by omega) (by decide) ⟨⟨rfl, rfl⟩, trivial⟩ ⟨⟨rfl, rfl⟩, ⟨rfl, rfl⟩, ⟨rfl, rfl⟩, ⟨rfl, rfl⟩, ⟨rfl, rfl⟩, trivial⟩ ⟨⟨rfl, rfl, rfl, rfl⟩, ⟨rfl, rfl, rfl, rfl⟩, ⟨rfl, rfl, rfl, rfl⟩, trivial⟩ rfl rfl rfl⟩
  · conv => whnf
    refine iff_f rfl ?_
    conv => whnf
    refine ⟨trivial, CallAt.fn (pre := []) [] (fun h s => s) (fun R' hR' => hrow R') ?_⟩
    rintro v hs ⟨g, c, rfl, rfl⟩
    conv => whnf
    intro wb _
    conv => whnf
    exact ⟨trivial, .mk _ (fun w s => s) ⟨wb, g, c, rfl, rfl⟩⟩
end Go.Proofs.Ytlplbgbnojibmaa

/-
  skip.Clear.
-/
namespace Go.Proofs.Ytlplbgbnojibmaa
open Go.RowKit
open Sy
set_option linter.unusedVariables false
set_option linter.unusedSimpArgs false
set_option maxRecDepth 100000
set_option maxHeartbeats 4000000

/-- the ray's cells in a grid -/
def rayQ (a b : P2) (j : Nat) : Nat × Nat := nat2 (rowSt (ofW a b) a j).1
theorem row_inG {W H : Nat} {a b : P2} (ha : inG W H a) (hb : inG W H b) {j : Nat} (hj : j ≤ (ofW a b).n) : inG W H (rowSt (ofW a b) a j).1 := by
  have h := rowSt_in hj
  unfold inG at *
  omega
theorem ray_ok {W H : Nat} {a b : P2} (ha : inG W H a) (hb : inG W H b) : WayOk W H ((ofW a b).n + 1) (rayQ a b) := by
  have hin := fun j (hj : j < (ofW a b).n + 1) => row_inG ha hb (Nat.lt_succ_iff.1 hj)
  refine ⟨fun j hj => ?_, fun i j t h1 h2 h3 => ?_, fun i t h1 h2 h => ?_⟩
  · have := hin j hj
    unfold inG at this
    unfold rayQ nat2
    simp only
    omega
  · rcases Nat.eq_zero_or_pos (ofW a b).n with z | hn
    · have e1 : i = t := by omega
      have e2 : j = t := by omega
      rw [e1, e2]
      omega
    · have g1 := hin i (by omega)
      have g2 := hin j (by omega)
      have g3 := hin t (by omega)
      unfold rayQ nat2
      simp only [rowSt_C hn] at *
      unfold inG at *
      obtain ⟨m1, m2⟩ := rayC_mono a b
      constructor
      · rcases m1 with m | m
        · have := m i j h1; have := m j t h2
          simp only at *
          omega
        · have := m i j h1; have := m j t h2
          simp only at *
          omega
      · rcases m2 with m | m
        · have := m i j h1; have := m j t h2
          simp only at *
          omega
        · have := m i j h1; have := m j t h2
          simp only at *
          omega
  · rcases Nat.eq_zero_or_pos (ofW a b).n with z | hn
    · omega
    · have g1 := hin i (by omega)
      have g3 := hin t (by omega)
      unfold rayQ nat2 at h
      simp only [rowSt_C hn] at *
      unfold inG at *
      apply rayC_inj (a := a) (b := b)
      simp only [Prod.mk.injEq] at h
      apply Prod.ext <;> omega
/-- sees: nothing of the row between hides -/
def seesP (u t : Int) (n : Nat) (v : Nat → Int) : Prop := ∀ j, j < n → 1 ≤ j → ¬ hidB u t n (v j) j
instance (u t : Int) (n : Nat) (v : Nat → Int) : Decidable (seesP u t n v) := by unfold seesP; infer_instance
theorem way_cells {gb n c : Nat} {q : Nat → Nat × Nat} {l : List P2} {w : World} (s : Sat (wayRw gb n c l) w) (hl : ∀ i, i < n → l[i]? = some (((q i).1 : Int), ((q i).2 : Int))) (i : Nat) (hi : i < n) : w.cell? ⟨gb, i * 2, none⟩ = some (.int .i64 ((q i).1 : Int)) ∧ w.cell? ⟨gb, i * 2 + 1, none⟩ = some (.int .i64 ((q i).2 : Int)) := by
  obtain ⟨hlt, e⟩ := List.getElem?_eq_some_iff.1 (hl i hi)
  have h := cel_at l i hlt
  rw [e] at h
  exact ⟨row_at s (by omega) h.1, row_at s (by omega) h.2⟩
theorem sClearNil (a b : P2) (ha hb : Int) (R : HP) : PureR Try.prog R 90 [.pointer none, c2 a, .int .i64 ha, c2 b, .int .i64 hb] (.tuple #[.bool false, cellV 0 0, .int .i64 1]) := by
  refine fn_of_run0 false Try.func90 rfl hmix rfl fun w0 => ?_
  conv => whnf
  refine ⟨trivial, CallAt.pure (fun R' hR' => sOfNil a b R') ?_⟩
  conv => whnf
  repeat (first | (refine ⟨fun _ => ?_, fun h => absurd h (by decide)⟩; conv => whnf) | (refine ⟨fun h => absurd h (by decide), fun _ => ?_⟩; conv => whnf))
  exact ⟨trivial, fin_pure rfl rfl⟩
theorem sClearBad {R : HP} {pb W H : Nat} {a b : P2} {F : Nat → Nat → Int × Int} (ha hb : Int) (hW : 1 ≤ W ∧ W ≤ 1024) (hH : 1 ≤ H ∧ H ≤ 1024) (hbad : ¬ inG W H a ∨ ¬ inG W H b) (hp : ∀ w, Sat R w → Sat (pyrH pb W H F) w) :
    PureR Try.prog R 90 [.pointer (some ⟨pb, 0, none⟩), c2 a, .int .i64 ha, c2 b, .int .i64 hb] (.tuple #[.bool false, cellV 0 0, .int .i64 4]) := by
  have hof := fun (R' : HP) (hR' : ∀ w, Sat R' w → Sat R w) => sOfBad (R := R') hW hH hbad fun w s => hp w (hR' w s)
  refine fn_of_run0 false Try.func90 rfl hmix rfl fun w0 => ?_
  conv => whnf
  refine ⟨trivial, CallAt.pure (fun R' hR' => hof R' hR') ?_⟩
  conv => whnf
  repeat (first | (refine ⟨fun _ => ?_, fun h => absurd h (by decide)⟩; conv => whnf) | (refine ⟨fun h => absurd h (by decide), fun _ => ?_⟩; conv => whnf))
  exact ⟨trivial, fin_pure rfl rfl⟩
def hiP (h : Int) : Prop := 0 ≤ h ∧ h ≤ 1048576
instance (h : Int) : Decidable (hiP h) := by unfold hiP; infer_instance
theorem sClearHigh {R : HP} {pb W H : Nat} {a b : P2} {F : Nat → Nat → Int × Int} (ha hb : Int) (hW : 1 ≤ W ∧ W ≤ 1024) (hH : 1 ≤ H ∧ H ≤ 1024) (hia : inG W H a) (hib : inG W H b) (hbad : ¬ hiP ha ∨ ¬ hiP hb) (hp : ∀ w, Sat R w → Sat (pyrH pb W H F) w) :
    PureR Try.prog R 90 [.pointer (some ⟨pb, 0, none⟩), c2 a, .int .i64 ha, c2 b, .int .i64 hb] (.tuple #[.bool false, cellV 0 0, .int .i64 8]) := by
  have hof := fun (R' : HP) (hR' : ∀ w, Sat R' w → Sat R w) => sOf (R := R') hW hH hia hib fun w s => hp w (hR' w s)
  have m1 := fun R' => sSMay ha R'
  have m2 := fun R' => sSMay hb R'
  by_cases h1 : hiP ha
  · have h2 : ¬ hiP hb := hbad.elim (fun h => absurd h1 h) id
    unfold hiP at h1 h2
    rw [decide_eq_true h1] at m1
    rw [decide_eq_false h2] at m2
    refine fn_of_run0 false Try.func90 rfl hmix rfl fun w0 => ?_
    conv => whnf
    refine ⟨trivial, CallAt.fn (pre := []) [] (fun h s => s) (fun R' hR' => hof R' hR') ?_⟩
    rintro v hs ⟨wb, gb, c, rfl, rfl⟩
    conv => whnf
    refine iff_f rfl ?_
    conv => whnf
    refine ⟨trivial, CallAt.pure (fun R' hR' => m1 R') ?_⟩
    conv => whnf
    repeat (first | (refine ⟨fun _ => ?_, fun h => absurd h (by decide)⟩; conv => whnf) | (refine ⟨fun h => absurd h (by decide), fun _ => ?_⟩; conv => whnf))
    refine ⟨trivial, CallAt.pure (fun R' hR' => m2 R') ?_⟩
    conv => whnf
    repeat (first | (refine ⟨fun _ => ?_, fun h => absurd h (by decide)⟩; conv => whnf) | (refine ⟨fun h => absurd h (by decide), fun _ => ?_⟩; conv => whnf))
    exact ⟨trivial, .mk [] (fun w s => s.rest) ⟨rfl, rfl⟩⟩
  · unfold hiP at h1
    rw [decide_eq_false h1] at m1
    refine fn_of_run0 false Try.func90 rfl hmix rfl fun w0 => ?_
    conv => whnf
    refine ⟨trivial, CallAt.fn (pre := []) [] (fun h s => s) (fun R' hR' => hof R' hR') ?_⟩
    rintro v hs ⟨wb, gb, c, rfl, rfl⟩
    conv => whnf
    refine iff_f rfl ?_
    conv => whnf
    refine ⟨trivial, CallAt.pure (fun R' hR' => m1 R') ?_⟩
    conv => whnf
    repeat (first | (refine ⟨fun _ => ?_, fun h => absurd h (by decide)⟩; conv => whnf) | (refine ⟨fun h => absurd h (by decide), fun _ => ?_⟩; conv => whnf))
    exact ⟨trivial, .mk [] (fun w s => s.rest) ⟨rfl, rfl⟩⟩
end Go.Proofs.Ytlplbgbnojibmaa

/-
  skip.Clear: who is seen. (The leaves of region 9 are printed by gen/skipclear.py.)
-/
namespace Go.Proofs.Ytlplbgbnojibmaa
open Go.RowKit
open Sy
set_option linter.unusedVariables false
set_option linter.unusedSimpArgs false
set_option maxRecDepth 100000
set_option maxHeartbeats 4000000

theorem sClear {R : HP} {pb W H : Nat} {a b : P2} {F : Nat → Nat → Int × Int} (ha hb : Int) (hW : 1 ≤ W ∧ W ≤ 1024) (hH : 1 ≤ H ∧ H ≤ 1024) (hF : TopOk W H F) (hia : inG W H a) (hib : inG W H b) (h1 : hiP ha) (h2 : hiP hb) (hp : ∀ w, Sat R w → Sat (pyrH pb W H F) w) :
    FnR Try.prog R 90 [.pointer (some ⟨pb, 0, none⟩), c2 a, .int .i64 ha, c2 b, .int .i64 hb] [] fun r hs => hs = [] ∧ ∃ x y : Int, r = .tuple #[.bool (decide (seesP ((topV W F 0 (nat2 a)).2 + ha) ((topV W F 0 (nat2 b)).2 + hb) (ofW a b).n fun j => (topV W F 0 (rayQ a b j)).2)), cellV x y, .int .i64 0] := by
  have hof := fun (R' : HP) (hR' : ∀ w, Sat R' w → Sat R w) => sOf (R := R') hW hH hia hib fun w s => hp w (hR' w s)
  have m1 := fun R' => sSMay ha R'
  have m2 := fun R' => sSMay hb R'
  have hca : canC a := by unfold inG at hia; unfold canC; omega
  have hcb : canC b := by unfold inG at hib; unfold canC; omega
  have hn := ofW_n hca hcb
  have hq := ray_ok hia hib
  have hqa : rayQ a b 0 = nat2 a := rfl
  have hqb : rayQ a b (ofW a b).n = nat2 b := by unfold rayQ; rw [row_last]
  have hl : ∀ i, i < (ofW a b).n + 1 → (rowL a b (ofW a b).n)[i]? = some (((rayQ a b i).1 : Int), ((rayQ a b i).2 : Int)) := fun i hi => by
    rw [rowL_get hi]
    have := row_inG hia hib (Nat.lt_succ_iff.1 hi)
    unfold inG at this
    unfold rayQ nat2
    congr 1
    apply Prod.ext <;> simp only <;> omega
  have hl0 := levN_pos (W : Int) (H : Int)
  have na := hF.near 0 (nat2 a) hl0 (by have := (hq.ins 0 (by omega)).1; rw [hqa] at this; exact this) (by have := (hq.ins 0 (by omega)).2; rw [hqa] at this; exact this)
  have nb' := hF.near 0 (nat2 b) hl0 (by have := (hq.ins (ofW a b).n (by omega)).1; rw [hqb] at this; exact this) (by have := (hq.ins (ofW a b).n (by omega)).2; rw [hqb] at this; exact this)
  unfold MayV at na nb'
  rw [← hqa, ← hqb]
  rw [← hqa] at na
  rw [← hqb] at nb'
  clear hqa hqb hca hcb
  generalize rowL a b (ofW a b).n = l at *
  generalize hqq : rayQ a b = q at *
  generalize (ofW a b).n = n at *
  unfold hiP at h1 h2
  rw [decide_eq_true h1] at m1
  rw [decide_eq_true h2] at m2
  refine fn_of_run0 false Try.func90 rfl hmix rfl fun w0 => ?_
  conv => whnf
  refine ⟨trivial, CallAt.fn (pre := []) [] (fun h s => s) (fun R' hR' => hof R' hR') ?_⟩
  rintro v hs ⟨wb, gb, c, rfl, rfl⟩
  have hway : ∀ (R' : HP), (∀ w, Sat R' w → Sat (sepL [wayHd wb pb W H gb (n + 1) c, wayRw gb (n + 1) c l] R) w) → WayAt R' wb pb W H gb (n + 1) c q F := fun R' hR' =>
    ⟨fun w s => ⟨blk_at ((hR' w s).in_ 0 rfl) rfl, blk_at ((hR' w s).in_ 0 rfl) rfl, blk_at ((hR' w s).in_ 0 rfl) rfl, blk_at ((hR' w s).in_ 0 rfl) rfl⟩, fun w s i hi => way_cells ((hR' w s).in_ 1 rfl) hl i hi, fun w s => hp w (hR' w s).rest⟩
  have hv0 := fun R' hR' => sWValue (i := 0) (hway R' hR') hW hH (by omega) (hq.ins 0 (by omega))
  have hvn := fun R' hR' => sWValue (i := n) (hway R' hR') hW hH (by omega) (hq.ins n (by omega))
  generalize hv0e : (topV W F 0 (q 0)).2 = v0 at *
  generalize hvne : (topV W F 0 (q n)).2 = vn at *
  have e1 : ((n + 1 : Nat) : Int) - 1 = (n : Int) := by omega
  conv => whnf
  refine iff_f rfl ?_
  conv => whnf
  refine ⟨trivial, CallAt.pure (fun R' hR' => m1 R') ?_⟩
  conv => whnf
  repeat (first | (refine ⟨fun _ => ?_, fun h => absurd h (by decide)⟩; conv => whnf) | (refine ⟨fun h => absurd h (by decide), fun _ => ?_⟩; conv => whnf))
  refine ⟨trivial, CallAt.pure (fun R' hR' => m2 R') ?_⟩
  conv => whnf
  repeat (first | (refine ⟨fun _ => ?_, fun h => absurd h (by decide)⟩; conv => whnf) | (refine ⟨fun h => absurd h (by decide), fun _ => ?_⟩; conv => whnf))
  refine ⟨trivial, LoadAt.cell (.slice (some ⟨gb, 0, none⟩) (n + 1) c) rfl rfl (fun w hw => blk_at (hw.in_ 0 rfl) rfl) ?_⟩
  conv => whnf
  rw [e1]
  refine ⟨fun h => ?_, fun h => ?_⟩
  · have hn0 : n = 0 := by have := of_decide_eq_true h; omega
    conv => whnf
    refine ⟨(by (repeat' apply And.intro) <;> first | exact True.intro | (unfold rng; omega) | omega), .mk [] (fun w s => s.rest) ⟨rfl, 0, 0, ?_⟩⟩
    rw [decide_eq_true (show seesP (v0 + ha) (vn + hb) n _ from fun j h1 h2 => absurd h1 (by omega))]
    rfl
  · have hn1 : 1 ≤ n := by have := of_decide_eq_false h; omega
    have hfi := fun (R' : HP) hR' eb tb nb hc => sFirst26 (R := R') (u := v0 + ha) (t := vn + hb) (N := n) (s := 1) (e := n - 1) (eb := eb) (tb := tb) (nb := nb) (hway R' hR') hW hH (by omega) hq hF (by omega) (by omega) (by omega) (by omega) (by unfold nearP; omega) (by unfold nearP; omega) hc
    have e2 : (n : Int) - 1 = ((n - 1 : Nat) : Int) := by omega
    conv => whnf
    refine ⟨(by (repeat' apply And.intro) <;> first | exact True.intro | (unfold rng; omega) | omega), RegAt.joins [((Tr.T 0 (Tr.T 2 (Tr.T 4 (Tr.T 5 (Tr.T 7 (Tr.D 1 (Tr.T 3 (Tr.D 6 (Tr.T 8 (Tr.C 9 (Tr.H 10 (Tr.H 11 Tr.E)) 10 (Tr.H 9 (Tr.H 11 Tr.E)))) 9 (Tr.C 6 (Tr.T 8 (Tr.H 10 (Tr.H 11 Tr.E))) 10 (Tr.H 6 (Tr.T 8 (Tr.H 11 Tr.E)))) 10 (Tr.C 6 (Tr.T 8 (Tr.H 9 (Tr.H 11 Tr.E))) 9 (Tr.H 6 (Tr.T 8 (Tr.H 11 Tr.E)))))) 9 (Tr.C 1 (Tr.T 3 (Tr.C 6 (Tr.T 8 (Tr.H 10 (Tr.H 11 Tr.E))) 10 (Tr.H 6 (Tr.T 8 (Tr.H 11 Tr.E))))) 10 (Tr.H 1 (Tr.T 3 (Tr.H 6 (Tr.T 8 (Tr.H 11 Tr.E)))))) 10 (Tr.C 1 (Tr.T 3 (Tr.C 6 (Tr.T 8 (Tr.H 9 (Tr.H 11 Tr.E))) 9 (Tr.H 6 (Tr.T 8 (Tr.H 11 Tr.E))))) 9 (Tr.H 1 (Tr.T 3 (Tr.H 6 (Tr.T 8 (Tr.H 11 Tr.E)))))))))))), 12), ((Tr.H 12 Tr.E), 13)] [11, 13, 15] [(16, .p 4 0), (17, .p 5 0)] [(5, 2, [.v (.int .i64 (vn + hb))]), (4, 2, [.v (.int .i64 (v0 + ha))]), (3, 3, [.v (.int .i64 (n : Int))]), (2, 35, [.v (.int .i64 0), .v (.int .i64 0)])] 6 [wayHd wb pb W H gb (n + 1) c, wayRw gb (n + 1) c l] hmix (by kernel_rfl) ?_ ?_⟩
    · conv => whnf
      refine ⟨?_, ?_, ?_⟩
      · refine ⟨(by (repeat' apply And.intro) <;> first | exact True.intro | (unfold rng; omega) | omega), CallAt.pure (fun R' hR' => hv0 R' hR') ?_⟩
        conv => whnf
        refine ⟨(by (repeat' apply And.intro) <;> first | exact True.intro | (unfold rng; omega) | omega), ⟨⟨rfl, rfl⟩, fun h s => sub_same s⟩, ?_⟩
        conv => whnf
        refine ⟨?_, ?_, ?_⟩
        · refine ⟨(by (repeat' apply And.intro) <;> first | exact True.intro | (unfold rng; omega) | omega), CallAt.pure (fun R' hR' => hvn R' hR') ?_⟩
          conv => whnf
          refine ⟨(by (repeat' apply And.intro) <;> first | exact True.intro | (unfold rng; omega) | omega), ⟨⟨rfl, rfl⟩, fun h s => sub_same s⟩, ?_⟩
          conv => whnf
          refine ⟨?_, ?_⟩
          · refine ⟨(by (repeat' apply And.intro) <;> first | exact True.intro | (unfold rng; omega) | omega), ⟨⟨rfl, rfl⟩, fun h s => sub_same s⟩, ?_⟩
            conv => whnf
            refine ⟨(by (repeat' apply And.intro) <;> first | exact True.intro | (unfold rng; omega) | omega), ⟨⟨rfl, rfl⟩, fun h s => sub_same s⟩, ?_⟩
            conv => whnf
            refine ⟨(by (repeat' apply And.intro) <;> first | exact True.intro | (unfold rng; omega) | omega), ⟨⟨rfl, rfl⟩, fun h s => sub_same s⟩, ?_⟩
            conv => whnf
            refine ⟨(by (repeat' apply And.intro) <;> first | exact True.intro | (unfold rng; omega) | omega), ?_⟩
            conv => whnf
            refine ⟨trivial, Le.of (Nat.le_of_ble_eq_true rfl) (Nat.zero_le _) ⟨⟨rfl, rfl⟩, ⟨rfl, rfl⟩, ⟨rfl, rfl⟩, ⟨rfl, rfl⟩, ⟨rfl, rfl⟩, trivial⟩ ⟨⟨rfl, rfl, rfl, rfl⟩, ⟨rfl, rfl, rfl, rfl⟩, ⟨rfl, rfl, rfl, rfl⟩, ⟨rfl, rfl, rfl, rfl⟩, trivial⟩ fun h s => sub_same s⟩
          · refine ⟨(by (repeat' apply And.intro) <;> first | exact True.intro | (unfold rng; omega) | omega), ⟨⟨rfl, rfl⟩, fun h s => sub_same s⟩, ?_⟩
            conv => whnf
            refine ⟨(by (repeat' apply And.intro) <;> first | exact True.intro | (unfold rng; omega) | omega), ⟨⟨rfl, rfl⟩, fun h s => sub_same s⟩, ?_⟩
            conv => whnf
            refine ⟨(by (repeat' apply And.intro) <;> first | exact True.intro | (unfold rng; omega) | omega), ⟨⟨rfl, rfl⟩, fun h s => sub_same s⟩, ?_⟩
            conv => whnf
            refine ⟨(by (repeat' apply And.intro) <;> first | exact True.intro | (unfold rng; omega) | omega), ?_⟩
            conv => whnf
            refine ⟨trivial, Le.pick [0, 1, 2, 3, 5, 4] rfl rfl rfl rfl ⟨⟨_, rfl, rfl⟩, ⟨_, rfl, rfl⟩, ⟨_, rfl, rfl⟩, ⟨_, rfl, rfl⟩, ⟨_, rfl, rfl⟩, trivial⟩ ⟨⟨_, _, rfl, rfl, rfl⟩, ⟨_, _, rfl, rfl, rfl⟩, ⟨_, _, rfl, rfl, rfl⟩, ⟨_, _, rfl, rfl, rfl⟩, trivial⟩ rfl fun h s => sub_same s⟩
        · refine ⟨(by (repeat' apply And.intro) <;> first | exact True.intro | (unfold rng; omega) | omega), ⟨⟨rfl, rfl⟩, fun h s => sub_same s⟩, ?_⟩
          conv => whnf
          refine ⟨?_, ?_⟩
          · refine ⟨(by (repeat' apply And.intro) <;> first | exact True.intro | (unfold rng; omega) | omega), CallAt.pure (fun R' hR' => hvn R' hR') ?_⟩
            conv => whnf
            refine ⟨(by (repeat' apply And.intro) <;> first | exact True.intro | (unfold rng; omega) | omega), ⟨⟨rfl, rfl⟩, fun h s => sub_same s⟩, ?_⟩
            conv => whnf
            refine ⟨(by (repeat' apply And.intro) <;> first | exact True.intro | (unfold rng; omega) | omega), ⟨⟨rfl, rfl⟩, fun h s => sub_same s⟩, ?_⟩
            conv => whnf
            refine ⟨(by (repeat' apply And.intro) <;> first | exact True.intro | (unfold rng; omega) | omega), ⟨⟨rfl, rfl⟩, fun h s => sub_same s⟩, ?_⟩
            conv => whnf
            refine ⟨(by (repeat' apply And.intro) <;> first | exact True.intro | (unfold rng; omega) | omega), ?_⟩
            conv => whnf
            refine ⟨trivial, Le.of (Nat.le_of_ble_eq_true rfl) (Nat.zero_le _) ⟨⟨rfl, rfl⟩, ⟨rfl, rfl⟩, ⟨rfl, rfl⟩, ⟨rfl, rfl⟩, ⟨rfl, rfl⟩, trivial⟩ ⟨⟨rfl, rfl, rfl, rfl⟩, ⟨rfl, rfl, rfl, rfl⟩, ⟨rfl, rfl, rfl, rfl⟩, ⟨rfl, rfl, rfl, rfl⟩, trivial⟩ fun h s => sub_same s⟩
          · refine ⟨(by (repeat' apply And.intro) <;> first | exact True.intro | (unfold rng; omega) | omega), ⟨⟨rfl, rfl⟩, fun h s => sub_same s⟩, ?_⟩
            conv => whnf
            refine ⟨(by (repeat' apply And.intro) <;> first | exact True.intro | (unfold rng; omega) | omega), CallAt.pure (fun R' hR' => hvn R' hR') ?_⟩
            conv => whnf
            refine ⟨(by (repeat' apply And.intro) <;> first | exact True.intro | (unfold rng; omega) | omega), ⟨⟨rfl, rfl⟩, fun h s => sub_same s⟩, ?_⟩
            conv => whnf
            refine ⟨(by (repeat' apply And.intro) <;> first | exact True.intro | (unfold rng; omega) | omega), ⟨⟨rfl, rfl⟩, fun h s => sub_same s⟩, ?_⟩
            conv => whnf
            refine ⟨(by (repeat' apply And.intro) <;> first | exact True.intro | (unfold rng; omega) | omega), ?_⟩
            conv => whnf
            refine ⟨trivial, Le.of (Nat.le_of_ble_eq_true rfl) (Nat.zero_le _) ⟨⟨rfl, rfl⟩, ⟨rfl, rfl⟩, ⟨rfl, rfl⟩, ⟨rfl, rfl⟩, ⟨rfl, rfl⟩, trivial⟩ ⟨⟨rfl, rfl, rfl, rfl⟩, ⟨rfl, rfl, rfl, rfl⟩, ⟨rfl, rfl, rfl, rfl⟩, ⟨rfl, rfl, rfl, rfl⟩, trivial⟩ fun h s => sub_same s⟩
        · refine ⟨(by (repeat' apply And.intro) <;> first | exact True.intro | (unfold rng; omega) | omega), ⟨⟨rfl, rfl⟩, fun h s => sub_same s⟩, ?_⟩
          conv => whnf
          refine ⟨?_, ?_⟩
          · refine ⟨(by (repeat' apply And.intro) <;> first | exact True.intro | (unfold rng; omega) | omega), CallAt.pure (fun R' hR' => hvn R' hR') ?_⟩
            conv => whnf
            refine ⟨(by (repeat' apply And.intro) <;> first | exact True.intro | (unfold rng; omega) | omega), ⟨⟨rfl, rfl⟩, fun h s => sub_same s⟩, ?_⟩
            conv => whnf
            refine ⟨(by (repeat' apply And.intro) <;> first | exact True.intro | (unfold rng; omega) | omega), ⟨⟨rfl, rfl⟩, fun h s => sub_same s⟩, ?_⟩
            conv => whnf
            refine ⟨(by (repeat' apply And.intro) <;> first | exact True.intro | (unfold rng; omega) | omega), ⟨⟨rfl, rfl⟩, fun h s => sub_same s⟩, ?_⟩
            conv => whnf
            refine ⟨(by (repeat' apply And.intro) <;> first | exact True.intro | (unfold rng; omega) | omega), ?_⟩
            conv => whnf
            refine ⟨trivial, Le.pick [0, 1, 2, 3, 5, 4] rfl rfl rfl rfl ⟨⟨_, rfl, rfl⟩, ⟨_, rfl, rfl⟩, ⟨_, rfl, rfl⟩, ⟨_, rfl, rfl⟩, ⟨_, rfl, rfl⟩, trivial⟩ ⟨⟨_, _, rfl, rfl, rfl⟩, ⟨_, _, rfl, rfl, rfl⟩, ⟨_, _, rfl, rfl, rfl⟩, ⟨_, _, rfl, rfl, rfl⟩, trivial⟩ rfl fun h s => sub_same s⟩
          · refine ⟨(by (repeat' apply And.intro) <;> first | exact True.intro | (unfold rng; omega) | omega), ⟨⟨rfl, rfl⟩, fun h s => sub_same s⟩, ?_⟩
            conv => whnf
            refine ⟨(by (repeat' apply And.intro) <;> first | exact True.intro | (unfold rng; omega) | omega), CallAt.pure (fun R' hR' => hvn R' hR') ?_⟩
            conv => whnf
            refine ⟨(by (repeat' apply And.intro) <;> first | exact True.intro | (unfold rng; omega) | omega), ⟨⟨rfl, rfl⟩, fun h s => sub_same s⟩, ?_⟩
            conv => whnf
            refine ⟨(by (repeat' apply And.intro) <;> first | exact True.intro | (unfold rng; omega) | omega), ⟨⟨rfl, rfl⟩, fun h s => sub_same s⟩, ?_⟩
            conv => whnf
            refine ⟨(by (repeat' apply And.intro) <;> first | exact True.intro | (unfold rng; omega) | omega), ?_⟩
            conv => whnf
            refine ⟨trivial, Le.pick [0, 1, 2, 3, 5, 4] rfl rfl rfl rfl ⟨⟨_, rfl, rfl⟩, ⟨_, rfl, rfl⟩, ⟨_, rfl, rfl⟩, ⟨_, rfl, rfl⟩, ⟨_, rfl, rfl⟩, trivial⟩ ⟨⟨_, _, rfl, rfl, rfl⟩, ⟨_, _, rfl, rfl, rfl⟩, ⟨_, _, rfl, rfl, rfl⟩, ⟨_, _, rfl, rfl, rfl⟩, trivial⟩ rfl fun h s => sub_same s⟩
      · refine ⟨(by (repeat' apply And.intro) <;> first | exact True.intro | (unfold rng; omega) | omega), ⟨⟨rfl, rfl⟩, fun h s => sub_same s⟩, ?_⟩
        conv => whnf
        refine ⟨?_, ?_⟩
        · refine ⟨(by (repeat' apply And.intro) <;> first | exact True.intro | (unfold rng; omega) | omega), CallAt.pure (fun R' hR' => hv0 R' hR') ?_⟩
          conv => whnf
          refine ⟨(by (repeat' apply And.intro) <;> first | exact True.intro | (unfold rng; omega) | omega), ⟨⟨rfl, rfl⟩, fun h s => sub_same s⟩, ?_⟩
          conv => whnf
          refine ⟨?_, ?_⟩
          · refine ⟨(by (repeat' apply And.intro) <;> first | exact True.intro | (unfold rng; omega) | omega), CallAt.pure (fun R' hR' => hvn R' hR') ?_⟩
            conv => whnf
            refine ⟨(by (repeat' apply And.intro) <;> first | exact True.intro | (unfold rng; omega) | omega), ⟨⟨rfl, rfl⟩, fun h s => sub_same s⟩, ?_⟩
            conv => whnf
            refine ⟨(by (repeat' apply And.intro) <;> first | exact True.intro | (unfold rng; omega) | omega), ⟨⟨rfl, rfl⟩, fun h s => sub_same s⟩, ?_⟩
            conv => whnf
            refine ⟨(by (repeat' apply And.intro) <;> first | exact True.intro | (unfold rng; omega) | omega), ⟨⟨rfl, rfl⟩, fun h s => sub_same s⟩, ?_⟩
            conv => whnf
            refine ⟨(by (repeat' apply And.intro) <;> first | exact True.intro | (unfold rng; omega) | omega), ?_⟩
            conv => whnf
            refine ⟨trivial, Le.of (Nat.le_of_ble_eq_true rfl) (Nat.zero_le _) ⟨⟨rfl, rfl⟩, ⟨rfl, rfl⟩, ⟨rfl, rfl⟩, ⟨rfl, rfl⟩, ⟨rfl, rfl⟩, trivial⟩ ⟨⟨rfl, rfl, rfl, rfl⟩, ⟨rfl, rfl, rfl, rfl⟩, ⟨rfl, rfl, rfl, rfl⟩, ⟨rfl, rfl, rfl, rfl⟩, trivial⟩ fun h s => sub_same s⟩
          · refine ⟨(by (repeat' apply And.intro) <;> first | exact True.intro | (unfold rng; omega) | omega), ⟨⟨rfl, rfl⟩, fun h s => sub_same s⟩, ?_⟩
            conv => whnf
            refine ⟨(by (repeat' apply And.intro) <;> first | exact True.intro | (unfold rng; omega) | omega), CallAt.pure (fun R' hR' => hvn R' hR') ?_⟩
            conv => whnf
            refine ⟨(by (repeat' apply And.intro) <;> first | exact True.intro | (unfold rng; omega) | omega), ⟨⟨rfl, rfl⟩, fun h s => sub_same s⟩, ?_⟩
            conv => whnf
            refine ⟨(by (repeat' apply And.intro) <;> first | exact True.intro | (unfold rng; omega) | omega), ⟨⟨rfl, rfl⟩, fun h s => sub_same s⟩, ?_⟩
            conv => whnf
            refine ⟨(by (repeat' apply And.intro) <;> first | exact True.intro | (unfold rng; omega) | omega), ?_⟩
            conv => whnf
            refine ⟨trivial, Le.of (Nat.le_of_ble_eq_true rfl) (Nat.zero_le _) ⟨⟨rfl, rfl⟩, ⟨rfl, rfl⟩, ⟨rfl, rfl⟩, ⟨rfl, rfl⟩, ⟨rfl, rfl⟩, trivial⟩ ⟨⟨rfl, rfl, rfl, rfl⟩, ⟨rfl, rfl, rfl, rfl⟩, ⟨rfl, rfl, rfl, rfl⟩, ⟨rfl, rfl, rfl, rfl⟩, trivial⟩ fun h s => sub_same s⟩
        · refine ⟨(by (repeat' apply And.intro) <;> first | exact True.intro | (unfold rng; omega) | omega), ⟨⟨rfl, rfl⟩, fun h s => sub_same s⟩, ?_⟩
          conv => whnf
          refine ⟨(by (repeat' apply And.intro) <;> first | exact True.intro | (unfold rng; omega) | omega), CallAt.pure (fun R' hR' => hv0 R' hR') ?_⟩
          conv => whnf
          refine ⟨(by (repeat' apply And.intro) <;> first | exact True.intro | (unfold rng; omega) | omega), ⟨⟨rfl, rfl⟩, fun h s => sub_same s⟩, ?_⟩
          conv => whnf
          refine ⟨(by (repeat' apply And.intro) <;> first | exact True.intro | (unfold rng; omega) | omega), CallAt.pure (fun R' hR' => hvn R' hR') ?_⟩
          conv => whnf
          refine ⟨(by (repeat' apply And.intro) <;> first | exact True.intro | (unfold rng; omega) | omega), ⟨⟨rfl, rfl⟩, fun h s => sub_same s⟩, ?_⟩
          conv => whnf
          refine ⟨(by (repeat' apply And.intro) <;> first | exact True.intro | (unfold rng; omega) | omega), ⟨⟨rfl, rfl⟩, fun h s => sub_same s⟩, ?_⟩
          conv => whnf
          refine ⟨(by (repeat' apply And.intro) <;> first | exact True.intro | (unfold rng; omega) | omega), ?_⟩
          conv => whnf
          refine ⟨trivial, Le.of (Nat.le_of_ble_eq_true rfl) (Nat.zero_le _) ⟨⟨rfl, rfl⟩, ⟨rfl, rfl⟩, ⟨rfl, rfl⟩, ⟨rfl, rfl⟩, ⟨rfl, rfl⟩, trivial⟩ ⟨⟨rfl, rfl, rfl, rfl⟩, ⟨rfl, rfl, rfl, rfl⟩, ⟨rfl, rfl, rfl, rfl⟩, ⟨rfl, rfl, rfl, rfl⟩, trivial⟩ fun h s => sub_same s⟩
      · refine ⟨(by (repeat' apply And.intro) <;> first | exact True.intro | (unfold rng; omega) | omega), ⟨⟨rfl, rfl⟩, fun h s => sub_same s⟩, ?_⟩
        conv => whnf
        refine ⟨?_, ?_⟩
        · refine ⟨(by (repeat' apply And.intro) <;> first | exact True.intro | (unfold rng; omega) | omega), CallAt.pure (fun R' hR' => hv0 R' hR') ?_⟩
          conv => whnf
          refine ⟨(by (repeat' apply And.intro) <;> first | exact True.intro | (unfold rng; omega) | omega), ⟨⟨rfl, rfl⟩, fun h s => sub_same s⟩, ?_⟩
          conv => whnf
          refine ⟨?_, ?_⟩
          · refine ⟨(by (repeat' apply And.intro) <;> first | exact True.intro | (unfold rng; omega) | omega), CallAt.pure (fun R' hR' => hvn R' hR') ?_⟩
            conv => whnf
            refine ⟨(by (repeat' apply And.intro) <;> first | exact True.intro | (unfold rng; omega) | omega), ⟨⟨rfl, rfl⟩, fun h s => sub_same s⟩, ?_⟩
            conv => whnf
            refine ⟨(by (repeat' apply And.intro) <;> first | exact True.intro | (unfold rng; omega) | omega), ⟨⟨rfl, rfl⟩, fun h s => sub_same s⟩, ?_⟩
            conv => whnf
            refine ⟨(by (repeat' apply And.intro) <;> first | exact True.intro | (unfold rng; omega) | omega), ⟨⟨rfl, rfl⟩, fun h s => sub_same s⟩, ?_⟩
            conv => whnf
            refine ⟨(by (repeat' apply And.intro) <;> first | exact True.intro | (unfold rng; omega) | omega), ?_⟩
            conv => whnf
            refine ⟨trivial, Le.pick [0, 1, 2, 3, 5, 4] rfl rfl rfl rfl ⟨⟨_, rfl, rfl⟩, ⟨_, rfl, rfl⟩, ⟨_, rfl, rfl⟩, ⟨_, rfl, rfl⟩, ⟨_, rfl, rfl⟩, trivial⟩ ⟨⟨_, _, rfl, rfl, rfl⟩, ⟨_, _, rfl, rfl, rfl⟩, ⟨_, _, rfl, rfl, rfl⟩, ⟨_, _, rfl, rfl, rfl⟩, trivial⟩ rfl fun h s => sub_same s⟩
          · refine ⟨(by (repeat' apply And.intro) <;> first | exact True.intro | (unfold rng; omega) | omega), ⟨⟨rfl, rfl⟩, fun h s => sub_same s⟩, ?_⟩
            conv => whnf
            refine ⟨(by (repeat' apply And.intro) <;> first | exact True.intro | (unfold rng; omega) | omega), CallAt.pure (fun R' hR' => hvn R' hR') ?_⟩
            conv => whnf
            refine ⟨(by (repeat' apply And.intro) <;> first | exact True.intro | (unfold rng; omega) | omega), ⟨⟨rfl, rfl⟩, fun h s => sub_same s⟩, ?_⟩
            conv => whnf
            refine ⟨(by (repeat' apply And.intro) <;> first | exact True.intro | (unfold rng; omega) | omega), ⟨⟨rfl, rfl⟩, fun h s => sub_same s⟩, ?_⟩
            conv => whnf
            refine ⟨(by (repeat' apply And.intro) <;> first | exact True.intro | (unfold rng; omega) | omega), ?_⟩
            conv => whnf
            refine ⟨trivial, Le.pick [0, 1, 2, 3, 5, 4] rfl rfl rfl rfl ⟨⟨_, rfl, rfl⟩, ⟨_, rfl, rfl⟩, ⟨_, rfl, rfl⟩, ⟨_, rfl, rfl⟩, ⟨_, rfl, rfl⟩, trivial⟩ ⟨⟨_, _, rfl, rfl, rfl⟩, ⟨_, _, rfl, rfl, rfl⟩, ⟨_, _, rfl, rfl, rfl⟩, ⟨_, _, rfl, rfl, rfl⟩, trivial⟩ rfl fun h s => sub_same s⟩
        · refine ⟨(by (repeat' apply And.intro) <;> first | exact True.intro | (unfold rng; omega) | omega), ⟨⟨rfl, rfl⟩, fun h s => sub_same s⟩, ?_⟩
          conv => whnf
          refine ⟨(by (repeat' apply And.intro) <;> first | exact True.intro | (unfold rng; omega) | omega), CallAt.pure (fun R' hR' => hv0 R' hR') ?_⟩
          conv => whnf
          refine ⟨(by (repeat' apply And.intro) <;> first | exact True.intro | (unfold rng; omega) | omega), ⟨⟨rfl, rfl⟩, fun h s => sub_same s⟩, ?_⟩
          conv => whnf
          refine ⟨(by (repeat' apply And.intro) <;> first | exact True.intro | (unfold rng; omega) | omega), CallAt.pure (fun R' hR' => hvn R' hR') ?_⟩
          conv => whnf
          refine ⟨(by (repeat' apply And.intro) <;> first | exact True.intro | (unfold rng; omega) | omega), ⟨⟨rfl, rfl⟩, fun h s => sub_same s⟩, ?_⟩
          conv => whnf
          refine ⟨(by (repeat' apply And.intro) <;> first | exact True.intro | (unfold rng; omega) | omega), ⟨⟨rfl, rfl⟩, fun h s => sub_same s⟩, ?_⟩
          conv => whnf
          refine ⟨(by (repeat' apply And.intro) <;> first | exact True.intro | (unfold rng; omega) | omega), ?_⟩
          conv => whnf
          refine ⟨trivial, Le.pick [0, 1, 2, 3, 5, 4] rfl rfl rfl rfl ⟨⟨_, rfl, rfl⟩, ⟨_, rfl, rfl⟩, ⟨_, rfl, rfl⟩, ⟨_, rfl, rfl⟩, ⟨_, rfl, rfl⟩, trivial⟩ ⟨⟨_, _, rfl, rfl, rfl⟩, ⟨_, _, rfl, rfl, rfl⟩, ⟨_, _, rfl, rfl, rfl⟩, ⟨_, _, rfl, rfl, rfl⟩, trivial⟩ rfl fun h s => sub_same s⟩
    · conv => whnf
      intro eb _
      conv => whnf
      intro tb _
      conv => whnf
      intro nb _
      conv => whnf
      rw [e2]
      refine ⟨(by (repeat' apply And.intro) <;> first | exact True.intro | (unfold rng; omega) | omega), CallAt.fn (pre := []) _ (fun h s => s) (fun R' hR' => hfi R' (fun w s => (hR' w s).right.right.right) eb tb nb (fun w s => ⟨blk_at ((hR' w s).in_ 2 rfl) rfl, blk_at ((hR' w s).in_ 1 rfl) rfl, blk_at ((hR' w s).in_ 0 rfl) rfl⟩)) ?_⟩
      rintro v hs ⟨rfl, ⟨i, rfl, g1, g2, g3, g4⟩ | ⟨rfl, g1⟩⟩
      · have hno : ¬ seesP (v0 + ha) (vn + hb) n (fun j => (topV W F 0 (q j)).2) := fun h => h i (by omega) g1 g3
        conv => whnf
        refine ⟨fun h => absurd (of_decide_eq_true h) (by omega), fun _ => ?_⟩
        conv => whnf
        refine ⟨trivial, RegAt.tail 8 hmix (by kernel_rfl) ?_⟩
        conv => whnf
        refine ⟨trivial, LoadAt.cell (.slice (some ⟨gb, 0, none⟩) (n + 1) c) rfl rfl (fun w hw => blk_at (hw.in_ 3 rfl) rfl) ?_⟩
        conv => whnf
        refine ⟨⟨trivial, by omega⟩, LoadAt.agg [.int .i64 ((q i).1 : Int), .int .i64 ((q i).2 : Int)] rfl rfl rfl (fun w hw j v hj => ?_) ?_⟩
        · obtain ⟨q1, q2⟩ := way_cells (hw.in_ 4 rfl) hl i (by omega)
          rw [Int.toNat_natCast, Nat.zero_add]
          rcases j with _ | _ | j
          · simp at hj; rw [← hj]; exact q1
          · simp at hj; rw [← hj]; exact q2
          · simp at hj
        conv => whnf
        refine ⟨trivial, ?_⟩
        conv => whnf
        refine ⟨trivial, .mk [] (fun w s => s.rest) ⟨rfl, ((q i).1 : Int), ((q i).2 : Int), ?_⟩⟩
        rw [decide_eq_false hno]
        rfl
      · conv => whnf
        refine iff_t rfl ?_
        conv => whnf
        refine ⟨trivial, .mk [] (fun w s => s.rest) ⟨rfl, 0, 0, ?_⟩⟩
        rw [decide_eq_true (show seesP (v0 + ha) (vn + hb) n (fun j => (topV W F 0 (q j)).2) from fun j d1 d2 => g1 j d2 (by omega))]
        rfl
end Go.Proofs.Ytlplbgbnojibmaa

/-
  What a pyramid's levels show of a row's cells; rect.Around.
-/
namespace Go.Proofs.Ytlplbgbnojibmaa
open Go.RowKit
open Sy
set_option linter.unusedVariables false
set_option linter.unusedSimpArgs false
set_option maxRecDepth 100000
set_option maxHeartbeats 4000000

theorem topV_Pf {W H k : Nat} {f : Nat → Nat → Int} {c : Nat × Nat} (hW : 1 ≤ W) (hc : c.1 < W) : topV W (Pf W H f) k c = (mnL (spL W H k f (c.1 / 2 ^ k) (c.2 / 2 ^ k)), mxL (spL W H k f (c.1 / 2 ^ k) (c.2 / 2 ^ k))) := by
  have h0 := (half_le (W := W) (k := k) hW).1
  have hx := cell_in k hc
  unfold topV Pf lv
  rw [Nat.mul_comm, Nat.mul_add_mod, Nat.mod_eq_of_lt hx, Nat.mul_add_div (by omega), Nat.div_eq_of_lt hx, Nat.add_zero]
theorem topV_zero {W H : Nat} {f : Nat → Nat → Int} {c : Nat × Nat} (hW : 1 ≤ W) (hH : 1 ≤ H) (hc : c.1 < W) (hd : c.2 < H) : (topV W (Pf W H f) 0 c).2 = f c.1 c.2 := by
  rw [topV_Pf hW hc]
  simp only
  refine mxL_eq ((mem_spL hW hH (cell_in 0 hc) (cell_in 0 hd) _).2 ⟨c.1, c.2, hc, hd, rfl, rfl, rfl⟩) fun v hv => ?_
  obtain ⟨a, b, _, _, e1, e2, e3⟩ := (mem_spL hW hH (cell_in 0 hc) (cell_in 0 hd) _).1 hv
  simp only [Nat.pow_zero, Nat.div_one] at e1 e2
  rw [← e3, e1, e2]
  exact Int.le_refl _
theorem top_Pf {W H : Nat} {f : Nat → Nat → Int} (hW : 1 ≤ W) (hH : 1 ≤ H) (hf : ∀ a b, a < W → b < H → MayV (f a b)) : TopOk W H (Pf W H f) := by
  refine ⟨fun k c hk h1 h2 => ?_, fun k c d hk h1 h2 h3 h4 hc => ?_⟩
  · rw [topV_Pf hW h1]
    exact mx_may (spL_ne hW hH (cell_in k h1) (cell_in k h2)) (spL_mem hW hH (cell_in k h1) (cell_in k h2) hf)
  · rw [topV_zero hW hH h3 h4, topV_Pf hW h1]
    refine le_mxL ((mem_spL hW hH (cell_in k h1) (cell_in k h2) _).2 ⟨d.1, d.2, h3, h4, ?_, ?_, rfl⟩)
    · unfold inCell spX1 at hc
      have hp := pow_pos' k
      apply Nat.div_eq_of_lt_le
      · omega
      · have : 0 < (c.1 / 2 ^ k + 1) * 2 ^ k := Nat.mul_pos (Nat.succ_pos _) hp
        generalize (c.1 / 2 ^ k + 1) * 2 ^ k = p at *
        omega
    · unfold inCell spX1 at hc
      have hp := pow_pos' k
      apply Nat.div_eq_of_lt_le
      · omega
      · have : 0 < (c.2 / 2 ^ k + 1) * 2 ^ k := Nat.mul_pos (Nat.succ_pos _) hp
        generalize (c.2 / 2 ^ k + 1) * 2 ^ k = p at *
        omega
/-- the cells near a cell -/
def nearQ (W H : Nat) (a : P2) (n : Int) : Q4 := if n < 0 ∨ 1024 < n then ⟨0, 0, 0, 0⟩ else ⟨max (a.1 - n) 0, max (a.2 - n) 0, min (a.1 + n) ((W : Int) - 1), min (a.2 + n) ((H : Int) - 1)⟩
def nearC (n : Int) : Int := if n < 0 ∨ 1024 < n then 9 else 0
theorem sRAround {W H : Nat} {a : P2} (n : Int) (hW : 1 ≤ W ∧ W ≤ 1024) (hH : 1 ≤ H ∧ H ≤ 1024) (ha : inG W H a) (R : HP) :
    PureR Try.prog R 124 [c2 a, .int .i64 n, .int .i64 (W : Int), .int .i64 (H : Int)] (.tuple #[(nearQ W H a n).v, .int .i64 (nearC n)]) := by
  have hwi := fun R' => pWithin a.1 a.2 a.1 a.2 W H (by omega) (by omega) R'
  have hz : withinZ a.1 a.2 a.1 a.2 (W : Int) (H : Int) = 0 := by
    unfold withinZ SizeOk InP
    unfold inG at ha
    rw [if_neg (by omega), if_neg (by omega), if_neg (by omega)]
  rw [hz] at hwi
  unfold inG at ha
  refine fn_of_run0 false Try.func124 rfl hmix rfl fun w0 => ?_
  conv => whnf
  refine ⟨trivial, CallAt.pure (fun R' hR' => hwi R') ?_⟩
  conv => whnf
  repeat (first | (refine ⟨fun _ => ?_, fun h => absurd h (by decide)⟩; conv => whnf) | (refine ⟨fun h => absurd h (by decide), fun _ => ?_⟩; conv => whnf))
  refine ⟨fun h => ?_, fun h => ?_⟩
  · have h0 := of_decide_eq_false h
    conv => whnf
    refine ⟨fun h1 => ?_, fun h1 => ?_⟩
    · have h1 := of_decide_eq_true h1
      have e1 : nearQ W H a n = ⟨0, 0, 0, 0⟩ := if_pos (by omega)
      have e2 : nearC n = 9 := if_pos (by omega)
      rw [e1, e2]
      conv => whnf
      exact ⟨(by (repeat' apply And.intro) <;> first | exact True.intro | (unfold rng; omega) | omega), fin_pure rfl rfl⟩
    · have h1 := of_decide_eq_false h1
      have e1 : nearQ W H a n = ⟨max (a.1 - n) 0, max (a.2 - n) 0, min (a.1 + n) ((W : Int) - 1), min (a.2 + n) ((H : Int) - 1)⟩ := if_neg (by omega)
      have e2 : nearC n = 0 := if_neg (by omega)
      rw [e1, e2]
      conv => whnf
      exact ⟨(by (repeat' apply And.intro) <;> first | exact True.intro | (unfold rng; omega) | omega), fin_pure rfl rfl⟩
  · have h0 := of_decide_eq_true h
    have e1 : nearQ W H a n = ⟨0, 0, 0, 0⟩ := if_pos (by omega)
    have e2 : nearC n = 9 := if_pos (by omega)
    rw [e1, e2]
    conv => whnf
    exact ⟨(by (repeat' apply And.intro) <;> first | exact True.intro | (unfold rng; omega) | omega), fin_pure rfl rfl⟩
end Go.Proofs.Ytlplbgbnojibmaa

/-
  view: around, From, Count.
-/
namespace Go.Proofs.Ytlplbgbnojibmaa
open Go.RowKit
open Sy
set_option linter.unusedVariables false
set_option linter.unusedSimpArgs false
set_option maxRecDepth 100000
set_option maxHeartbeats 4000000

def viewE (W H : Nat) (a : P2) (ha hb n : Int) : Int := if ¬ inG W H a then 4 else if ¬ (hiP ha ∧ hiP hb) then 8 else nearC n
def viewQ (W H : Nat) (a : P2) (ha hb n : Int) : Q4 := if ¬ inG W H a then ⟨0, 0, 0, 0⟩ else if ¬ (hiP ha ∧ hiP hb) then ⟨0, 0, 0, 0⟩ else nearQ W H a n
theorem sVAroundNil (a : P2) (ha hb n : Int) (R : HP) : PureR Try.prog R 88 [.pointer none, c2 a, .int .i64 ha, .int .i64 hb, .int .i64 n] (.tuple #[rectV 0 0 0 0, .int .i64 1]) := by
  refine fn_of_run0 false Try.func88 rfl hmix rfl fun w0 => ?_
  conv => whnf
  refine ⟨trivial, CallAt.pure (fun R' hR' => sClearNil a a ha hb R') ?_⟩
  conv => whnf
  repeat (first | (refine ⟨fun _ => ?_, fun h => absurd h (by decide)⟩; conv => whnf) | (refine ⟨fun h => absurd h (by decide), fun _ => ?_⟩; conv => whnf))
  exact ⟨trivial, fin_pure rfl rfl⟩
theorem sVAround {R : HP} {pb W H : Nat} {a : P2} {F : Nat → Nat → Int × Int} (ha hb n : Int) (hW : 1 ≤ W ∧ W ≤ 1024) (hH : 1 ≤ H ∧ H ≤ 1024) (hF : TopOk W H F) (hp : ∀ w, Sat R w → Sat (pyrH pb W H F) w) :
    PureR Try.prog R 88 [.pointer (some ⟨pb, 0, none⟩), c2 a, .int .i64 ha, .int .i64 hb, .int .i64 n] (.tuple #[(viewQ W H a ha hb n).v, .int .i64 (viewE W H a ha hb n)]) := by
  unfold viewQ viewE
  by_cases hg : inG W H a
  · rw [if_neg (Classical.not_not.2 hg), if_neg (Classical.not_not.2 hg)]
    by_cases hh : hiP ha ∧ hiP hb
    · rw [if_neg (Classical.not_not.2 hh), if_neg (Classical.not_not.2 hh)]
      have hcl := fun (R' : HP) (hR' : ∀ w, Sat R' w → Sat R w) => sClear (R := R') ha hb hW hH hF hg hg hh.1 hh.2 fun w s => hp w (hR' w s)
      have hsz := fun (R' : HP) (hR' : ∀ w, Sat R' w → Sat R w) => sPSize (R := R') hW.1 hH.1 fun w s => hp w (hR' w s)
      have har := fun R' => sRAround n hW hH hg R'
      generalize decide (seesP _ _ _ _) = sees at *
      generalize nearQ W H a n = r at *
      generalize nearC n = e at *
      refine fn_of_run0 false Try.func88 rfl hmix rfl fun w0 => ?_
      conv => whnf
      refine ⟨trivial, CallAt.fn (pre := []) [] (fun h s => s) (fun R' hR' => hcl R' hR') ?_⟩
      rintro v hs ⟨rfl, x, y, rfl⟩
      conv => whnf
      refine iff_f rfl ?_
      conv => whnf
      refine ⟨trivial, CallAt.pure (fun R' hR' => hsz R' hR') ?_⟩
      conv => whnf
      refine ⟨trivial, CallAt.pure (fun R' hR' => har R') ?_⟩
      conv => whnf
      exact ⟨trivial, fin_pure rfl rfl⟩
    · rw [if_pos hh, if_pos hh]
      have hcl := fun (R' : HP) (hR' : ∀ w, Sat R' w → Sat R w) => sClearHigh (R := R') ha hb hW hH hg hg (by rcases Classical.em (hiP ha) with c | c; exact .inr fun d => hh ⟨c, d⟩; exact .inl c) fun w s => hp w (hR' w s)
      refine fn_of_run0 false Try.func88 rfl hmix rfl fun w0 => ?_
      conv => whnf
      refine ⟨trivial, CallAt.pure (fun R' hR' => hcl R' hR') ?_⟩
      conv => whnf
      repeat (first | (refine ⟨fun _ => ?_, fun h => absurd h (by decide)⟩; conv => whnf) | (refine ⟨fun h => absurd h (by decide), fun _ => ?_⟩; conv => whnf))
      exact ⟨trivial, fin_pure rfl rfl⟩
  · rw [if_pos hg, if_pos hg]
    have hcl := fun (R' : HP) (hR' : ∀ w, Sat R' w → Sat R w) => sClearBad (R := R') (b := a) ha hb hW hH (.inl hg) fun w s => hp w (hR' w s)
    refine fn_of_run0 false Try.func88 rfl hmix rfl fun w0 => ?_
    conv => whnf
    refine ⟨trivial, CallAt.pure (fun R' hR' => hcl R' hR') ?_⟩
    conv => whnf
    repeat (first | (refine ⟨fun _ => ?_, fun h => absurd h (by decide)⟩; conv => whnf) | (refine ⟨fun h => absurd h (by decide), fun _ => ?_⟩; conv => whnf))
    exact ⟨trivial, fin_pure rfl rfl⟩
theorem sVFromNil (a : P2) (ha hb n : Int) (R : HP) : PureR Try.prog R 33 [.pointer none, c2 a, .int .i64 ha, .int .i64 hb, .int .i64 n] (.tuple #[.slice none 0 0, .int .i64 1]) := by
  refine fn_of_run0 false Try.func33 rfl hmix rfl fun w0 => ?_
  conv => whnf
  refine ⟨trivial, CallAt.pure (fun R' hR' => sVAroundNil a ha hb n R') ?_⟩
  conv => whnf
  repeat (first | (refine ⟨fun _ => ?_, fun h => absurd h (by decide)⟩; conv => whnf) | (refine ⟨fun h => absurd h (by decide), fun _ => ?_⟩; conv => whnf))
  exact ⟨trivial, fin_pure rfl rfl⟩
theorem sVFromBad {R : HP} {pb W H : Nat} {a : P2} {F : Nat → Nat → Int × Int} (ha hb n : Int) (hW : 1 ≤ W ∧ W ≤ 1024) (hH : 1 ≤ H ∧ H ≤ 1024) (hF : TopOk W H F) (hbad : viewE W H a ha hb n ≠ 0) (hp : ∀ w, Sat R w → Sat (pyrH pb W H F) w) :
    PureR Try.prog R 33 [.pointer (some ⟨pb, 0, none⟩), c2 a, .int .i64 ha, .int .i64 hb, .int .i64 n] (.tuple #[.slice none 0 0, .int .i64 (viewE W H a ha hb n)]) := by
  have har := fun (R' : HP) (hR' : ∀ w, Sat R' w → Sat R w) => sVAround (R := R') (a := a) ha hb n hW hH hF fun w s => hp w (hR' w s)
  generalize viewE W H a ha hb n = e at *
  generalize viewQ W H a ha hb n = r at *
  refine fn_of_run0 false Try.func33 rfl hmix rfl fun w0 => ?_
  conv => whnf
  refine ⟨trivial, CallAt.pure (fun R' hR' => har R' hR') ?_⟩
  conv => whnf
  refine iff_t (by simpa using hbad) ?_
  conv => whnf
  exact ⟨trivial, fin_pure rfl rfl⟩
/-- seen from a cell: what is at c -/
def seesC (W : Nat) (F : Nat → Nat → Int × Int) (a : P2) (ha hb : Int) (c : Nat × Nat) : Bool := decide (seesP ((topV W F 0 (nat2 a)).2 + ha) ((topV W F 0 c).2 + hb) (ofW a ((c.1 : Int), (c.2 : Int))).n fun j => (topV W F 0 (rayQ a ((c.1 : Int), (c.2 : Int)) j)).2)
def nthC (x0 y0 w i : Nat) : Nat × Nat := (x0 + i % w, y0 + i / w)
def vL (p : Nat × Nat → Bool) (x0 y0 w i : Nat) : List (Nat × Nat) := ((List.range i).map (nthC x0 y0 w)).filter p
theorem vL_yes {p : Nat × Nat → Bool} {x0 y0 w i : Nat} (h : p (nthC x0 y0 w i) = true) : vL p x0 y0 w (i + 1) = vL p x0 y0 w i ++ [nthC x0 y0 w i] := by simp [vL, List.range_succ, List.filter_append, h]
theorem vL_no {p : Nat × Nat → Bool} {x0 y0 w i : Nat} (h : p (nthC x0 y0 w i) = false) : vL p x0 y0 w (i + 1) = vL p x0 y0 w i := by simp [vL, List.range_succ, List.filter_append, h]
theorem vL_len (p : Nat × Nat → Bool) (x0 y0 w i : Nat) : (vL p x0 y0 w i).length ≤ i := by
  unfold vL
  refine Nat.le_trans (List.length_filter_le _ _) ?_
  simp
/-- the view, row by row -/
def viewL (W H : Nat) (F : Nat → Nat → Int × Int) (a : P2) (ha hb n : Int) : List (Nat × Nat) :=
  vL (seesC W F a ha hb) (nearQ W H a n).x0.toNat (nearQ W H a n).y0.toNat ((nearQ W H a n).x1.toNat - (nearQ W H a n).x0.toNat + 1) (((nearQ W H a n).x1.toNat - (nearQ W H a n).x0.toNat + 1) * ((nearQ W H a n).y1.toNat - (nearQ W H a n).y0.toNat + 1))
theorem near_ok {W H : Nat} {a : P2} {n : Int} (ha : inG W H a) (hn : nearC n = 0) : ∃ x0 y0 x1 y1 : Nat, nearQ W H a n = ⟨(x0 : Int), (y0 : Int), (x1 : Int), (y1 : Int)⟩ ∧ x0 ≤ x1 ∧ x1 < W ∧ y0 ≤ y1 ∧ y1 < H := by
  unfold inG at ha
  unfold nearC at hn
  have h : ¬ (n < 0 ∨ 1024 < n) := by
    intro c
    rw [if_pos c] at hn
    omega
  refine ⟨(max (a.1 - n) 0).toNat, (max (a.2 - n) 0).toNat, (min (a.1 + n) ((W : Int) - 1)).toNat, (min (a.2 + n) ((H : Int) - 1)).toNat, ?_, by omega, by omega, by omega, by omega⟩
  unfold nearQ
  rw [if_neg h]
  simp only [Q4.mk.injEq]
  omega
theorem viewE_ok {W H : Nat} {a : P2} {ha hb n : Int} (h : viewE W H a ha hb n = 0) : inG W H a ∧ hiP ha ∧ hiP hb ∧ nearC n = 0 := by
  unfold viewE at h
  split at h
  · omega
  · rename_i h1
    split at h
    · omega
    · rename_i h2
      have h1 := Classical.not_not.1 h1
      have h2 := Classical.not_not.1 h2
      exact ⟨h1, h2.1, h2.2, h⟩
theorem sVFrom {R : HP} {pb W H : Nat} {a : P2} {F : Nat → Nat → Int × Int} (ha hb n : Int) (hW : 1 ≤ W ∧ W ≤ 1024) (hH : 1 ≤ H ∧ H ≤ 1024) (hF : TopOk W H F) (hok : viewE W H a ha hb n = 0) (hp : ∀ w, Sat R w → Sat (pyrH pb W H F) w) :
    FnR Try.prog R 33 [.pointer (some ⟨pb, 0, none⟩), c2 a, .int .i64 ha, .int .i64 hb, .int .i64 n] [] fun r hs => ∃ A c, r = .tuple #[.slice A (viewL W H F a ha hb n).length c, .int .i64 0] ∧ hs = [cRow A (viewL W H F a ha hb n).length c (viewL W H F a ha hb n)] := by
  obtain ⟨hg, hh1, hh2, hnc⟩ := viewE_ok hok
  have har := fun (R' : HP) (hR' : ∀ w, Sat R' w → Sat R w) => sVAround (R := R') (a := a) ha hb n hW hH hF fun w s => hp w (hR' w s)
  rw [hok] at har
  have hvq : viewQ W H a ha hb n = nearQ W H a n := by
    unfold viewQ
    rw [if_neg (Classical.not_not.2 hg), if_neg (Classical.not_not.2 ⟨hh1, hh2⟩)]
  rw [hvq] at har
  obtain ⟨x0, y0, x1, y1, hq, r1, r2, r3, r4⟩ := near_ok (a := a) hg hnc
  unfold viewL
  rw [hq] at har ⊢
  simp only [Int.toNat_natCast] at har ⊢
  have hcl := fun (R' : HP) (hR' : ∀ w, Sat R' w → Sat R w) (c : Nat × Nat) (h1 : c.1 < W) (h2 : c.2 < H) => sClear (R := R') (b := ((c.1 : Int), (c.2 : Int))) ha hb hW hH hF hg (by unfold inG; simp only; omega) hh1 hh2 fun w s => hp w (hR' w s)
  have hne : ∀ c : Nat × Nat, nat2 ((c.1 : Int), (c.2 : Int)) = c := fun c => rfl
  simp only [hne] at hcl
  have hcl2 : ∀ (R' : HP) (hR' : ∀ w, Sat R' w → Sat R w) (c : Nat × Nat) (h1 : c.1 < W) (h2 : c.2 < H), FnR Try.prog R' 90 [.pointer (some ⟨pb, 0, none⟩), c2 a, .int .i64 ha, cellV (c.1 : Int) (c.2 : Int), .int .i64 hb] [] fun r hs => hs = [] ∧ ∃ x y : Int, r = .tuple #[.bool (seesC W F a ha hb c), cellV x y, .int .i64 0] := hcl
  have harea := fun R' => sArea x0 y0 x1 y1 r1 (by omega) r3 (by omega) R'
  have hnth := fun i (hi : i < (x1 - x0 + 1) * (y1 - y0 + 1)) R' => sNth x0 y0 x1 y1 i r1 (by omega) r3 (by omega) hi R'
  have hin : ∀ i, i < (x1 - x0 + 1) * (y1 - y0 + 1) → (nthC x0 y0 (x1 - x0 + 1) i).1 < W ∧ (nthC x0 y0 (x1 - x0 + 1) i).2 < H := fun i hi => by
    unfold nthC
    have e1 := Nat.mod_lt i (show 0 < x1 - x0 + 1 by omega)
    have e2 : i / (x1 - x0 + 1) < y1 - y0 + 1 := (Nat.div_lt_iff_lt_mul (by omega)).2 (by rw [Nat.mul_comm]; exact hi)
    simp only
    omega
  have hnt : (x1 - x0 + 1) * (y1 - y0 + 1) ≤ 1024 * 1024 := Nat.mul_le_mul (by omega) (by omega)
  clear hcl hF hok hh1 hh2 hnc hne hvq hq hg
  generalize seesC W F a ha hb = p at *
  have hyes := fun i => @vL_yes p x0 y0 (x1 - x0 + 1) i
  have hno := fun i => @vL_no p x0 y0 (x1 - x0 + 1) i
  have hlen := fun i => vL_len p x0 y0 (x1 - x0 + 1) i
  have hnth2 : ∀ i (hi : i < (x1 - x0 + 1) * (y1 - y0 + 1)) R', PureR Try.prog R' 77 [rectV x0 y0 x1 y1, .int .i64 i] (.tuple #[cellV ((nthC x0 y0 (x1 - x0 + 1) i).1 : Int) ((nthC x0 y0 (x1 - x0 + 1) i).2 : Int), .bool true]) := hnth
  have hz : vL p x0 y0 (x1 - x0 + 1) 0 = [] := rfl
  clear hnth
  generalize (x1 - x0 + 1) * (y1 - y0 + 1) = N at *
  generalize vL p x0 y0 (x1 - x0 + 1) = V at *
  generalize nthC x0 y0 (x1 - x0 + 1) = nt at *
  refine fn_of_run0 false Try.func33 rfl hmix rfl fun w0 => ?_
  conv => whnf
  refine ⟨trivial, CallAt.pure (fun R' hR' => har R' hR') ?_⟩
  conv => whnf
  refine iff_f rfl ?_
  conv => whnf
  refine ⟨trivial, CallAt.pure (fun R' hR' => harea R') ?_⟩
  conv => whnf
  refine ⟨trivial, LoopAt.of (α := Nat × Option Addr × Nat) [0, 2, 3, 6, 12, 34] (fun a => [(14, .v (.slice a.2.1 (V a.1).length a.2.2)), (35, .v (.int .i64 (a.1 : Int)))])
    (fun _ => [(1, 25, [.v (.int .i64 (x0 : Int)), .v (.int .i64 (y0 : Int)), .v (.int .i64 (x1 : Int)), .v (.int .i64 (y1 : Int))]), (0, 35, [.v (.int .i64 a.1), .v (.int .i64 a.2)])])
    (fun a => [cRow a.2.1 (V a.1).length a.2.2 (V a.1)]) (fun a => a.1 ≤ N) (fun a => N - a.1) (0, none, 0) (Nat.zero_le _)
    (Le.of (Nat.le_of_ble_eq_true rfl) (Nat.zero_le _) ⟨⟨?_, rfl⟩, ⟨rfl, rfl⟩, ⟨rfl, rfl⟩, ⟨rfl, rfl⟩, ⟨rfl, rfl⟩, ⟨rfl, rfl⟩, ⟨rfl, rfl⟩, ⟨rfl, rfl⟩, trivial⟩ ⟨⟨rfl, rfl, rfl, rfl⟩, ⟨rfl, rfl, rfl, rfl⟩, trivial⟩ fun h s => ?_) ?_⟩
  · show _ = some (SV.v (.slice none (V 0).length 0))
    rw [hz]; rfl
  · show ∃ h', _ ∧ sepL [cRow none (V 0).length 0 (V 0)] _ h'
    rw [hz]
    exact sub_same (row_nil _ _ s)
  rintro ⟨i, A, c⟩ hi
  simp only at hi
  have hl := hlen i
  conv => whnf
  refine ⟨fun h => ?_, fun h => ?_⟩
  · have hi2 : i < N := by have := of_decide_eq_true h; omega
    obtain ⟨g1, g2⟩ := hin i hi2
    conv => whnf
    refine ⟨trivial, CallAt.pure (fun R' hR' => hnth2 i hi2 R') ?_⟩
    conv => whnf
    refine ⟨trivial, CallAt.fn (pre := []) _ (fun h s => s) (fun R' hR' => hcl2 R' (fun w s => (hR' w s).rest) (nt i) g1 g2) ?_⟩
    rintro v hs ⟨rfl, x, y, rfl⟩
    conv => whnf
    refine ⟨fun h => ?_, fun h => ?_⟩
    · have hsucc := hyes i h
      generalize hP : V i = P at *
      generalize hP' : V (i + 1) = P' at *
      conv => whnf
      refine ⟨trivial, OpAt.lit [cellV ((nt i).1 : Int) ((nt i).2 : Int)] 2 rfl rfl rfl rfl rfl (by decide) rfl rfl rfl (by simp [Value.cells]) rfl (by decide) fun g3 => ?_⟩
      conv => whnf
      refine ⟨trivial, OpAt.append (.slice A P.length c) P.length 2 16 (ccel P) (ccel [nt i]) (some ⟨g3, 0, none⟩) 1 1 _ rfl (fun h s => sepL_pull 1 s) rfl rfl rfl rfl rfl rfl rfl rfl rfl (by decide) (fun w hw => rowH_reads rfl (Sat.left hw)) (ccel_one _) (by simp only [maxLen]; omega) (by omega) fun A' c' => ?_⟩
      conv => whnf
      refine ⟨⟨trivial, by unfold rng; omega⟩, .mk (i + 1, A', c') hi2 (by simp only; omega) (Le.of (Nat.le_of_ble_eq_true rfl) (Nat.zero_le _) ⟨⟨?_, rfl⟩, ⟨?_, rfl⟩, ⟨rfl, rfl⟩, ⟨rfl, rfl⟩, ⟨rfl, rfl⟩, ⟨rfl, rfl⟩, ⟨rfl, rfl⟩, ⟨rfl, rfl⟩, trivial⟩ ⟨⟨rfl, rfl, rfl, rfl⟩, ⟨rfl, rfl, rfl, rfl⟩, trivial⟩ fun h s => ?_)⟩
      · show _ = some (SV.v (.slice A' (V (i + 1)).length c'))
        rw [hP', hsucc, List.length_append]; rfl
      · show some _ = some _
        congr 3
      · obtain ⟨h', e1, s'⟩ := sub_drop1 s
        refine ⟨h', e1, ?_⟩
        show sepL [cRow A' (V (i + 1)).length c' (V (i + 1))] _ h'
        rw [hP', hsucc, List.length_append]
        unfold cRow
        rw [ccel_append]
        exact s'
    · have hsame := hno i h
      conv => whnf
      refine ⟨(by (repeat' apply And.intro) <;> first | exact True.intro | (unfold rng; omega) | omega), .mk (i + 1, A, c) hi2 (by simp only; omega) (Le.of (Nat.le_of_ble_eq_true rfl) (Nat.zero_le _) ⟨⟨?_, rfl⟩, ⟨?_, rfl⟩, ⟨rfl, rfl⟩, ⟨rfl, rfl⟩, ⟨rfl, rfl⟩, ⟨rfl, rfl⟩, ⟨rfl, rfl⟩, ⟨rfl, rfl⟩, trivial⟩ ⟨⟨rfl, rfl, rfl, rfl⟩, ⟨rfl, rfl, rfl, rfl⟩, trivial⟩ fun h s => ?_)⟩
      · show _ = some (SV.v (.slice A (V (i + 1)).length c))
        rw [hsame]; rfl
      · show some _ = some _
        congr 3
      · show ∃ h', _ ∧ sepL [cRow A (V (i + 1)).length c (V (i + 1))] _ h'
        rw [hsame]
        exact sub_same s
  · have hi2 : i = N := by have := of_decide_eq_false h; omega
    subst hi2
    conv => whnf
    exact ⟨trivial, .mk _ (fun w s => s) ⟨A, c, rfl, rfl⟩⟩
end Go.Proofs.Ytlplbgbnojibmaa

/-
  Lists of cells compared; view.Count; Both in no pyramid; the chapter's example; in no pyramid nothing is in view.
-/
namespace Go.Proofs.Ytlplbgbnojibmaa
open Go.RowKit
open Sy
set_option linter.unusedVariables false
set_option linter.unusedSimpArgs false
set_option maxRecDepth 100000
set_option maxHeartbeats 4000000

theorem ce_eq (f g : Nat × Nat) (w : World) : (Op.equalIn 10000 35 (.agg #[.int .i64 (f.1 : Int), .int .i64 (f.2 : Int)]) (.agg #[.int .i64 (g.1 : Int), .int .i64 (g.2 : Int)])).run Try.prog w = .ok (decide (f = g)) w :=
  (eq_agg 4 (by rfl) (by decide) (r := ((f.1 : Int) == (g.1 : Int) && ((f.2 : Int) == (g.2 : Int) && true))) (by kernel_rfl) w).trans (by
    congr 1
    obtain ⟨a, b⟩ := f
    obtain ⟨c, d⟩ := g
    rw [Bool.eq_iff_iff]
    simp
    omega)
theorem ccel_get {l : List (Nat × Nat)} {i : Nat} {c : Nat × Nat} (h : l[i]? = some c) : (ccel l)[i * 2]? = some (.int .i64 (c.1 : Int)) ∧ (ccel l)[i * 2 + 1]? = some (.int .i64 (c.2 : Int)) := by
  obtain ⟨hl, e⟩ := List.getElem?_eq_some_iff.1 h
  have := ccel_at hl
  rw [e] at this
  exact this
theorem pSameCells {R : HP} {A B : Option Addr} {n m c d : Nat} {l l' : List (Nat × Nat)} (hn : n ≤ 4611686018427387904) (ha : Sl R A n 2 (ccel l)) (hb : Sl R B m 2 (ccel l')) : PureR Try.prog R 35 [.slice A n c, .slice B m d] (.bool (decide (l = l'))) := by
  refine PureR.of_sat fun w hs => ?_
  obtain ⟨hl, sa⟩ := ha.spot (by omega) hs
  obtain ⟨hl', sb⟩ := hb.spot (by omega) hs
  rw [ccel_len] at hl hl'
  have e1 : l.length = n := by omega
  have e2 : l'.length = m := by omega
  clear hs hl hl'
  refine fn_of_run0 false Try.func35 rfl hmix rfl fun w0 => ?_
  conv => whnf
  refine ⟨fun h => ?_, fun h => ?_⟩
  · have g : ¬ n = m := by simp at h; omega
    rw [decide_eq_false (fun e : l = l' => g (by rw [← e1, ← e2, e]))]
    conv => whnf
    exact ⟨trivial, fin_drop rfl⟩
  · have g : n = m := by simp at h; omega
    subst g
    conv => whnf
    refine ⟨trivial, LoopAt.keep (α := Nat) [0, 1] (fun i => [(5, .v (.int .i64 (i : Int)))]) (fun i => i ≤ n ∧ l.take i = l'.take i) (fun i => n - i) 0 ⟨Nat.zero_le _, rfl⟩ rfl ⟨⟨rfl, rfl⟩, trivial⟩ ⟨⟨rfl, rfl⟩, ⟨rfl, rfl⟩, trivial⟩ trivial ?_⟩
    rintro i ⟨hi, he⟩
    conv => whnf
    refine ⟨fun h => ?_, fun h => ?_⟩
    · have hi2 : i < n := by simpa using h
      rcases sa with sa | ⟨b, off, rfl, sa⟩
      · omega
      rcases sb with sb | ⟨b', off', rfl, sb⟩
      · omega
      obtain ⟨f1, f2⟩ := ccel_at (l := l) (i := i) (by omega)
      obtain ⟨k1, k2⟩ := ccel_at (l := l') (i := i) (by omega)
      have hsucc : l.take (i + 1) = l'.take (i + 1) ↔ l[i]'(by omega) = l'[i]'(by omega) := by
        rw [List.take_succ_eq_append_getElem (show i < l.length by omega), List.take_succ_eq_append_getElem (show i < l'.length by omega), he]
        simp only [List.append_cancel_left_eq, List.cons.injEq, and_true]
      have hne : l[i]'(by omega) ≠ l'[i]'(by omega) → l ≠ l' := fun h e => h (by subst e; rfl)
      generalize l[i]'(by omega) = f at *
      generalize l'[i]'(by omega) = f' at *
      conv => whnf
      refine ⟨trivial, RegAt.quiet hmix (by kernel_rfl) ?_⟩
      conv => whnf
      refine ⟨⟨trivial, by omega⟩, LoadAt.agg [.int .i64 (f.1 : Int), .int .i64 (f.2 : Int)] rfl rfl rfl (fun w hw j v hj => ?_) ?_⟩
      · rw [Int.toNat_natCast, Nat.add_assoc]
        have hw := sub_all hw
        rcases j with _ | _ | j
        · simp at hj; rw [← hj]; exact sa w hw _ _ f1
        · simp at hj; rw [← hj]; exact sa w hw _ _ f2
        · simp at hj
      conv => whnf
      refine ⟨⟨trivial, by omega⟩, LoadAt.agg [.int .i64 (f'.1 : Int), .int .i64 (f'.2 : Int)] rfl rfl rfl (fun w hw j v hj => ?_) ?_⟩
      · rw [Int.toNat_natCast, Nat.add_assoc]
        have hw := sub_all hw
        rcases j with _ | _ | j
        · simp at hj; rw [← hj]; exact sb w hw _ _ k1
        · simp at hj; rw [← hj]; exact sb w hw _ _ k2
        · simp at hj
      conv => whnf
      refine ⟨trivial, RunQ.aggNe rfl rfl rfl rfl (by kernel_rfl) (ce_eq f f') ?_⟩
      conv => whnf
      refine ⟨trivial, ?_⟩
      conv => whnf
      refine ⟨fun h2 => ?_, fun h2 => ?_⟩
      · have g2 : f ≠ f' := by simpa using h2
        rw [decide_eq_false (hne g2)]
        conv => whnf
        exact ⟨trivial, fin_drop rfl⟩
      · have g2 : f = f' := by simpa using h2
        conv => whnf
        exact ⟨⟨trivial, by unfold rng; omega⟩, Next.keep (i + 1) ⟨by omega, hsucc.2 g2⟩ (by omega) ⟨⟨rfl, rfl⟩, trivial⟩ ⟨⟨rfl, rfl⟩, ⟨rfl, rfl⟩, trivial⟩ trivial rfl rfl rfl⟩
    · have hi2 : i = n := by simp at h; omega
      subst hi2
      have : l = l' := by
        rw [← List.take_length (l := l), ← List.take_length (l := l'), e1, e2, he]
      rw [decide_eq_true this]
      conv => whnf
      exact ⟨trivial, fin_drop rfl⟩
theorem sVCountNil (a : P2) (ha hb n : Int) (R : HP) : PureR Try.prog R 34 [.pointer none, c2 a, .int .i64 ha, .int .i64 hb, .int .i64 n] (.tuple #[.int .i64 0, .int .i64 1]) := by
  refine fn_of_run0 false Try.func34 rfl hmix rfl fun w0 => ?_
  conv => whnf
  refine ⟨trivial, CallAt.pure (fun R' hR' => sVFromNil a ha hb n R') ?_⟩
  conv => whnf
  exact ⟨trivial, fin_pure rfl rfl⟩
theorem sVBothNil (a b : P2) (ha n : Int) (R : HP) : PureR Try.prog R 37 [.pointer none, c2 a, c2 b, .int .i64 ha, .int .i64 n] (.tuple #[.slice none 0 0, .int .i64 1]) := by
  refine fn_of_run0 false Try.func37 rfl hmix rfl fun w0 => ?_
  conv => whnf
  refine ⟨trivial, CallAt.pure (fun R' hR' => sVAroundNil a 0 0 0 R') ?_⟩
  conv => whnf
  repeat (first | (refine ⟨fun _ => ?_, fun h => absurd h (by decide)⟩; conv => whnf) | (refine ⟨fun h => absurd h (by decide), fun _ => ?_⟩; conv => whnf))
  exact ⟨trivial, fin_pure rfl rfl⟩
/-- how many are in view -/
def viewN (W H : Nat) (F : Nat → Nat → Int × Int) (a : P2) (ha hb n : Int) : Nat := if viewE W H a ha hb n = 0 then (viewL W H F a ha hb n).length else 0
theorem sVCount {R : HP} {pb W H : Nat} {a : P2} {F : Nat → Nat → Int × Int} (ha hb n : Int) (hW : 1 ≤ W ∧ W ≤ 1024) (hH : 1 ≤ H ∧ H ≤ 1024) (hF : TopOk W H F) (hp : ∀ w, Sat R w → Sat (pyrH pb W H F) w) :
    PureR Try.prog R 34 [.pointer (some ⟨pb, 0, none⟩), c2 a, .int .i64 ha, .int .i64 hb, .int .i64 n] (.tuple #[.int .i64 (viewN W H F a ha hb n : Int), .int .i64 (viewE W H a ha hb n)]) := by
  unfold viewN
  by_cases h : viewE W H a ha hb n = 0
  · rw [if_pos h, h]
    have hfr := fun (R' : HP) (hR' : ∀ w, Sat R' w → Sat R w) => sVFrom (R := R') (a := a) ha hb n hW hH hF h fun w s => hp w (hR' w s)
    generalize viewL W H F a ha hb n = l at *
    refine fn_of_run0 false Try.func34 rfl hmix rfl fun w0 => ?_
    conv => whnf
    refine ⟨trivial, CallAt.fn (pre := []) [] (fun h s => s) (fun R' hR' => hfr R' hR') ?_⟩
    rintro v hs ⟨A, c, rfl, rfl⟩
    conv => whnf
    exact ⟨trivial, fin_drop rfl⟩
  · rw [if_neg h]
    have hfr := fun (R' : HP) (hR' : ∀ w, Sat R' w → Sat R w) => sVFromBad (R := R') (a := a) ha hb n hW hH hF h fun w s => hp w (hR' w s)
    refine fn_of_run0 false Try.func34 rfl hmix rfl fun w0 => ?_
    conv => whnf
    refine ⟨trivial, CallAt.pure (fun R' hR' => hfr R' hR') ?_⟩
    conv => whnf
    exact ⟨trivial, fin_pure rfl rfl⟩
def F27 : Nat → Nat → Int × Int := Pf 3 1 (gv 3 [0, 5, 0])
theorem v27 : viewL 3 1 F27 (0, 0) 0 0 2 = [(0, 0), (1, 0)] := by kernel_rfl
theorem sAwake27 (R : HP) : PureR Try.prog R 30 [] (.bool true) := by
  have hfr := fun (pb : Nat) (R' : HP) hR' => sVFrom (R := R') (pb := pb) (W := 3) (H := 1) (F := F27) (a := (0, 0)) 0 0 2 (by omega) (by omega) (top_Pf (by omega) (by omega) fun a b h1 h2 => by
    have hb : b = 0 := by omega
    subst hb
    have ha : a = 0 ∨ a = 1 ∨ a = 2 := by omega
    rcases ha with rfl | rfl | rfl <;> decide) (by decide) hR'
  rw [v27] at hfr
  refine fn_of_run0 false Try.func30 rfl hmix rfl fun w0 => ?_
  conv => whnf
  refine ⟨trivial, OpAt.lit [.int .i64 0, .int .i64 5, .int .i64 0] 1 rfl rfl rfl rfl rfl (by decide) rfl rfl rfl (by simp [Value.cells]) rfl (by decide) fun g => ?_⟩
  conv => whnf
  refine ⟨trivial, CallAt.fn (pre := []) _ (fun h s => s) (fun R' hR' => sFrom (W := 3) (H := 1) (l := [0, 5, 0]) (Vs.row fun w s => (hR' w s).in_ 0 rfl) (by simp [MayV]) (by decide) (by decide) (by decide) (by decide) rfl) ?_⟩
  rintro r hs ⟨gb, rfl, rfl⟩
  conv => whnf
  refine ⟨trivial, CallAt.fn (pre := []) _ (fun h s => s) (fun R' hR' => sBuild (gridAt_rest 0 rfl hR')) ?_⟩
  rintro r hs ⟨pb, rfl, rfl⟩
  conv => whnf
  refine ⟨trivial, CallAt.fn (pre := []) _ (fun h s => s) (fun R' hR' => hfr pb R' (fun w s => (hR' w s).in_ 0 rfl)) ?_⟩
  rintro r hs ⟨A, c, rfl, rfl⟩
  conv => whnf
  repeat (first | (refine ⟨fun _ => ?_, fun h => absurd h (by decide)⟩; conv => whnf) | (refine ⟨fun h => absurd h (by decide), fun _ => ?_⟩; conv => whnf))
  refine ⟨trivial, OpAt.lit [cellV 0 0, cellV 1 0] 2 rfl rfl rfl rfl rfl (by decide) rfl rfl rfl (by simp [Value.cells]) rfl (by decide) fun g3 => ?_⟩
  conv => whnf
  refine ⟨trivial, CallAt.pure (fun R' hR' => pSameCells (l := [(0, 0), (1, 0)]) (l' := [(0, 0), (1, 0)]) (by decide) (Sl.row fun w s => (hR' w s).in_ 1 rfl) (Sl.row fun w s => (hR' w s).in_ 0 rfl)) ?_⟩
  conv => whnf
  exact ⟨trivial, fin_drop rfl⟩
theorem sLawViewNil (a : P2) (ha hb n : Int) (R : HP) : PureR Try.prog R 10 [c2 a, .int .i64 ha, .int .i64 hb, .int .i64 n] (.bool true) := by
  refine fn_of_run0 false Try.func10 rfl hmix rfl fun w0 => ?_
  conv => whnf
  refine ⟨trivial, CallAt.pure (fun R' hR' => sAwake27 R') ?_⟩
  conv => whnf
  repeat (first | (refine ⟨fun _ => ?_, fun h => absurd h (by decide)⟩; conv => whnf) | (refine ⟨fun h => absurd h (by decide), fun _ => ?_⟩; conv => whnf))
  refine ⟨trivial, CallAt.pure (fun R' hR' => sVFromNil a ha hb n R') ?_⟩
  conv => whnf
  refine ⟨trivial, CallAt.pure (fun R' hR' => sVCountNil a ha hb n R') ?_⟩
  conv => whnf
  refine ⟨trivial, CallAt.pure (fun R' hR' => sVBothNil a a ha n R') ?_⟩
  conv => whnf
  repeat (first | (refine ⟨fun _ => ?_, fun h => absurd h (by decide)⟩; conv => whnf) | (refine ⟨fun h => absurd h (by decide), fun _ => ?_⟩; conv => whnf))
  exact ⟨trivial, fin_pure rfl rfl⟩
theorem ViewNil_walk (x y ha hb n : Int) (w : World) (_ : -9223372036854775808 ≤ x) (_ : x ≤ 9223372036854775807) (_ : -9223372036854775808 ≤ y) (_ : y ≤ 9223372036854775807) (_ : -9223372036854775808 ≤ ha) (_ : ha ≤ 9223372036854775807) (_ : -9223372036854775808 ≤ hb) (_ : hb ≤ 9223372036854775807) (_ : -9223372036854775808 ≤ n) (_ : n ≤ 9223372036854775807) :
    Calls Try.prog 10 #[.agg #[.int .i64 x, .int .i64 y], .int .i64 ha, .int .i64 hb, .int .i64 n] w fun e w' => e = .returned (.bool true) ∧ Below w.heap.size w w' :=
  PureR.below (args := [.agg #[.int .i64 x, .int .i64 y], .int .i64 ha, .int .i64 hb, .int .i64 n]) (sLawViewNil (x, y) ha hb n _)
end Go.Proofs.Ytlplbgbnojibmaa

/-
  The document's ray, sight and view (23, 25, 27).
-/
namespace Go.Proofs.Ytlplbgbnojibmaa
open Go.RowKit
open Sy
set_option linter.unusedVariables false
set_option linter.unusedSimpArgs false
set_option maxRecDepth 100000
set_option maxHeartbeats 4000000

theorem gv_mayV {W H n : Nat} {l : List Int} (hn : W * H = n) (hl : l.length = n) (h : ∀ u ∈ l, MayV u) : ∀ x y, x < W → y < H → MayV (gv W l x y) := fun x y hx hy => by
  have hi := idx_lt hx hy
  unfold gv
  rw [List.getD_eq_getElem?_getD, List.getElem?_eq_getElem (by omega)]
  exact h _ (List.getElem_mem _)
/-- a model's value at a cell -/
def atM (W H : Nat) (l : List Int) (p : P2) : Int := if inG W H p then gv W l p.1.toNat p.2.toNat else 0
theorem sMAt {R : HP} {A : Option Addr} {n c W H : Nat} {l : List Int} (ha : Vs R A n l) (hn : W * H = n) (hW : W ≤ 1024) (hH : H ≤ 1024) (p : P2) :
    PureR Try.prog R 38 [modV W H A n c, c2 p] (.tuple #[.int .i64 (atM W H l p), .int .i64 (atE W H p)]) := by
  refine PureR.of_sat fun w hs => ?_
  obtain ⟨hl, sa⟩ := ha.spot hs
  unfold atM atE
  by_cases hg : inG W H p
  · rw [if_pos hg, if_pos hg]
    unfold inG at hg
    obtain ⟨X, hX⟩ : ∃ X : Nat, p.1 = X := ⟨p.1.toNat, by omega⟩
    obtain ⟨Y, hY⟩ : ∃ Y : Nat, p.2 = Y := ⟨p.2.toNat, by omega⟩
    have hx : X < W := by omega
    have hy : Y < H := by omega
    have hi := idx_lt hx hy
    rcases sa with sa | ⟨b, off, rfl, sa⟩
    · omega
    have e1 : p.1.toNat = X := by omega
    have e2 : p.2.toNat = Y := by omega
    have hgv : l[Y * W + X]? = some (gv W l X Y) := by
      unfold gv
      rw [List.getD_eq_getElem?_getD, List.getElem?_eq_getElem (by omega)]
      rfl
    rw [e1, e2]
    generalize gv W l X Y = v at *
    have z1 : (Y : Int) * (W : Int) = ((Y * W : Nat) : Int) := by simp
    have z2 : ((Y * W : Nat) : Int) + (X : Int) = ((Y * W + X : Nat) : Int) := by simp
    have hq2 : Y * W ≤ 1024 * 1024 := Nat.mul_le_mul (by omega) hW
    obtain ⟨px, py⟩ := p
    simp only at hX hY
    subst hX hY
    refine fn_of_run0 false Try.func38 rfl hmix rfl fun w0 => ?_
    conv => whnf
    refine ⟨fun h => ?_, fun h => absurd h (by simp)⟩
    conv => whnf
    refine ⟨fun h => ?_, fun h => absurd h (by simp; omega)⟩
    conv => whnf
    refine ⟨fun h => ?_, fun h => absurd h (by simp)⟩
    conv => whnf
    refine ⟨fun h => absurd h (by simp; omega), fun h => ?_⟩
    conv => whnf
    rw [z1, z2]
    generalize Y * W = q at *
    refine ⟨(by (repeat' apply And.intro) <;> first | exact True.intro | (unfold rng; omega) | omega), LoadAt.cell (.int .i64 v) rfl rfl (fun w hw => ?_) ?_⟩
    · obtain ⟨hlt, e⟩ := List.getElem?_eq_some_iff.1 hgv
      have := sa w (sub_all hw) _ hlt
      rw [e] at this
      rw [Int.toNat_natCast]
      simpa using this
    conv => whnf
    exact ⟨trivial, fin_drop rfl⟩
  · rw [if_neg hg, if_neg hg]
    unfold inG at hg
    refine fn_of_run0 false Try.func38 rfl hmix rfl fun w0 => ?_
    conv => whnf
    refine ⟨fun h1 => ?_, fun h1 => ?_⟩
    · have g1 := of_decide_eq_false h1
      conv => whnf
      refine ⟨fun h2 => ?_, fun h2 => ?_⟩
      · have g2 := of_decide_eq_false h2
        conv => whnf
        refine ⟨fun h3 => ?_, fun h3 => ?_⟩
        · have g3 := of_decide_eq_false h3
          conv => whnf
          refine ⟨fun h4 => ?_, fun h4 => absurd (of_decide_eq_false h4) (by omega)⟩
          conv => whnf
          exact ⟨trivial, fin_drop rfl⟩
        · conv => whnf
          exact ⟨trivial, fin_drop rfl⟩
      · conv => whnf
        exact ⟨trivial, fin_drop rfl⟩
    · conv => whnf
      exact ⟨trivial, fin_drop rfl⟩
theorem sSize23 (n : Int) (h : -4096 ≤ n ∧ n ≤ 4096) (R : HP) : PureR Try.prog R 158 [.int .i64 n] (.int .i64 (n.natAbs : Int)) := by
  refine fn_of_run0 false Try.func158 rfl hmix rfl fun w0 => ?_
  conv => whnf
  refine ⟨fun h1 => ?_, fun h1 => ?_⟩
  · have g1 := of_decide_eq_true h1
    have e2 : (n.natAbs : Int) = 0 - n := by omega
    rw [e2]
    conv => whnf
    exact ⟨(by (repeat' apply And.intro) <;> first | exact True.intro | (unfold rng; omega) | omega), fin_pure rfl rfl⟩
  · have g1 := of_decide_eq_false h1
    have e2 : (n.natAbs : Int) = n := by omega
    rw [e2]
    conv => whnf
    exact ⟨trivial, fin_pure rfl rfl⟩
theorem sToward (f t : Int) (k : Nat) (h : 0 ≤ f ∧ f ≤ 4096 ∧ k ≤ 4096) (R : HP) : PureR Try.prog R 159 [.int .i64 f, .int .i64 t, .int .i64 (k : Int)] (.int .i64 (f + k * sg (t - f))) := by
  refine fn_of_run0 false Try.func159 rfl hmix rfl fun w0 => ?_
  conv => whnf
  refine ⟨fun h1 => ?_, fun h1 => ?_⟩
  · have g1 := of_decide_eq_true h1
    have e1 : sg (t - f) = -1 := if_pos (by omega)
    have e2 : f + (k : Int) * sg (t - f) = f - k := by rw [e1]; omega
    rw [e2]
    conv => whnf
    exact ⟨(by (repeat' apply And.intro) <;> first | exact True.intro | (unfold rng; omega) | omega), fin_pure rfl rfl⟩
  · have g1 := of_decide_eq_false h1
    have e1 : sg (t - f) = 1 := if_neg (by omega)
    have e2 : f + (k : Int) * sg (t - f) = f + k := by rw [e1]; omega
    rw [e2]
    conv => whnf
    exact ⟨(by (repeat' apply And.intro) <;> first | exact True.intro | (unfold rng; omega) | omega), fin_pure rfl rfl⟩
theorem sLen23 (a b : P2) (ha : canC a) (hb : canC b) (R : HP) : PureR Try.prog R 132 [c2 a, c2 b] (.int .i64 ((ofW a b).n : Int)) := by
  have hn : (ofW a b).n = if (b.1 - a.1).natAbs < (b.2 - a.2).natAbs then (b.2 - a.2).natAbs else (b.1 - a.1).natAbs := by unfold ofW; split <;> rfl
  unfold canC at ha hb
  have h1 := fun R' => sSize23 (b.1 - a.1) (by omega) R'
  have h2 := fun R' => sSize23 (b.2 - a.2) (by omega) R'
  rw [hn]
  have b1 : (b.1 - a.1).natAbs ≤ 1024 := by omega
  have b2 : (b.2 - a.2).natAbs ≤ 1024 := by omega
  refine fn_of_run0 false Try.func132 rfl hmix rfl fun w0 => ?_
  conv => whnf
  refine ⟨trivial, RegAt.quiet hmix (by kernel_rfl) ?_⟩
  conv => whnf
  refine ⟨(by (repeat' apply And.intro) <;> first | exact True.intro | (unfold rng; omega) | omega), CallQ.pure (fun R' hR' => h1 R') ?_⟩
  conv => whnf
  refine ⟨(by (repeat' apply And.intro) <;> first | exact True.intro | (unfold rng; omega) | omega), CallQ.pure (fun R' hR' => h2 R') ?_⟩
  conv => whnf
  refine ⟨trivial, ?_⟩
  generalize (b.1 - a.1).natAbs = dx at *
  generalize (b.2 - a.2).natAbs = dy at *
  conv => whnf
  refine ⟨fun h => ?_, fun h => ?_⟩
  · have g : ¬ dx < dy := by have := of_decide_eq_true h; omega
    rw [if_neg g]
    conv => whnf
    exact ⟨trivial, fin_pure rfl rfl⟩
  · have g := of_decide_eq_false h
    conv => whnf
    refine ⟨trivial, fin_pure rfl ?_⟩
    by_cases c : dx < dy
    · rw [if_pos c]; rfl
    · rw [if_neg c]
      have : dx = dy := by omega
      rw [this]; rfl
/-- the document's cell of a ray -/
def ray23 (a b : P2) (i : Nat) : P2 := if (ofW a b).n = 0 then a else rayC a b i
theorem ray23_row {a b : P2} {i : Nat} (hi : i ≤ (ofW a b).n) : ray23 a b i = (rowSt (ofW a b) a i).1 := by
  unfold ray23
  rcases Nat.eq_zero_or_pos (ofW a b).n with z | hn
  · rw [if_pos z]
    have : i = 0 := by omega
    subst this; rfl
  · rw [if_neg (by omega), rowSt_C hn]
theorem quo_nat {p q : Nat} (h : p ≤ 9223372036854775807) : IntKind.i64.wrap ((p : Int).tdiv (q : Int)) = ((p / q : Nat) : Int) := by
  have e : (p : Int).tdiv (q : Int) = ((p / q : Nat) : Int) := Int.ofNat_tdiv p q
  rw [e]
  have := Nat.div_le_self p q
  generalize p / q = z at *
  exact IntWalk.i64_in _ (by omega)
theorem rayK_le {m n i : Nat} (hm : m ≤ n) (hn : 0 < n) : rayK m n i ≤ i := by
  unfold rayK
  apply Nat.le_of_lt_succ
  apply Nat.div_lt_of_lt_mul
  have h1 : 2 * i * m ≤ 2 * i * n := Nat.mul_le_mul_left _ hm
  have h2 : 2 * n * (i + 1) = 2 * i * n + 2 * n := by rw [Nat.mul_add, Nat.mul_one, Nat.mul_assoc, Nat.mul_comm n i, Nat.mul_assoc]
  rw [h2]
  generalize 2 * i * m = p at *
  generalize 2 * i * n = q at *
  omega
theorem sAt23 (a b : P2) (i : Nat) (ha : canC a) (hb : canC b) (hi : i ≤ 1024) (R : HP) : PureR Try.prog R 133 [c2 a, c2 b, .int .i64 (i : Int)] (c2 (ray23 a b i)) := by
  have hr : ray23 a b i = if (b.1 - a.1).natAbs = 0 ∧ (b.2 - a.2).natAbs = 0 then a else if (b.1 - a.1).natAbs < (b.2 - a.2).natAbs then (a.1 + rayK (b.1 - a.1).natAbs (b.2 - a.2).natAbs i * sg (b.1 - a.1), a.2 + i * sg (b.2 - a.2)) else (a.1 + i * sg (b.1 - a.1), a.2 + rayK (b.2 - a.2).natAbs (b.1 - a.1).natAbs i * sg (b.2 - a.2)) := by
    have hn : (ofW a b).n = if (b.1 - a.1).natAbs < (b.2 - a.2).natAbs then (b.2 - a.2).natAbs else (b.1 - a.1).natAbs := by unfold ofW; split <;> rfl
    unfold ray23
    by_cases c : (b.1 - a.1).natAbs = 0 ∧ (b.2 - a.2).natAbs = 0
    · rw [if_pos c, if_pos (by rw [hn]; split <;> omega)]
    · rw [if_neg c, if_neg (by rw [hn]; split <;> omega)]
      rfl
  rw [hr]
  unfold canC at ha hb
  have h1 := fun R' => sSize23 (b.1 - a.1) (by omega) R'
  have h2 := fun R' => sSize23 (b.2 - a.2) (by omega) R'
  have b1 : (b.1 - a.1).natAbs ≤ 1024 := by omega
  have b2 : (b.2 - a.2).natAbs ≤ 1024 := by omega
  have t1 := fun k (hk : k ≤ 4096) R' => sToward a.1 b.1 k (by omega) R'
  have t2 := fun k (hk : k ≤ 4096) R' => sToward a.2 b.2 k (by omega) R'
  generalize sg (b.1 - a.1) = sx at *
  generalize sg (b.2 - a.2) = sy at *
  generalize (b.1 - a.1).natAbs = dx at *
  generalize (b.2 - a.2).natAbs = dy at *
  clear hr
  have hp1 : 2 * i * dx ≤ 2 * 1024 * 1024 := Nat.mul_le_mul (by omega) b1
  have hp2 : 2 * i * dy ≤ 2 * 1024 * 1024 := Nat.mul_le_mul (by omega) b2
  have kx : dx ≤ dy → 0 < dy → rayK dx dy i ≤ 1024 := fun h h' => Nat.le_trans (rayK_le h h') hi
  have ky : dy ≤ dx → 0 < dx → rayK dy dx i ≤ 1024 := fun h h' => Nat.le_trans (rayK_le h h') hi
  have q1 : (2 * (i : Int) * (dx : Int) + (dy : Int)).tdiv (2 * (dy : Int)) = ((rayK dx dy i : Nat) : Int) := by
    have e1 : 2 * (i : Int) * (dx : Int) + (dy : Int) = ((2 * i * dx + dy : Nat) : Int) := by simp
    have e2 : 2 * (dy : Int) = ((2 * dy : Nat) : Int) := by simp
    rw [e1, e2]
    exact Int.ofNat_tdiv _ _
  have q2 : (2 * (i : Int) * (dy : Int) + (dx : Int)).tdiv (2 * (dx : Int)) = ((rayK dy dx i : Nat) : Int) := by
    have e1 : 2 * (i : Int) * (dy : Int) + (dx : Int) = ((2 * i * dy + dx : Nat) : Int) := by simp
    have e2 : 2 * (dx : Int) = ((2 * dx : Nat) : Int) := by simp
    rw [e1, e2]
    exact Int.ofNat_tdiv _ _
  have z1 : 2 * (i : Int) * (dx : Int) = ((2 * i * dx : Nat) : Int) := by simp
  have z2 : 2 * (i : Int) * (dy : Int) = ((2 * i * dy : Nat) : Int) := by simp
  refine fn_of_run0 true Try.func133 rfl hmix rfl fun w0 => ?_
  conv => whnf
  refine ⟨trivial, RegAt.quiet hmix (by kernel_rfl) ?_⟩
  conv => whnf
  refine ⟨(by (repeat' apply And.intro) <;> first | exact True.intro | (unfold rng; omega) | omega), CallQ.pure (fun R' hR' => h1 R') ?_⟩
  conv => whnf
  refine ⟨(by (repeat' apply And.intro) <;> first | exact True.intro | (unfold rng; omega) | omega), CallQ.pure (fun R' hR' => h2 R') ?_⟩
  conv => whnf
  refine ⟨trivial, ?_⟩
  conv => whnf
  refine ⟨fun h => ?_, fun h => ?_⟩
  · have g1 : dx = 0 := by have := of_decide_eq_true h; omega
    conv => whnf
    refine ⟨fun h => ?_, fun h => ?_⟩
    · have g2 : dy = 0 := by have := of_decide_eq_true h; omega
      rw [if_pos ⟨g1, g2⟩]
      conv => whnf
      exact ⟨trivial, fin_drop rfl⟩
    · have g2 : ¬ dy = 0 := by have := of_decide_eq_false h; omega
      rw [if_neg (fun c => g2 c.2)]
      conv => whnf
      refine ⟨fun h => ?_, fun h => ?_⟩
      · have g3 : dy ≤ dx := by have := of_decide_eq_true h; omega
        have k := ky g3 (by omega)
        rw [if_neg (by omega)]
        conv => whnf
        refine ⟨trivial, RegAt.tail 21 hmix (by kernel_rfl) ?_⟩
        conv => whnf
        refine ⟨(by (repeat' apply And.intro) <;> first | exact True.intro | (unfold rng; omega) | omega), CallQ.pure (fun R' hR' => t1 i (by omega) R') ?_⟩
        conv => whnf
        rw [q2, z2, IntWalk.i64_in ((rayK dy dx i : Nat) : Int) (by omega)]
        generalize 2 * i * dy = p at *
        refine ⟨(by (repeat' apply And.intro) <;> first | exact True.intro | (unfold rng; omega) | omega), CallQ.pure (fun R' hR' => t2 (rayK dy dx i) (by omega) R') ?_⟩
        conv => whnf
        refine ⟨trivial, ?_⟩
        conv => whnf
        exact ⟨trivial, fin_drop rfl⟩
      · have g3 : dx < dy := by have := of_decide_eq_false h; omega
        have k := kx (by omega) (by omega)
        rw [if_pos g3]
        conv => whnf
        refine ⟨trivial, RegAt.tail 21 hmix (by kernel_rfl) ?_⟩
        conv => whnf
        rw [q1, z1, IntWalk.i64_in ((rayK dx dy i : Nat) : Int) (by omega)]
        generalize 2 * i * dx = p at *
        refine ⟨(by (repeat' apply And.intro) <;> first | exact True.intro | (unfold rng; omega) | omega), CallQ.pure (fun R' hR' => t1 (rayK dx dy i) (by omega) R') ?_⟩
        conv => whnf
        refine ⟨trivial, CallQ.pure (fun R' hR' => t2 i (by omega) R') ?_⟩
        conv => whnf
        refine ⟨trivial, ?_⟩
        conv => whnf
        exact ⟨trivial, fin_drop rfl⟩
  · have g1 : ¬ dx = 0 := by have := of_decide_eq_false (p := (dx : Int) = 0) (by simpa using h); omega
    rw [if_neg (fun c => g1 c.1)]
    conv => whnf
    refine ⟨fun h => ?_, fun h => ?_⟩
    · have g3 : dy ≤ dx := by have := of_decide_eq_true h; omega
      have k := ky g3 (by omega)
      rw [if_neg (by omega)]
      conv => whnf
      refine ⟨trivial, RegAt.tail 21 hmix (by kernel_rfl) ?_⟩
      conv => whnf
      refine ⟨(by (repeat' apply And.intro) <;> first | exact True.intro | (unfold rng; omega) | omega), CallQ.pure (fun R' hR' => t1 i (by omega) R') ?_⟩
      conv => whnf
      rw [q2, z2, IntWalk.i64_in ((rayK dy dx i : Nat) : Int) (by omega)]
      generalize 2 * i * dy = p at *
      refine ⟨(by (repeat' apply And.intro) <;> first | exact True.intro | (unfold rng; omega) | omega), CallQ.pure (fun R' hR' => t2 (rayK dy dx i) (by omega) R') ?_⟩
      conv => whnf
      refine ⟨trivial, ?_⟩
      conv => whnf
      exact ⟨trivial, fin_drop rfl⟩
    · have g3 : dx < dy := by have := of_decide_eq_false h; omega
      have k := kx (by omega) (by omega)
      rw [if_pos g3]
      conv => whnf
      refine ⟨trivial, RegAt.tail 21 hmix (by kernel_rfl) ?_⟩
      conv => whnf
      rw [q1, z1, IntWalk.i64_in ((rayK dx dy i : Nat) : Int) (by omega)]
      generalize 2 * i * dx = p at *
      refine ⟨(by (repeat' apply And.intro) <;> first | exact True.intro | (unfold rng; omega) | omega), CallQ.pure (fun R' hR' => t1 (rayK dx dy i) (by omega) R') ?_⟩
      conv => whnf
      refine ⟨trivial, CallQ.pure (fun R' hR' => t2 i (by omega) R') ?_⟩
      conv => whnf
      refine ⟨trivial, ?_⟩
      conv => whnf
      exact ⟨trivial, fin_drop rfl⟩
end Go.Proofs.Ytlplbgbnojibmaa

/-
  The document's view: May, Hider, In, From.
-/
namespace Go.Proofs.Ytlplbgbnojibmaa
open Go.RowKit
open Sy
set_option linter.unusedVariables false
set_option linter.unusedSimpArgs false
set_option maxRecDepth 100000
set_option maxHeartbeats 4000000

def may25 (W H : Nat) (a b : P2) (ha hb : Int) : Int := if ¬ inG W H a then 4 else if ¬ inG W H b then 4 else if ¬ (hiP ha ∧ hiP hb) then 8 else 0
theorem sMay25 {R : HP} {A : Option Addr} {k c W H : Nat} {l : List Int} (hv : Vs R A k l) (hk : W * H = k) (hW : W ≤ 1024) (hH : H ≤ 1024) (a b : P2) (ha hb : Int) :
    PureR Try.prog R 87 [modV W H A k c, c2 a, .int .i64 ha, c2 b, .int .i64 hb] (.int .i64 (may25 W H a b ha hb)) := by
  have h1 := fun (R' : HP) (hR' : ∀ w, Sat R' w → Sat R w) => sMAt (R := R') (c := c) (hv.mono hR') hk hW hH a
  have h2 := fun (R' : HP) (hR' : ∀ w, Sat R' w → Sat R w) => sMAt (R := R') (c := c) (hv.mono hR') hk hW hH b
  unfold may25
  generalize atM W H l a = va at *
  generalize atM W H l b = vb at *
  by_cases ga : inG W H a
  · rw [if_neg (Classical.not_not.2 ga)]
    have ea : atE W H a = 0 := if_pos ga
    rw [ea] at h1
    by_cases gb : inG W H b
    · rw [if_neg (Classical.not_not.2 gb)]
      have eb : atE W H b = 0 := if_pos gb
      rw [eb] at h2
      unfold hiP
      refine fn_of_run0 false Try.func87 rfl hmix rfl fun w0 => ?_
      conv => whnf
      refine ⟨trivial, CallAt.pure (fun R' hR' => h1 R' hR') ?_⟩
      conv => whnf
      refine ⟨trivial, CallAt.pure (fun R' hR' => h2 R' hR') ?_⟩
      conv => whnf
      repeat (first | (refine ⟨fun _ => ?_, fun h => absurd h (by decide)⟩; conv => whnf) | (refine ⟨fun h => absurd h (by decide), fun _ => ?_⟩; conv => whnf))
      refine ⟨fun q1 => ?_, fun q1 => ?_⟩
      · have q1 := of_decide_eq_false q1
        conv => whnf
        refine ⟨fun q2 => ?_, fun q2 => ?_⟩
        · have q2 := of_decide_eq_false q2
          conv => whnf
          refine ⟨fun q3 => ?_, fun q3 => ?_⟩
          · have q3 := of_decide_eq_false q3
            conv => whnf
            refine ⟨fun q4 => ?_, fun q4 => ?_⟩
            · have q4 := of_decide_eq_true q4
              rw [if_pos (by omega)]
              conv => whnf
              exact ⟨trivial, fin_drop rfl⟩
            · have q4 := of_decide_eq_false q4
              rw [if_neg (by omega)]
              conv => whnf
              exact ⟨trivial, fin_drop rfl⟩
          · have q3 := of_decide_eq_true (p := hb < 0) (by simpa using q3)
            rw [if_pos (by omega)]
            conv => whnf
            exact ⟨trivial, fin_drop rfl⟩
        · have q2 := of_decide_eq_true (p := 1048576 < ha) (by simpa using q2)
          rw [if_pos (by omega)]
          conv => whnf
          exact ⟨trivial, fin_drop rfl⟩
      · have q1 := of_decide_eq_true (p := ha < 0) (by simpa using q1)
        rw [if_pos (by omega)]
        conv => whnf
        exact ⟨trivial, fin_drop rfl⟩
    · rw [if_pos gb]
      have eb : atE W H b = 4 := if_neg gb
      rw [eb] at h2
      refine fn_of_run0 false Try.func87 rfl hmix rfl fun w0 => ?_
      conv => whnf
      refine ⟨trivial, CallAt.pure (fun R' hR' => h1 R' hR') ?_⟩
      conv => whnf
      refine ⟨trivial, CallAt.pure (fun R' hR' => h2 R' hR') ?_⟩
      conv => whnf
      repeat (first | (refine ⟨fun _ => ?_, fun h => absurd h (by decide)⟩; conv => whnf) | (refine ⟨fun h => absurd h (by decide), fun _ => ?_⟩; conv => whnf))
      exact ⟨trivial, fin_drop rfl⟩
  · rw [if_pos ga]
    have ea : atE W H a = 4 := if_neg ga
    rw [ea] at h1
    refine fn_of_run0 false Try.func87 rfl hmix rfl fun w0 => ?_
    conv => whnf
    refine ⟨trivial, CallAt.pure (fun R' hR' => h1 R' hR') ?_⟩
    conv => whnf
    refine ⟨trivial, CallAt.pure (fun R' hR' => h2 R' hR') ?_⟩
    conv => whnf
    repeat (first | (refine ⟨fun _ => ?_, fun h => absurd h (by decide)⟩; conv => whnf) | (refine ⟨fun h => absurd h (by decide), fun _ => ?_⟩; conv => whnf))
    exact ⟨trivial, fin_drop rfl⟩
theorem sMay27 {R : HP} {A : Option Addr} {k c W H : Nat} {l : List Int} (hv : Vs R A k l) (hk : W * H = k) (hW : W ≤ 1024) (hH : H ≤ 1024) (a : P2) (ha hb n : Int) :
    PureR Try.prog R 31 [modV W H A k c, c2 a, .int .i64 ha, .int .i64 hb, .int .i64 n] (.int .i64 (viewE W H a ha hb n)) := by
  have h1 := fun (R' : HP) (hR' : ∀ w, Sat R' w → Sat R w) => sMay25 (R := R') (c := c) (hv.mono hR') hk hW hH a a ha hb
  have e : viewE W H a ha hb n = if may25 W H a a ha hb ≠ 0 then may25 W H a a ha hb else nearC n := by
    unfold viewE may25
    by_cases ga : inG W H a
    · by_cases gh : hiP ha ∧ hiP hb
      · simp [ga, gh]
      · simp [ga, gh]
    · simp [ga]
  rw [e]
  generalize may25 W H a a ha hb = m at *
  refine fn_of_run0 false Try.func31 rfl hmix rfl fun w0 => ?_
  conv => whnf
  refine ⟨trivial, CallAt.pure (fun R' hR' => h1 R' hR') ?_⟩
  conv => whnf
  refine ⟨fun q => ?_, fun q => ?_⟩
  · have q : m ≠ 0 := by simpa using q
    rw [if_pos q]
    conv => whnf
    exact ⟨trivial, fin_drop rfl⟩
  · have q : m = 0 := by simpa using q
    rw [if_neg (fun c => c q)]
    unfold nearC
    conv => whnf
    refine ⟨fun q1 => ?_, fun q1 => ?_⟩
    · have q1 := of_decide_eq_false q1
      conv => whnf
      refine ⟨fun q2 => ?_, fun q2 => ?_⟩
      · have q2 := of_decide_eq_true q2
        rw [if_pos (by omega)]
        conv => whnf
        exact ⟨trivial, fin_drop rfl⟩
      · have q2 := of_decide_eq_false q2
        rw [if_neg (by omega)]
        conv => whnf
        exact ⟨trivial, fin_drop rfl⟩
    · have q1 := of_decide_eq_true (p := n < 0) (by simpa using q1)
      rw [if_pos (by omega)]
      conv => whnf
      exact ⟨trivial, fin_drop rfl⟩
/-- the document's question: is the row clear? -/
def sees25 (W : Nat) (l : List Int) (a b : P2) (ha hb : Int) : Bool := decide (seesP (gv W l (nat2 a).1 (nat2 a).2 + ha) (gv W l (nat2 b).1 (nat2 b).2 + hb) (ofW a b).n fun j => gv W l (rayQ a b j).1 (rayQ a b j).2)
theorem mul_rngV {d n : Int} (hd : -8589934592 ≤ d ∧ d ≤ 8589934592) (hn : 0 ≤ n ∧ n ≤ 1024) : -8796093022208 ≤ d * n ∧ d * n ≤ 8796093022208 := by
  have h1 := Int.mul_le_mul_of_nonneg_right hd.1 hn.1
  have h2 := Int.mul_le_mul_of_nonneg_right hd.2 hn.1
  omega
theorem sHider {R : HP} {A : Option Addr} {k c W H : Nat} {l : List Int} (hv : Vs R A k l) (hk : W * H = k) (hW : 1 ≤ W ∧ W ≤ 1024) (hH : 1 ≤ H ∧ H ≤ 1024) (hm : ∀ x y, x < W → y < H → MayV (gv W l x y)) {a b : P2} (ga : inG W H a) (gb : inG W H b) {ha hb : Int} (h1 : hiP ha) (h2 : hiP hb) :
    FnR Try.prog R 94 [modV W H A k c, c2 a, .int .i64 ha, c2 b, .int .i64 hb] [] fun r hs => hs = [] ∧ ∃ x y : Int, r = .tuple #[cellV x y, .bool (!sees25 W l a b ha hb)] := by
  have hat := fun (p : P2) (R' : HP) (hR' : ∀ w, Sat R' w → Sat R w) => sMAt (R := R') (c := c) (hv.mono hR') hk hW.2 hH.2 p
  have hok : ∀ p, inG W H p → atM W H l p = gv W l (nat2 p).1 (nat2 p).2 ∧ atE W H p = 0 ∧ MayV (gv W l (nat2 p).1 (nat2 p).2) := fun p hp => by
    refine ⟨if_pos hp, if_pos hp, hm _ _ ?_ ?_⟩ <;> (unfold inG at hp; unfold nat2; simp only; omega)
  have hca : canC a := by unfold inG at ga; unfold canC; omega
  have hcb : canC b := by unfold inG at gb; unfold canC; omega
  have hn := ofW_n hca hcb
  have hl := fun R' => sLen23 a b hca hcb R'
  have hrow := fun j (hj : j ≤ (ofW a b).n) => row_inG ga gb hj
  have hr23 := fun i (hi : i ≤ 1024) R' => sAt23 a b i hca hcb hi R'
  have hre := fun i (hi : i ≤ (ofW a b).n) => ray23_row hi
  unfold sees25 rayQ
  have hA := hat a
  have hB := hat b
  rw [(hok a ga).1, (hok a ga).2.1] at hA
  rw [(hok b gb).1, (hok b gb).2.1] at hB
  have ma := (hok a ga).2.2
  have mb := (hok b gb).2.2
  generalize gv W l (nat2 a).1 (nat2 a).2 = p at *
  generalize gv W l (nat2 b).1 (nat2 b).2 = q at *
  have hC : ∀ i, i ≤ (ofW a b).n → (∀ (R' : HP) (hR' : ∀ w, Sat R' w → Sat R w), PureR Try.prog R' 38 [modV W H A k c, c2 (ray23 a b i)] (.tuple #[.int .i64 (gv W l (nat2 (rowSt (ofW a b) a i).1).1 (nat2 (rowSt (ofW a b) a i).1).2), .int .i64 0])) ∧ MayV (gv W l (nat2 (rowSt (ofW a b) a i).1).1 (nat2 (rowSt (ofW a b) a i).1).2) := fun i hi => by
    have h := hok _ (hrow i hi)
    refine ⟨fun R' hR' => ?_, h.2.2⟩
    rw [← h.1, ← h.2.1, ← hre i hi]
    exact hat _ R' hR'
  clear hat hok hre hrow
  obtain ⟨V, hV⟩ : ∃ V : Nat → Int, ∀ j, gv W l (nat2 (rowSt (ofW a b) a j).1).1 (nat2 (rowSt (ofW a b) a j).1).2 = V j := ⟨_, fun _ => rfl⟩
  simp only [hV] at hC ⊢
  clear hV
  generalize (ofW a b).n = N at *
  generalize ray23 a b = ry at *
  unfold hiP at h1 h2
  unfold MayV at ma mb
  have hno : ∀ i, 1 ≤ i → i < N → hidB (p + ha) (q + hb) N (V i) i → ¬ seesP (p + ha) (q + hb) N V := fun i h1 h2 h c => c i h2 h1 h
  refine fn_of_run0 false Try.func94 rfl hmix rfl fun w0 => ?_
  conv => whnf
  refine ⟨trivial, CallAt.pure (fun R' hR' => hA R' hR') ?_⟩
  conv => whnf
  refine ⟨trivial, CallAt.pure (fun R' hR' => hB R' hR') ?_⟩
  conv => whnf
  refine ⟨trivial, CallAt.pure (fun R' hR' => hl R') ?_⟩
  conv => whnf
  refine ⟨trivial, LoopAt.keep (α := Nat) [2, 4, 5, 6, 8, 10, 12, 14, 16] (fun i => [(17, .v (.int .i64 (i : Int)))]) (fun i => 1 ≤ i ∧ i ≤ N + 1 ∧ ∀ j, 1 ≤ j → j < i → ¬ hidB (p + ha) (q + hb) N (V j) j) (fun i => N + 1 - i) 1 ⟨Nat.le_refl _, by omega, fun j h1 h2 => absurd h2 (by omega)⟩ rfl ⟨⟨rfl, rfl⟩, trivial⟩ ⟨⟨rfl, rfl⟩, ⟨rfl, rfl⟩, ⟨rfl, rfl⟩, ⟨rfl, rfl⟩, ⟨rfl, rfl⟩, ⟨rfl, rfl⟩, ⟨rfl, rfl⟩, ⟨rfl, rfl⟩, ⟨rfl, rfl⟩, trivial⟩ ⟨⟨rfl, rfl, rfl, rfl⟩, ⟨rfl, rfl, rfl, rfl⟩, ⟨rfl, rfl, rfl, rfl⟩, ⟨rfl, rfl, rfl, rfl⟩, trivial⟩ ?_⟩
  rintro i ⟨i1, i2, i3⟩
  conv => whnf
  refine ⟨fun h => ?_, fun h => ?_⟩
  · have hi : i < N := by have := of_decide_eq_true h; omega
    obtain ⟨hC1, hC2⟩ := hC i (by omega)
    have hiff : hidB (p + ha) (q + hb) N (V i) i ↔ (q + hb - p - ha) * (i : Int) < (V i - p - ha) * (N : Int) := by
      unfold hidB
      rw [show q + hb - (p + ha) = q + hb - p - ha by omega, show V i - (p + ha) = V i - p - ha by omega]
    have hni := hno i i1 hi
    unfold MayV at hC2
    generalize hvi : V i = v at *
    have m1 := mul_rngV (d := q + hb - p - ha) (n := i) (by omega) (by omega)
    have m2 := mul_rngV (d := v - p - ha) (n := N) (by omega) (by omega)
    have h23 := fun R' => hr23 i (by omega) R'
    generalize ry i = c at *
    conv => whnf
    refine ⟨trivial, CallAt.pure (fun R' hR' => h23 R') ?_⟩
    conv => whnf
    refine ⟨trivial, CallAt.pure (fun R' hR' => hC1 R' hR') ?_⟩
    conv => whnf
    generalize (q + hb - p - ha) * (i : Int) = x at *
    generalize (v - p - ha) * (N : Int) = y at *
    refine ⟨fun g => ?_, fun g => ?_⟩
    · have g1 := hiff.2 (of_decide_eq_true g)
      conv => whnf
      refine ⟨(by (repeat' apply And.intro) <;> first | exact True.intro | (unfold rng; omega) | omega), .mk [] (fun w s => s.rest) ⟨rfl, c.1, c.2, ?_⟩⟩
      rw [decide_eq_false (hni g1)]
      rfl
    · have g1 : ¬ hidB (p + ha) (q + hb) N v i := fun c => of_decide_eq_false g (hiff.1 c)
      conv => whnf
      refine ⟨(by (repeat' apply And.intro) <;> first | exact True.intro | (unfold rng; omega) | omega), .keep (i + 1) ⟨by omega, by omega, fun j d1 d2 => ?_⟩ (by omega) ⟨⟨rfl, rfl⟩, trivial⟩ ⟨⟨rfl, rfl⟩, ⟨rfl, rfl⟩, ⟨rfl, rfl⟩, ⟨rfl, rfl⟩, ⟨rfl, rfl⟩, ⟨rfl, rfl⟩, ⟨rfl, rfl⟩, ⟨rfl, rfl⟩, ⟨rfl, rfl⟩, trivial⟩ ⟨⟨rfl, rfl, rfl, rfl⟩, ⟨rfl, rfl, rfl, rfl⟩, ⟨rfl, rfl, rfl, rfl⟩, ⟨rfl, rfl, rfl, rfl⟩, trivial⟩ rfl rfl rfl⟩
      rcases Nat.lt_or_ge j i with d3 | d3
      · exact i3 j d1 d3
      · have d4 : j = i := by omega
        rw [d4, hvi]
        exact g1
  · have hi : N ≤ i := by have := of_decide_eq_false h; omega
    conv => whnf
    refine ⟨trivial, .mk [] (fun w s => s.rest) ⟨rfl, 0, 0, ?_⟩⟩
    rw [decide_eq_true (show seesP (p + ha) (q + hb) N V from fun j d1 d2 => i3 j d2 (by omega))]
    rfl
def nearB (a : P2) (n : Int) (c : P2) : Prop := c.1 - a.1 ≤ n ∧ a.1 - c.1 ≤ n ∧ c.2 - a.2 ≤ n ∧ a.2 - c.2 ≤ n
instance (a : P2) (n : Int) (c : P2) : Decidable (nearB a n c) := by unfold nearB; infer_instance
theorem sIn27 {R : HP} {A : Option Addr} {k c W H : Nat} {l : List Int} (hv : Vs R A k l) (hk : W * H = k) (hW : 1 ≤ W ∧ W ≤ 1024) (hH : 1 ≤ H ∧ H ≤ 1024) (hm : ∀ x y, x < W → y < H → MayV (gv W l x y)) {a b : P2} (ga : inG W H a) (gb : inG W H b) {ha hb : Int} (n : Int) (h1 : hiP ha) (h2 : hiP hb) :
    PureR Try.prog R 39 [modV W H A k c, c2 a, .int .i64 ha, .int .i64 hb, .int .i64 n, c2 b] (.bool (decide (nearB a n b) && sees25 W l a b ha hb)) := by
  have hh := fun (R' : HP) (hR' : ∀ w, Sat R' w → Sat R w) => sHider (R := R') (c := c) (hv.mono hR') hk hW hH hm ga gb h1 h2
  generalize sees25 W l a b ha hb = s at *
  unfold inG at ga gb
  refine fn_of_run0 false Try.func39 rfl hmix rfl fun w0 => ?_
  conv => whnf
  refine ⟨fun q1 => ?_, fun q1 => ?_⟩
  · have q1 := of_decide_eq_false q1
    conv => whnf
    refine ⟨fun q2 => ?_, fun q2 => ?_⟩
    · have q2 := of_decide_eq_false q2
      conv => whnf
      refine ⟨fun q3 => ?_, fun q3 => ?_⟩
      · have q3 := of_decide_eq_false q3
        conv => whnf
        refine ⟨fun q4 => ?_, fun q4 => ?_⟩
        · have q4 := of_decide_eq_true q4
          rw [decide_eq_false (show ¬ nearB a n b by unfold nearB; omega)]
          conv => whnf
          exact ⟨(by (repeat' apply And.intro) <;> first | exact True.intro | (unfold rng; omega) | omega), fin_drop rfl⟩
        · have q4 := of_decide_eq_false q4
          rw [decide_eq_true (show nearB a n b by unfold nearB; omega)]
          conv => whnf
          refine ⟨(by (repeat' apply And.intro) <;> first | exact True.intro | (unfold rng; omega) | omega), CallAt.fn (pre := []) [] (fun h s => s) (fun R' hR' => hh R' hR') ?_⟩
          rintro v hs ⟨rfl, x, y, rfl⟩
          conv => whnf
          refine ⟨trivial, fin_drop ?_⟩
          cases s <;> rfl
      · have q3 := of_decide_eq_true (p := n < b.2 - a.2) (by simpa using q3)
        rw [decide_eq_false (show ¬ nearB a n b by unfold nearB; omega)]
        conv => whnf
        exact ⟨(by (repeat' apply And.intro) <;> first | exact True.intro | (unfold rng; omega) | omega), fin_drop rfl⟩
    · have q2 := of_decide_eq_true (p := n < a.1 - b.1) (by simpa using q2)
      rw [decide_eq_false (show ¬ nearB a n b by unfold nearB; omega)]
      conv => whnf
      exact ⟨(by (repeat' apply And.intro) <;> first | exact True.intro | (unfold rng; omega) | omega), fin_drop rfl⟩
  · have q1 := of_decide_eq_true (p := n < b.1 - a.1) (by simpa using q1)
    rw [decide_eq_false (show ¬ nearB a n b by unfold nearB; omega)]
    conv => whnf
    exact ⟨(by (repeat' apply And.intro) <;> first | exact True.intro | (unfold rng; omega) | omega), fin_drop rfl⟩
end Go.Proofs.Ytlplbgbnojibmaa

/-
  The document's From; that it is the program's; a grid risen; the law ViewFrom.
-/
namespace Go.Proofs.Ytlplbgbnojibmaa
open Go.RowKit
open Sy
set_option linter.unusedVariables false
set_option linter.unusedSimpArgs false
set_option maxRecDepth 100000
set_option maxHeartbeats 4000000

def rowF (p : Nat × Nat → Bool) (y x : Nat) : List (Nat × Nat) := ((List.range x).map fun i => (i, y)).filter p
def rowsF (p : Nat × Nat → Bool) (W y : Nat) : List (Nat × Nat) := (List.range y).flatMap fun j => rowF p j W
theorem rowF_yes {p : Nat × Nat → Bool} {y x : Nat} (h : p (x, y) = true) : rowF p y (x + 1) = rowF p y x ++ [(x, y)] := by simp [rowF, List.range_succ, List.filter_append, h]
theorem rowF_no {p : Nat × Nat → Bool} {y x : Nat} (h : p (x, y) = false) : rowF p y (x + 1) = rowF p y x := by simp [rowF, List.range_succ, List.filter_append, h]
theorem rowsF_succ (p : Nat × Nat → Bool) (W y : Nat) : rowsF p W (y + 1) = rowsF p W y ++ rowF p y W := by simp [rowsF, List.range_succ]
theorem rowF_len (p : Nat × Nat → Bool) (y x : Nat) : (rowF p y x).length ≤ x := by
  unfold rowF
  refine Nat.le_trans (List.length_filter_le _ _) ?_
  simp
theorem rowsF_len (p : Nat × Nat → Bool) (W y : Nat) : (rowsF p W y).length ≤ y * W := by
  induction y with
  | zero => simp [rowsF]
  | succ y ih =>
    rw [rowsF_succ, List.length_append, Nat.add_mul, Nat.one_mul]
    have := rowF_len p y W
    omega
/-- in a view -/
def inV (W : Nat) (l : List Int) (a : P2) (ha hb n : Int) (c : Nat × Nat) : Bool := decide (nearB a n ((c.1 : Int), (c.2 : Int))) && sees25 W l a ((c.1 : Int), (c.2 : Int)) ha hb
theorem sFrom27 {R : HP} {A : Option Addr} {k c W H : Nat} {l : List Int} (hv : Vs R A k l) (hk : W * H = k) (hW : 1 ≤ W ∧ W ≤ 1024) (hH : 1 ≤ H ∧ H ≤ 1024) (hm : ∀ x y, x < W → y < H → MayV (gv W l x y)) {a : P2} (ga : inG W H a) {ha hb : Int} (n : Int) (h1 : hiP ha) (h2 : hiP hb) :
    FnR Try.prog R 36 [modV W H A k c, c2 a, .int .i64 ha, .int .i64 hb, .int .i64 n] [] fun r hs => ∃ B d, r = .slice B (rowsF (inV W l a ha hb n) W H).length d ∧ hs = [cRow B (rowsF (inV W l a ha hb n) W H).length d (rowsF (inV W l a ha hb n) W H)] := by
  have hin : ∀ (R' : HP) (hR' : ∀ w, Sat R' w → Sat R w) (x y : Nat) (hx : x < W) (hy : y < H), PureR Try.prog R' 39 [modV W H A k c, c2 a, .int .i64 ha, .int .i64 hb, .int .i64 n, cellV (x : Int) (y : Int)] (.bool (inV W l a ha hb n (x, y))) := fun R' hR' x y hx hy =>
    sIn27 (R := R') (c := c) (hv.mono hR') hk hW hH hm ga (b := ((x : Int), (y : Int))) (by unfold inG; simp only; omega) n h1 h2
  generalize inV W l a ha hb n = p at *
  have hyes := fun y x => @rowF_yes p y x
  have hno := fun y x => @rowF_no p y x
  have hs := rowsF_succ p W
  have l1 := rowF_len p
  have l2 := rowsF_len p W
  have z1 : rowsF p W 0 = [] := rfl
  have z2 : ∀ y, rowF p y 0 = [] := fun y => rfl
  generalize rowF p = rF at *
  generalize rowsF p W = rsF at *
  refine fn_of_run0 false Try.func36 rfl hmix rfl fun w0 => ?_
  conv => whnf
  refine ⟨trivial, OpAt.lit [] 2 rfl rfl rfl rfl rfl (by decide) rfl rfl rfl (by simp) rfl (by decide) fun g => ?_⟩
  conv => whnf
  refine ⟨trivial, LoopAt.of (α := Nat × Option Addr × Nat) [2, 3, 4, 5, 6] (fun a => [(11, .v (.slice a.2.1 (rsF a.1).length a.2.2)), (12, .v (.int .i64 (a.1 : Int)))])
    (fun _ => [(1, 35, [.v (.int .i64 a.1), .v (.int .i64 a.2)]), (0, 43, [.v (.int .i64 (W : Int)), .v (.int .i64 (H : Int)), .v (.slice A k c)])])
    (fun a => [cRow a.2.1 (rsF a.1).length a.2.2 (rsF a.1)]) (fun a => a.1 ≤ H) (fun a => H - a.1) (0, some ⟨g, 0, none⟩, 0) (Nat.zero_le _)
    (Le.of (Nat.le_of_ble_eq_true rfl) (Nat.zero_le _) ⟨⟨?_, rfl⟩, ⟨rfl, rfl⟩, ⟨rfl, rfl⟩, ⟨rfl, rfl⟩, ⟨rfl, rfl⟩, ⟨rfl, rfl⟩, ⟨rfl, rfl⟩, trivial⟩ ⟨⟨rfl, rfl, rfl, rfl⟩, ⟨rfl, rfl, rfl, rfl⟩, trivial⟩ fun h s => ?_) ?_⟩
  · show _ = some (SV.v (.slice (some ⟨g, 0, none⟩) (rsF 0).length 0))
    rw [z1]; rfl
  · show ∃ h', _ ∧ sepL [cRow (some ⟨g, 0, none⟩) (rsF 0).length 0 (rsF 0)] _ h'
    rw [z1]
    exact sub_same s
  rintro ⟨y, B, d⟩ hy
  simp only at hy
  conv => whnf
  refine ⟨fun h => ?_, fun h => ?_⟩
  · have hy2 : y < H := by have := of_decide_eq_true h; omega
    have hl2 := l2 y
    have hyW : y * W ≤ 1024 * 1024 := Nat.mul_le_mul (by omega) hW.2
    conv => whnf
    refine ⟨trivial, LoopAt.of (α := Nat × Option Addr × Nat) [2, 3, 4, 5, 6, 12] (fun a => [(11, .v (.slice a.2.1 (rsF y ++ rF y a.1).length a.2.2)), (13, .v (.int .i64 (a.1 : Int)))])
      (fun _ => [(1, 35, [.v (.int .i64 a.1), .v (.int .i64 a.2)]), (0, 43, [.v (.int .i64 (W : Int)), .v (.int .i64 (H : Int)), .v (.slice A k c)])])
      (fun a => [cRow a.2.1 (rsF y ++ rF y a.1).length a.2.2 (rsF y ++ rF y a.1)]) (fun a => a.1 ≤ W) (fun a => W - a.1) (0, B, d) (Nat.zero_le _)
      (Le.of (Nat.le_of_ble_eq_true rfl) (Nat.zero_le _) ⟨⟨?_, rfl⟩, ⟨rfl, rfl⟩, ⟨rfl, rfl⟩, ⟨rfl, rfl⟩, ⟨rfl, rfl⟩, ⟨rfl, rfl⟩, ⟨rfl, rfl⟩, ⟨rfl, rfl⟩, trivial⟩ ⟨⟨rfl, rfl, rfl, rfl⟩, ⟨rfl, rfl, rfl, rfl⟩, trivial⟩ fun h s => ?_) ?_⟩
    · show _ = some (SV.v (.slice B (rsF y ++ rF y 0).length d))
      rw [z2, List.append_nil]; rfl
    · show ∃ h', _ ∧ sepL [cRow B (rsF y ++ rF y 0).length d (rsF y ++ rF y 0)] _ h'
      rw [z2, List.append_nil]
      exact sub_same s
    rintro ⟨x, B, d⟩ hx
    simp only at hx
    have hl1 := l1 y x
    conv => whnf
    refine ⟨fun h => ?_, fun h => ?_⟩
    · have hx2 : x < W := by have := of_decide_eq_true h; omega
      have hlen : (rsF y ++ rF y x).length ≤ 1024 * 1024 + 1024 := by rw [List.length_append]; omega
      conv => whnf
      refine ⟨trivial, CallAt.pure (fun R' hR' => hin R' (fun w s => (hR' w s).rest) x y hx2 hy2) ?_⟩
      conv => whnf
      refine ⟨fun h => ?_, fun h => ?_⟩
      · have hsucc : rsF y ++ rF y (x + 1) = (rsF y ++ rF y x) ++ [(x, y)] := by rw [hyes y x h, List.append_assoc]
        generalize hP : rsF y ++ rF y x = P at *
        generalize hP' : rsF y ++ rF y (x + 1) = P' at *
        conv => whnf
        refine ⟨trivial, OpAt.lit [cellV (x : Int) (y : Int)] 2 rfl rfl rfl rfl rfl (by decide) rfl rfl rfl (by simp [Value.cells]) rfl (by decide) fun g3 => ?_⟩
        conv => whnf
        refine ⟨trivial, OpAt.append (.slice B P.length d) P.length 2 16 (ccel P) (ccel [(x, y)]) (some ⟨g3, 0, none⟩) 1 1 _ rfl (fun h s => sepL_pull 1 s) rfl rfl rfl rfl rfl rfl rfl rfl rfl (by decide) (fun w hw => rowH_reads rfl (Sat.left hw)) (ccel_one _) (by simp only [maxLen]; omega) (by omega) fun A' c' => ?_⟩
        conv => whnf
        refine ⟨⟨trivial, by unfold rng; omega⟩, .mk (x + 1, A', c') hx2 (by simp only; omega) (Le.of (Nat.le_of_ble_eq_true rfl) (Nat.zero_le _) ⟨⟨?_, rfl⟩, ⟨?_, rfl⟩, ⟨rfl, rfl⟩, ⟨rfl, rfl⟩, ⟨rfl, rfl⟩, ⟨rfl, rfl⟩, ⟨rfl, rfl⟩, ⟨rfl, rfl⟩, trivial⟩ ⟨⟨rfl, rfl, rfl, rfl⟩, ⟨rfl, rfl, rfl, rfl⟩, trivial⟩ fun h s => ?_)⟩
        · show _ = some (SV.v (.slice A' (rsF y ++ rF y (x + 1)).length c'))
          rw [hP', hsucc, List.length_append]; rfl
        · show some _ = some _
          congr 3
        · obtain ⟨h', e1, s'⟩ := sub_drop1 s
          refine ⟨h', e1, ?_⟩
          show sepL [cRow A' (rsF y ++ rF y (x + 1)).length c' (rsF y ++ rF y (x + 1))] _ h'
          rw [hP', hsucc, List.length_append]
          unfold cRow
          rw [ccel_append]
          exact s'
      · have hsame := hno y x h
        conv => whnf
        refine ⟨(by (repeat' apply And.intro) <;> first | exact True.intro | (unfold rng; omega) | omega), .mk (x + 1, B, d) hx2 (by simp only; omega) (Le.of (Nat.le_of_ble_eq_true rfl) (Nat.zero_le _) ⟨⟨?_, rfl⟩, ⟨?_, rfl⟩, ⟨rfl, rfl⟩, ⟨rfl, rfl⟩, ⟨rfl, rfl⟩, ⟨rfl, rfl⟩, ⟨rfl, rfl⟩, ⟨rfl, rfl⟩, trivial⟩ ⟨⟨rfl, rfl, rfl, rfl⟩, ⟨rfl, rfl, rfl, rfl⟩, trivial⟩ fun h s => ?_)⟩
        · show _ = some (SV.v (.slice B (rsF y ++ rF y (x + 1)).length d))
          rw [hsame]; rfl
        · show some _ = some _
          congr 3
        · show ∃ h', _ ∧ sepL [cRow B (rsF y ++ rF y (x + 1)).length d (rsF y ++ rF y (x + 1))] _ h'
          rw [hsame]
          exact sub_same s
    · have hx2 : x = W := by have := of_decide_eq_false h; omega
      subst hx2
      conv => whnf
      refine ⟨(by (repeat' apply And.intro) <;> first | exact True.intro | (unfold rng; omega) | omega), .mk (y + 1, B, d) hy2 (by simp only; omega) (Le.of (Nat.le_of_ble_eq_true rfl) (Nat.zero_le _) ⟨⟨?_, rfl⟩, ⟨?_, rfl⟩, ⟨rfl, rfl⟩, ⟨rfl, rfl⟩, ⟨rfl, rfl⟩, ⟨rfl, rfl⟩, ⟨rfl, rfl⟩, trivial⟩ ⟨⟨rfl, rfl, rfl, rfl⟩, ⟨rfl, rfl, rfl, rfl⟩, trivial⟩ fun h s => ?_)⟩
      · show _ = some (SV.v (.slice B (rsF (y + 1)).length d))
        rw [hs]; rfl
      · show some _ = some _
        congr 3
      · show ∃ h', _ ∧ sepL [cRow B (rsF (y + 1)).length d (rsF (y + 1))] _ h'
        rw [hs]
        exact sub_same s
  · have hy2 : y = H := by have := of_decide_eq_false h; omega
    subst hy2
    conv => whnf
    exact ⟨trivial, .mk _ (fun w s => s) ⟨B, d, rfl, rfl⟩⟩
end Go.Proofs.Ytlplbgbnojibmaa

/-
  The program's view is the document's (plain); a grid risen; the law ViewFrom.
-/
namespace Go.Proofs.Ytlplbgbnojibmaa
open Go.RowKit
open Sy
set_option linter.unusedVariables false
set_option linter.unusedSimpArgs false
set_option maxRecDepth 100000
set_option maxHeartbeats 4000000

theorem fm_cut {α : Type} {g : Nat → List α} {y0 y1 : Nat} (h0 : ∀ y, y < y0 → g y = []) (h1 : ∀ y, y1 < y → g y = []) : ∀ H, (List.range H).flatMap g = (List.range (min H (y1 + 1) - y0)).flatMap fun j => g (y0 + j)
  | 0 => by simp
  | H + 1 => by
    have ih := fm_cut h0 h1 H
    rw [List.range_succ, List.flatMap_append, ih]
    rcases Nat.lt_or_ge H y0 with c | c
    · have e1 : min H (y1 + 1) - y0 = 0 := by omega
      have e2 : min (H + 1) (y1 + 1) - y0 = 0 := by omega
      rw [e1, e2]
      simp [h0 H c]
    · rcases Nat.lt_or_ge y1 H with d | d
      · have e1 : min (H + 1) (y1 + 1) - y0 = min H (y1 + 1) - y0 := by omega
        rw [e1]
        simp [h1 H d]
      · have e1 : min (H + 1) (y1 + 1) - y0 = (min H (y1 + 1) - y0) + 1 := by omega
        have e2 : y0 + (min H (y1 + 1) - y0) = H := by omega
        rw [e1, List.range_succ, List.flatMap_append]
        simp [e2]
def one2 (p : Nat × Nat → Bool) (x y : Nat) : List (Nat × Nat) := if p (x, y) then [(x, y)] else []
theorem rowF_fm (p : Nat × Nat → Bool) (y : Nat) : ∀ x, rowF p y x = (List.range x).flatMap fun i => one2 p i y
  | 0 => rfl
  | x + 1 => by
    rw [List.range_succ, List.flatMap_append, ← rowF_fm p y x]
    cases h : p (x, y) with
    | true => rw [rowF_yes h]; simp [one2, h]
    | false => rw [rowF_no h]; simp [one2, h]
theorem vL_row (p : Nat × Nat → Bool) (x0 y0 : Nat) {w : Nat} (h : Nat) : ∀ i, i ≤ w → vL p x0 y0 w (w * h + i) = vL p x0 y0 w (w * h) ++ (List.range i).flatMap fun j => one2 p (x0 + j) (y0 + h)
  | 0, _ => by simp
  | i + 1, hi => by
    have hn : nthC x0 y0 w (w * h + i) = (x0 + i, y0 + h) := by
      unfold nthC
      rw [Nat.mul_add_mod, Nat.mod_eq_of_lt (by omega), Nat.mul_add_div (by omega), Nat.div_eq_of_lt (by omega), Nat.add_zero]
    rw [List.range_succ, List.flatMap_append, ← List.append_assoc, ← vL_row p x0 y0 h i (by omega), ← Nat.add_assoc]
    cases c : p (nthC x0 y0 w (w * h + i)) with
    | true =>
      rw [vL_yes c]
      rw [hn] at c ⊢
      simp [one2, c]
    | false =>
      rw [vL_no c]
      rw [hn] at c
      simp [one2, c]
theorem vL_rows (p : Nat × Nat → Bool) (x0 y0 w : Nat) : ∀ h, vL p x0 y0 w (w * h) = (List.range h).flatMap fun j => (List.range w).flatMap fun i => one2 p (x0 + i) (y0 + j)
  | 0 => rfl
  | h + 1 => by
    rw [Nat.mul_add, Nat.mul_one, vL_row p x0 y0 h w (Nat.le_refl _), vL_rows p x0 y0 w h, List.range_succ, List.flatMap_append]
    simp
/-- the cells of a rectangle, out of all -/
theorem rows_box {p s : Nat × Nat → Bool} {W H x0 y0 x1 y1 : Nat} (hx : x0 ≤ x1) (hx1 : x1 < W) (hy : y0 ≤ y1) (hy1 : y1 < H) (h : ∀ x y, x < W → y < H → p (x, y) = (decide (x0 ≤ x ∧ x ≤ x1 ∧ y0 ≤ y ∧ y ≤ y1) && s (x, y))) :
    rowsF p W H = vL s x0 y0 (x1 - x0 + 1) ((x1 - x0 + 1) * (y1 - y0 + 1)) := by
  rw [vL_rows]
  have hrow : ∀ y, y < H → rowF p y W = if y0 ≤ y ∧ y ≤ y1 then (List.range (x1 - x0 + 1)).flatMap (fun i => one2 s (x0 + i) y) else [] := fun y hyH => by
    rw [rowF_fm]
    have hc : ∀ i ∈ List.range W, one2 p i y = if x0 ≤ i ∧ i ≤ x1 ∧ y0 ≤ y ∧ y ≤ y1 then one2 s i y else [] := fun i hi => by
      have := h i y (List.mem_range.1 hi) hyH
      unfold one2
      rw [this]
      by_cases c : x0 ≤ i ∧ i ≤ x1 ∧ y0 ≤ y ∧ y ≤ y1
      · rw [if_pos c, decide_eq_true c]; simp
      · rw [if_neg c, decide_eq_false c]; simp
    rw [flatMap_congr' hc, fm_cut (y0 := x0) (y1 := x1) (fun i hi => if_neg (by omega)) (fun i hi => if_neg (by omega))]
    have e1 : min W (x1 + 1) - x0 = x1 - x0 + 1 := by omega
    rw [e1]
    by_cases c : y0 ≤ y ∧ y ≤ y1
    · rw [if_pos c]
      exact flatMap_congr' fun i hi => if_pos (by have := List.mem_range.1 hi; omega)
    · rw [if_neg c]
      rw [flatMap_congr' (g := fun _ => []) fun i hi => if_neg (by omega)]
      simp
  have e : rowsF p W H = (List.range H).flatMap fun y => if y0 ≤ y ∧ y ≤ y1 then (List.range (x1 - x0 + 1)).flatMap (fun i => one2 s (x0 + i) y) else [] := flatMap_congr' fun y hyM => hrow y (List.mem_range.1 hyM)
  rw [e, fm_cut (y0 := y0) (y1 := y1) (fun i hi => if_neg (by omega)) (fun i hi => if_neg (by omega))]
  have e1 : min H (y1 + 1) - y0 = y1 - y0 + 1 := by omega
  rw [e1]
  exact flatMap_congr' fun j hj => if_pos (by have := List.mem_range.1 hj; omega)
theorem seesP_congr {u t : Int} {n : Nat} {v v' : Nat → Int} (h : ∀ j, j < n → v j = v' j) : seesP u t n v ↔ seesP u t n v' := by
  unfold seesP
  constructor
  · intro H j h1 h2
    rw [← h j h1]
    exact H j h1 h2
  · intro H j h1 h2
    rw [h j h1]
    exact H j h1 h2
theorem seesC_25 {W H : Nat} {l : List Int} {a : P2} {ha hb : Int} {c : Nat × Nat} (hW : 1 ≤ W) (hH : 1 ≤ H) (ga : inG W H a) (h1 : c.1 < W) (h2 : c.2 < H) : seesC W (Pf W H (gv W l)) a ha hb c = sees25 W l a ((c.1 : Int), (c.2 : Int)) ha hb := by
  have gc : inG W H ((c.1 : Int), (c.2 : Int)) := by unfold inG; simp only; omega
  have hok : ∀ p, inG W H p → (topV W (Pf W H (gv W l)) 0 (nat2 p)).2 = gv W l (nat2 p).1 (nat2 p).2 := fun p hp => by
    unfold inG at hp
    exact topV_zero hW hH (by unfold nat2; simp only; omega) (by unfold nat2; simp only; omega)
  unfold seesC sees25
  rw [hok a ga, show (topV W (Pf W H (gv W l)) 0 c).2 = gv W l c.1 c.2 from topV_zero hW hH h1 h2]
  have e : nat2 ((c.1 : Int), (c.2 : Int)) = c := rfl
  rw [e]
  exact decide_eq_decide.2 (seesP_congr fun j hj => hok _ (row_inG ga gc (by omega)))
theorem view_eq {W H : Nat} {l : List Int} {a : P2} {ha hb n : Int} (hW : 1 ≤ W) (hH : 1 ≤ H) (h : viewE W H a ha hb n = 0) : viewL W H (Pf W H (gv W l)) a ha hb n = rowsF (inV W l a ha hb n) W H := by
  obtain ⟨ga, h1, h2, hn⟩ := viewE_ok h
  obtain ⟨x0, y0, x1, y1, hq, r1, r2, r3, r4⟩ := near_ok (a := a) ga hn
  have hb' : ∀ x y : Nat, x < W → y < H → (nearB a n ((x : Int), (y : Int)) ↔ x0 ≤ x ∧ x ≤ x1 ∧ y0 ≤ y ∧ y ≤ y1) := fun x y hx hy => by
    have hn' : ¬ (n < 0 ∨ 1024 < n) := by
      intro c
      unfold nearC at hn
      rw [if_pos c] at hn
      omega
    unfold nearQ at hq
    rw [if_neg hn'] at hq
    simp only [Q4.mk.injEq] at hq
    unfold inG at ga
    unfold nearB
    simp only
    omega
  unfold viewL
  rw [hq]
  simp only [Int.toNat_natCast]
  rw [rows_box (s := seesC W (Pf W H (gv W l)) a ha hb) r1 r2 r3 r4]
  intro x y hx hy
  unfold inV
  rw [seesC_25 hW hH ga hx hy]
  congr 1
  exact decide_eq_decide.2 (hb' x y hx hy)
theorem sRisen {R : HP} {W H n c : Nat} {A : Option Addr} {l : List Int} (ha : Vs R A n l) (h1 : 1 ≤ W) (h2 : W ≤ 1024) (h3 : 1 ≤ H) (h4 : H ≤ 1024) (hn : W * H = n) (hm : ∀ v ∈ l, MayV v) :
    FnR Try.prog R 32 [.int .i64 W, .int .i64 H, .slice A n c] [] fun r hs => ∃ pb, r = .tuple #[.pointer (some ⟨pb, 0, none⟩), .bool true] ∧ hs = [pyrH pb W H (Pf W H (gv W l))] := by
  refine fn_of_run0 false Try.func32 rfl hmix rfl fun w0 => ?_
  conv => whnf
  refine ⟨trivial, CallAt.fn (pre := []) _ (fun h s => s) (fun R' hR' => sMadeV (ha.mono fun w s => hR' w s) h1 h2 h3 h4 hn hm) ?_⟩
  rintro r hs ⟨gb, rfl, rfl⟩
  conv => whnf
  refine ⟨trivial, CallAt.fn (pre := []) _ (fun h s => s) (fun R' hR' => sBuild (gridAt_rest 0 rfl hR')) ?_⟩
  rintro r hs ⟨pb, rfl, rfl⟩
  conv => whnf
  repeat (first | (refine ⟨fun _ => ?_, fun h => absurd h (by decide)⟩; conv => whnf) | (refine ⟨fun h => absurd h (by decide), fun _ => ?_⟩; conv => whnf))
  refine ⟨trivial, .mk [pyrH pb W H (Pf W H (gv W l))] (fun w ⟨h, hs, s⟩ => ?_) ⟨pb, rfl, rfl⟩⟩
  obtain ⟨h', e, s'⟩ := sub_tail (sepL_pull 1 s)
  exact ⟨h', hs.mono e, s'⟩
end Go.Proofs.Ytlplbgbnojibmaa

