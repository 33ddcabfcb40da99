/-
  Texts of the proofs, one behind the other: QuadP, QuadA, QuadB, QuadC, QuadD, QuadE, QuadF, QuadI, QuadJ, QuadL.
-/
import Derived.Test.YtojlgfkjnkjcmaaGreatDoorPartZ
import Derived.Test.YtojlgfkjnkjcmaaGreatDoorPartA
import Derived.Test.YtojlgfkjnkjcmaaGreatDoorPartB
import Derived.Test.YtojlgfkjnkjcmaaGreatDoorPartI
import Derived.Test.YtojlgfkjnkjcmaaGreatDoorPartX
import Derived.Test.YtojlgfkjnkjcmaaGreatDoorPartV
/-
  Trees of squares: the tree of a set, what both of two sets have, what a set hasn't: plain.
-/
namespace Go.Proofs.YtojlgfkjnkjcmaaGreatDoor
open Go.RowKit
set_option linter.unusedVariables false
set_option linter.unusedSimpArgs false
set_option maxRecDepth 100000
set_option maxHeartbeats 4000000

inductive QT where
  | leaf (b : Bool)
  | node (a b c d : QT)
def QT.kid (a b c d : QT) (i : Nat) : QT := if i = 0 then a else if i = 1 then b else if i = 2 then c else d
def QT.ty : QT → TypeId
  | .leaf _ => 103
  | .node _ _ _ _ => 101
def QT.va : QT → Value
  | .leaf b => .bool b
  | .node a b c d => .agg #[.iface a.ty a.va, .iface b.ty b.va, .iface c.ty c.va, .iface d.ty d.va]
def QT.enc (t : QT) : Value := .iface t.ty t.va
def isLeaf (b : Bool) : QT → Bool
  | .leaf x => x == b
  | .node _ _ _ _ => false
theorem isLeaf_iff {b : Bool} {t : QT} : isLeaf b t = true ↔ t = .leaf b := by
  cases t with
  | leaf x => simp [isLeaf]
  | node => simp [isLeaf]
/-- a square of four, or a leaf, if they are leaves that are alike -/
def fourQ (a b c d : QT) : QT := match a with
  | .leaf x => if isLeaf x b && isLeaf x c && isLeaf x d then .leaf x else .node a b c d
  | .node _ _ _ _ => .node a b c d
/-- the tree of a set, of the square of side 2^n at a place -/
def canon (g : Int → Int → Bool) : Nat → Int → Int → QT
  | 0, x, y => .leaf (g x y)
  | n + 1, x, y => fourQ (canon g n x y) (canon g n (x + 2 ^ n) y) (canon g n x (y + 2 ^ n)) (canon g n (x + 2 ^ n) (y + 2 ^ n))
def InSq (n : Nat) (x y u v : Int) : Prop := x ≤ u ∧ u < x + 2 ^ n ∧ y ≤ v ∧ v < y + 2 ^ n
theorem two_pos (n : Nat) : (0 : Int) < 2 ^ n := Int.pow_pos (by omega)
theorem two_succ (n : Nat) : (2 : Int) ^ (n + 1) = 2 ^ n + 2 ^ n := by rw [Int.pow_succ]; omega
theorem sq_split {n : Nat} {x y u v : Int} : InSq (n + 1) x y u v ↔ InSq n x y u v ∨ InSq n (x + 2 ^ n) y u v ∨ InSq n x (y + 2 ^ n) u v ∨ InSq n (x + 2 ^ n) (y + 2 ^ n) u v := by
  unfold InSq
  rw [two_succ]
  have := two_pos n
  generalize (2 : Int) ^ n = h at *
  omega
theorem canon_congr {g g' : Int → Int → Bool} : ∀ {n : Nat} {x y : Int}, (∀ u v, InSq n x y u v → g u v = g' u v) → canon g n x y = canon g' n x y
  | 0, x, y, h => by
    unfold canon
    rw [h x y (by unfold InSq; simp only [Int.pow_zero]; omega)]
  | n + 1, x, y, h => by
    unfold canon
    rw [canon_congr fun u v k => h u v (sq_split.2 (.inl k)), canon_congr fun u v k => h u v (sq_split.2 (.inr (.inl k))), canon_congr fun u v k => h u v (sq_split.2 (.inr (.inr (.inl k)))), canon_congr fun u v k => h u v (sq_split.2 (.inr (.inr (.inr k))))]
theorem fourQ_leaf {a b c d : QT} {x : Bool} : fourQ a b c d = .leaf x ↔ a = .leaf x ∧ b = .leaf x ∧ c = .leaf x ∧ d = .leaf x := by
  cases a with
  | leaf z =>
    unfold fourQ
    simp only
    split
    · rename_i h
      simp only [Bool.and_eq_true, isLeaf_iff] at h
      obtain ⟨⟨rfl, rfl⟩, rfl⟩ := h
      simp
    · rename_i h
      simp only [Bool.and_eq_true, isLeaf_iff] at h
      refine ⟨fun e => (by cases e), fun ⟨e1, e2, e3, e4⟩ => ?_⟩
      injection e1 with e1
      subst e1
      exact absurd ⟨⟨e2, e3⟩, e4⟩ h
  | node => unfold fourQ; simp
theorem fourQ_or (a b c d : QT) : (∃ x, fourQ a b c d = .leaf x ∧ a = .leaf x ∧ b = .leaf x ∧ c = .leaf x ∧ d = .leaf x) ∨ fourQ a b c d = .node a b c d := by
  cases h : fourQ a b c d with
  | leaf x => exact .inl ⟨x, rfl, fourQ_leaf.1 h⟩
  | node a' b' c' d' =>
    right
    unfold fourQ at h
    split at h
    · split at h
      · cases h
      · exact h.symm
    · exact h.symm
theorem canon_leaf {g : Int → Int → Bool} {b : Bool} : ∀ {n : Nat} {x y : Int}, canon g n x y = .leaf b ↔ ∀ u v, InSq n x y u v → g u v = b
  | 0, x, y => by
    unfold canon
    constructor
    · intro h u v k
      injection h with h
      unfold InSq at k
      simp only [Int.pow_zero] at k
      rw [← h, show u = x by omega, show v = y by omega]
    · intro h
      rw [h x y (by unfold InSq; simp only [Int.pow_zero]; omega)]
  | n + 1, x, y => by
    unfold canon
    rw [fourQ_leaf, canon_leaf, canon_leaf, canon_leaf, canon_leaf]
    constructor
    · rintro ⟨h1, h2, h3, h4⟩ u v k
      rcases sq_split.1 k with k | k | k | k
      · exact h1 u v k
      · exact h2 u v k
      · exact h3 u v k
      · exact h4 u v k
    · intro h
      exact ⟨fun u v k => h u v (sq_split.2 (.inl k)), fun u v k => h u v (sq_split.2 (.inr (.inl k))), fun u v k => h u v (sq_split.2 (.inr (.inr (.inl k)))), fun u v k => h u v (sq_split.2 (.inr (.inr (.inr k))))⟩
theorem fourQ_kid (f : Nat → QT) : fourQ (f 0) (f 1) (f 2) (f 3) = fourQ (QT.kid (f 0) (f 1) (f 2) (f 3) 0) (QT.kid (f 0) (f 1) (f 2) (f 3) 1) (QT.kid (f 0) (f 1) (f 2) (f 3) 2) (QT.kid (f 0) (f 1) (f 2) (f 3) 3) := rfl
/-- what both have -/
def andQ : QT → QT → QT
  | .leaf x, q => if x then q else .leaf false
  | .node a b c d, .leaf x => if x then .node a b c d else .leaf false
  | .node a b c d, .node a' b' c' d' => fourQ (andQ a a') (andQ b b') (andQ c c') (andQ d d')
theorem canon_node {g : Int → Int → Bool} {n : Nat} {x y : Int} {a b c d : QT} (h : canon g n x y = .node a b c d) : ∃ m, n = m + 1 ∧ a = canon g m x y ∧ b = canon g m (x + 2 ^ m) y ∧ c = canon g m x (y + 2 ^ m) ∧ d = canon g m (x + 2 ^ m) (y + 2 ^ m) := by
  cases n with
  | zero => cases h
  | succ m =>
    unfold canon at h
    rcases fourQ_or (canon g m x y) (canon g m (x + 2 ^ m) y) (canon g m x (y + 2 ^ m)) (canon g m (x + 2 ^ m) (y + 2 ^ m)) with ⟨z, e, _⟩ | e
    · rw [e] at h; cases h
    · rw [e] at h
      injection h with h1 h2 h3 h4
      exact ⟨m, rfl, h1.symm, h2.symm, h3.symm, h4.symm⟩
theorem and_canon {g g' : Int → Int → Bool} : ∀ {n : Nat} {x y : Int}, andQ (canon g n x y) (canon g' n x y) = canon (fun u v => g u v && g' u v) n x y := fun {n} => by
  induction n with
  | zero =>
    intro x y
    simp only [canon]
    unfold andQ
    cases g x y <;> simp
  | succ n ih =>
    intro x y
    rcases h1 : canon g (n + 1) x y with z | ⟨a, b, c, d⟩
    · have k := canon_leaf.1 h1
      unfold andQ
      cases z with
      | true =>
        rw [if_pos rfl]
        exact canon_congr fun u v i => by rw [k u v i, Bool.true_and]
      | false =>
        rw [if_neg (by decide)]
        exact (canon_leaf.2 fun u v i => by simp only [k u v i, Bool.false_and]).symm
    · rcases h2 : canon g' (n + 1) x y with z | ⟨a', b', c', d'⟩
      · have k := canon_leaf.1 h2
        unfold andQ
        cases z with
        | true =>
          rw [if_pos rfl, ← h1]
          exact canon_congr fun u v i => by rw [k u v i, Bool.and_true]
        | false =>
          rw [if_neg (by decide)]
          exact (canon_leaf.2 fun u v i => by simp only [k u v i, Bool.and_false]).symm
      · obtain ⟨m, e, rfl, rfl, rfl, rfl⟩ := canon_node h1
        obtain ⟨m', e', rfl, rfl, rfl, rfl⟩ := canon_node h2
        obtain rfl : m = n := by omega
        obtain rfl : m' = m := by omega
        unfold andQ
        rw [ih, ih, ih, ih]
        rfl
/-- what a set hasn't, of the cells of a size -/
def notQ (W H : Int) : Nat → QT → Int → Int → QT
  | n, t, x, y =>
    if W ≤ x ∨ H ≤ y then .leaf false else
    match n, t with
    | 0, .leaf l => .leaf !l
    | 0, .node _ _ _ _ => .leaf false
    | n + 1, .leaf l => if x + 2 ^ (n + 1) ≤ W ∧ y + 2 ^ (n + 1) ≤ H then .leaf !l else fourQ (notQ W H n (.leaf l) x y) (notQ W H n (.leaf l) (x + 2 ^ n) y) (notQ W H n (.leaf l) x (y + 2 ^ n)) (notQ W H n (.leaf l) (x + 2 ^ n) (y + 2 ^ n))
    | n + 1, .node a b c d => fourQ (notQ W H n a x y) (notQ W H n b (x + 2 ^ n) y) (notQ W H n c x (y + 2 ^ n)) (notQ W H n d (x + 2 ^ n) (y + 2 ^ n))
def outG (W H : Int) (g : Int → Int → Bool) (u v : Int) : Bool := decide (u < W) && decide (v < H) && !g u v
theorem not_canon {W H : Int} {g : Int → Int → Bool} : ∀ {n : Nat} {x y : Int}, notQ W H n (canon g n x y) x y = canon (outG W H g) n x y := fun {n} => by
  induction n with
  | zero =>
    intro x y
    unfold notQ
    split
    · rename_i h
      refine (canon_leaf.2 fun u v i => ?_).symm
      unfold InSq at i
      simp only [Int.pow_zero] at i
      unfold outG
      rcases h with h | h
      · rw [decide_eq_false (show ¬ u < W by omega)]; simp
      · rw [decide_eq_false (show ¬ v < H by omega)]; simp
    · rename_i h
      simp only [canon, outG]
      rw [decide_eq_true (show x < W by omega), decide_eq_true (show y < H by omega)]
      simp
  | succ n ih =>
    intro x y
    unfold notQ
    split
    · rename_i h
      refine (canon_leaf.2 fun u v i => ?_).symm
      unfold InSq at i
      unfold outG
      rcases h with h | h
      · rw [decide_eq_false (show ¬ u < W by omega)]; simp
      · rw [decide_eq_false (show ¬ v < H by omega)]; simp
    · rename_i h
      rcases h1 : canon g (n + 1) x y with z | ⟨a, b, c, d⟩
      · have k := canon_leaf.1 h1
        simp only
        split
        · rename_i hin
          refine (canon_leaf.2 fun u v i => ?_).symm
          unfold outG
          rw [k u v i]
          unfold InSq at i
          rw [decide_eq_true (show u < W by omega), decide_eq_true (show v < H by omega)]
          simp
        · have e : ∀ x' y', (∀ u v, InSq n x' y' u v → InSq (n + 1) x y u v) → notQ W H n (.leaf z) x' y' = canon (outG W H g) n x' y' := fun x' y' hs => by
            rw [← ih, canon_leaf.2 fun u v i => k u v (hs u v i)]
          rw [e _ _ fun u v i => sq_split.2 (.inl i), e _ _ fun u v i => sq_split.2 (.inr (.inl i)), e _ _ fun u v i => sq_split.2 (.inr (.inr (.inl i))), e _ _ fun u v i => sq_split.2 (.inr (.inr (.inr i)))]
          rfl
      · obtain ⟨m, e, rfl, rfl, rfl, rfl⟩ := canon_node h1
        obtain rfl : m = n := by omega
        simp only
        rw [ih, ih, ih, ih]
        rfl
/-- where a cell is found -/
def lookQ : Nat → QT → Int → Int → Int → Int → Bool
  | _, .leaf b, _, _, _, _ => b
  | 0, .node _ _ _ _, _, _, _, _ => false
  | n + 1, .node a b c d, x, y, u, v =>
    if u < x + 2 ^ n then (if v < y + 2 ^ n then lookQ n a x y u v else lookQ n c x (y + 2 ^ n) u v)
    else (if v < y + 2 ^ n then lookQ n b (x + 2 ^ n) y u v else lookQ n d (x + 2 ^ n) (y + 2 ^ n) u v)
theorem look_canon {g : Int → Int → Bool} : ∀ {n : Nat} {x y u v : Int}, InSq n x y u v → lookQ n (canon g n x y) x y u v = g u v := fun {n} => by
  induction n with
  | zero =>
    intro x y u v h
    unfold InSq at h
    simp only [Int.pow_zero] at h
    simp only [canon, lookQ]
    rw [show u = x by omega, show v = y by omega]
  | succ n ih =>
    intro x y u v h
    rcases h1 : canon g (n + 1) x y with z | ⟨a, b, c, d⟩
    · exact (canon_leaf.1 h1 u v h).symm
    · obtain ⟨m, e, rfl, rfl, rfl, rfl⟩ := canon_node h1
      obtain rfl : m = n := by omega
      unfold InSq at h
      rw [two_succ] at h
      unfold lookQ
      split
      · split
        · exact ih (by unfold InSq; omega)
        · exact ih (by unfold InSq; omega)
      · split
        · exact ih (by unfold InSq; omega)
        · exact ih (by unfold InSq; omega)

end Go.Proofs.YtojlgfkjnkjcmaaGreatDoor

/-
  quad: quarter, whole, four.
-/
namespace Go.Proofs.YtojlgfkjnkjcmaaGreatDoor
open Go.RowKit
open Sy
set_option linter.unusedVariables false
set_option linter.unusedSimpArgs false
set_option maxRecDepth 100000
set_option maxHeartbeats 4000000

abbrev sqV (x y s : Int) : Value := .agg #[.int .i64 x, .int .i64 y, .int .i64 s]
def qx (x h : Int) : Nat → Int
  | 1 => x + h
  | 3 => x + h
  | _ => x
def qy (y h : Int) : Nat → Int
  | 2 => y + h
  | 3 => y + h
  | _ => y
theorem tdiv_half {s h : Int} (hs : s = h + h) (h0 : 0 ≤ h) : Int.tdiv s 2 = h := by
  rw [Int.tdiv_eq_ediv_of_nonneg (by omega)]
  omega
theorem sQuarter {R : HP} {x y s h : Int} {i : Nat} (hs : s = h + h) (h0 : 0 ≤ h ∧ h ≤ 4096) (hx : 0 ≤ x ∧ x ≤ 4096) (hy : 0 ≤ y ∧ y ≤ 4096) (hi : i < 4) : PureR Tryz.prog R 47 [sqV x y s, .int .i64 (i : Int)] (sqV (qx x h i) (qy y h i) h) := by
  have hd := tdiv_half hs h0.1
  rcases (show i = 0 ∨ i = 1 ∨ i = 2 ∨ i = 3 by omega) with rfl | rfl | rfl | rfl
  · have hm : Int.tmod ((0 : Nat) : Int) 2 = 0 := rfl
    have hq : Int.tdiv ((0 : Nat) : Int) 2 = 0 := rfl
    refine fn_of_run0 true Tryz.func47 rfl hmix rfl fun w0 => ?_
    conv => whnf
    rw [hd, hm, hq]
    refine ⟨?_, fin_pure rfl (by simp [mkRes, sqV, qx, qy])⟩
    repeat' apply And.intro
    all_goals first | exact True.intro | (unfold rng; omega) | omega | decide | (simp [IntKind.wrap, IntKind.bits, IntKind.signed]; omega)
  · have hm : Int.tmod ((1 : Nat) : Int) 2 = 1 := rfl
    have hq : Int.tdiv ((1 : Nat) : Int) 2 = 0 := rfl
    refine fn_of_run0 true Tryz.func47 rfl hmix rfl fun w0 => ?_
    conv => whnf
    rw [hd, hm, hq]
    refine ⟨?_, fin_pure rfl (by simp [mkRes, sqV, qx, qy])⟩
    repeat' apply And.intro
    all_goals first | exact True.intro | (unfold rng; omega) | omega | decide | (simp [IntKind.wrap, IntKind.bits, IntKind.signed]; omega)
  · have hm : Int.tmod ((2 : Nat) : Int) 2 = 0 := rfl
    have hq : Int.tdiv ((2 : Nat) : Int) 2 = 1 := rfl
    refine fn_of_run0 true Tryz.func47 rfl hmix rfl fun w0 => ?_
    conv => whnf
    rw [hd, hm, hq]
    refine ⟨?_, fin_pure rfl (by simp [mkRes, sqV, qx, qy])⟩
    repeat' apply And.intro
    all_goals first | exact True.intro | (unfold rng; omega) | omega | decide | (simp [IntKind.wrap, IntKind.bits, IntKind.signed]; omega)
  · have hm : Int.tmod ((3 : Nat) : Int) 2 = 1 := rfl
    have hq : Int.tdiv ((3 : Nat) : Int) 2 = 1 := rfl
    refine fn_of_run0 true Tryz.func47 rfl hmix rfl fun w0 => ?_
    conv => whnf
    rw [hd, hm, hq]
    refine ⟨?_, fin_pure rfl (by simp [mkRes, sqV, qx, qy])⟩
    repeat' apply And.intro
    all_goals first | exact True.intro | (unfold rng; omega) | omega | decide | (simp [IntKind.wrap, IntKind.bits, IntKind.signed]; omega)
/-- the least power of two that no side is above -/
def Side (m : Int) (n : Nat) : Prop := m ≤ 2 ^ n ∧ ∀ k, k < n → (2 : Int) ^ k < m
theorem sQWhole {R : HP} {W H : Int} {n : Nat} (hn : n ≤ 20) (hS : Side (max W H) n) : PureR Tryz.prog R 28 [.int .i64 W, .int .i64 H] (sqV 0 0 (2 ^ n)) := by
  have hp0 : ∀ k, k ≤ 21 → (2 : Int) ^ k ≤ 2097152 := by decide
  have hp : ∀ k, k ≤ 21 → (2 : Int) ^ k ≤ 2097152 ∧ 0 < (2 : Int) ^ k := fun k hk => ⟨hp0 k hk, two_pos k⟩
  refine fn_of_run0 true Tryz.func28 rfl hmix rfl fun w0 => ?_
  conv => whnf
  refine ⟨trivial, LoopAt.keep (α := Nat) [0, 1, 4] (fun k => [(5, .v (.int .i64 (2 ^ k)))]) (fun k => k ≤ n) (fun k => n - k) 0 (Nat.zero_le _) rfl ⟨⟨rfl, rfl⟩, trivial⟩ ⟨⟨rfl, rfl⟩, ⟨rfl, rfl⟩, ⟨rfl, rfl⟩, trivial⟩ ⟨⟨rfl, rfl, rfl, rfl⟩, trivial⟩ ?_⟩
  intro k hk
  conv => whnf
  refine ⟨fun h => ?_, fun h => ?_⟩
  · have h : (2 : Int) ^ k < max W H := by simpa using h
    have hlt : k < n := by
      rcases Nat.lt_or_ge k n with c | c
      · exact c
      · have e : k = n := by omega
        subst e
        have := hS.1
        omega
    have h1 := hp (k + 1) (by omega)
    have h2 := two_succ k
    conv => whnf
    rw [show (2 : Int) ^ k * 2 = 2 ^ (k + 1) by rw [h2]; omega]
    exact ⟨⟨trivial, by unfold rng; omega⟩, Next.keep (k + 1) (by omega) (by omega) ⟨⟨rfl, rfl⟩, trivial⟩ ⟨⟨rfl, rfl⟩, ⟨rfl, rfl⟩, ⟨rfl, rfl⟩, trivial⟩ ⟨⟨rfl, rfl, rfl, rfl⟩, trivial⟩ rfl rfl rfl⟩
  · have h : ¬ (2 : Int) ^ k < max W H := by simpa using h
    have e : k = n := by
      rcases Nat.lt_or_ge k n with c | c
      · exact absurd (hS.2 k c) h
      · omega
    subst e
    conv => whnf
    exact ⟨trivial, fin_pure rfl rfl⟩
end Go.Proofs.YtojlgfkjnkjcmaaGreatDoor

/-
  quad.four: a square of four, or a leaf.
-/
namespace Go.Proofs.YtojlgfkjnkjcmaaGreatDoor
open Go.RowKit
open Sy
set_option linter.unusedVariables false
set_option linter.unusedSimpArgs false
set_option maxRecDepth 100000
set_option maxHeartbeats 4000000

abbrev nodeV (a b c d : QT) : Value := .agg #[a.enc, b.enc, c.enc, d.enc]
theorem kid_cell {q : Nat} {t : TypeId} {a b c d : QT} {w : World} (s : Sat (blkH q t #[a.enc, b.enc, c.enc, d.enc]) w) {j : Nat} (hj : j < 4) : w.cell? ⟨q, j, none⟩ = some ((QT.kid a b c d j).enc) := by
  have h := (blk_sat s).cell j
  rw [h]
  rcases (show j = 0 ∨ j = 1 ∨ j = 2 ∨ j = 3 by omega) with rfl | rfl | rfl | rfl <;> rfl
theorem sFour {R : HP} (a b c d : QT) : PureR Tryz.prog R 55 [nodeV a b c d] (fourQ a b c d).enc := by
  rcases a with x | ⟨a1, a2, a3, a4⟩
  · have hL : ∀ z, (∀ j, 1 ≤ j → j < 4 → QT.kid (.leaf x) b c d j = .leaf x) → z = fourQ (.leaf x) b c d → z = .leaf x := fun z h e => by
      rw [e]
      exact fourQ_leaf.2 ⟨rfl, h 1 (by omega) (by omega), h 2 (by omega) (by omega), h 3 (by omega) (by omega)⟩
    have hN : ∀ z j, 1 ≤ j → j < 4 → QT.kid (.leaf x) b c d j ≠ .leaf x → z = fourQ (.leaf x) b c d → z = .node (.leaf x) b c d := fun z j h1 h2 h e => by
      rw [e]
      rcases fourQ_or (.leaf x) b c d with ⟨y, e, e1, e2, e3, e4⟩ | e
      · injection e1 with e1
        subst e1
        rcases (show j = 1 ∨ j = 2 ∨ j = 3 by omega) with rfl | rfl | rfl
        · exact absurd e2 h
        · exact absurd e3 h
        · exact absurd e4 h
      · exact e
    have hkc := @kid_cell (a := .leaf x) (b := b) (c := c) (d := d)
    have hL := fun h => hL _ h rfl
    have hN := fun j h1 h2 h => hN _ j h1 h2 h rfl
    generalize fourQ (.leaf x) b c d = r at *
    refine fn_of_run0 false Tryz.func55 rfl hmix rfl fun w0 => ?_
    conv => whnf
    refine ⟨fun h => absurd h (by simp), fun _ => ?_⟩
    conv => whnf
    intro kb _
    conv => whnf
    refine ⟨⟨⟨trivial, by decide⟩, by decide⟩, LoopAt.keep (α := Nat) [1, 3, 19, 20] (fun i => [(21, .v (.int .i64 (i : Int)))]) (fun i => i ≤ 3 ∧ ∀ j, 1 ≤ j → j ≤ i → QT.kid (.leaf x) b c d j = .leaf x) (fun i => 3 - i) 0 ⟨by omega, fun j h1 h2 => by omega⟩ rfl ⟨⟨rfl, rfl⟩, trivial⟩ ⟨⟨rfl, rfl⟩, ⟨rfl, rfl⟩, ⟨rfl, rfl⟩, ⟨rfl, rfl⟩, trivial⟩ trivial ?_⟩
    rintro i ⟨hi, hk⟩
    conv => whnf
    have e3 : ((4 - Int.toNat 1 : Nat) : Int) = 3 := rfl
    refine ⟨fun h => ?_, fun h => ?_⟩
    · have h3 : i < 3 := by have := of_decide_eq_true h; omega
      have hc := fun w s => hkc (q := kb) (t := 101) (w := w) s (j := 1 + i) (by omega)
      rcases hq : QT.kid (.leaf x) b c d (1 + i) with z | ⟨c1, c2, c3, c4⟩
      · rw [hq] at hc
        have hz : z = x → ∀ j, 1 ≤ j → j ≤ i + 1 → QT.kid (.leaf x) b c d j = .leaf x := fun e j h1 h2 => by
          rcases Nat.lt_or_ge i j with c | c
          · rw [show j = 1 + i by omega, hq, e]
          · exact hk j h1 c
        have hz' : z ≠ x → r = .node (.leaf x) b c d := fun e => hN (1 + i) (by omega) (by omega) (by rw [hq]; simpa using e)
        conv => whnf
        refine ⟨⟨trivial, by omega, by omega⟩, LoadAt.cell (.iface 103 (.bool z)) rfl rfl (fun w hw => hc w (hw.in_ 0 rfl)) ?_⟩
        conv => whnf
        refine ⟨fun _ => ?_, fun h => absurd h (by simp)⟩
        conv => whnf
        refine ⟨fun h => ?_, fun h => ?_⟩
        · have h4 : z ≠ x := by simpa using h
          rw [hz' h4]
          conv => whnf
          refine ⟨trivial, LoadAt.agg [(QT.leaf x).enc, b.enc, c.enc, d.enc] rfl rfl rfl (fun w hw j u hj => ?_) ?_⟩
          · have h := (blk_sat (hw.in_ 0 rfl)).cell j
            rw [Nat.zero_add, h]
            simpa using hj
          conv => whnf
          exact ⟨trivial, fin_drop rfl⟩
        · have h4 : z = x := by simpa using h
          conv => whnf
          refine ⟨⟨trivial, by unfold rng; omega⟩, Next.keep (i + 1) ⟨by omega, hz h4⟩ (by omega) ⟨⟨rfl, rfl⟩, trivial⟩ ⟨⟨rfl, rfl⟩, ⟨rfl, rfl⟩, ⟨rfl, rfl⟩, ⟨rfl, rfl⟩, trivial⟩ trivial rfl rfl rfl⟩
      · rw [hq] at hc
        rw [hN (1 + i) (by omega) (by omega) (by rw [hq]; simp)]
        conv => whnf
        refine ⟨⟨trivial, by omega, by omega⟩, LoadAt.cell (.iface 101 (nodeV c1 c2 c3 c4)) rfl rfl (fun w hw => hc w (hw.in_ 0 rfl)) ?_⟩
        conv => whnf
        refine ⟨fun h => absurd h (by simp), fun _ => ?_⟩
        conv => whnf
        refine ⟨trivial, LoadAt.agg [(QT.leaf x).enc, b.enc, c.enc, d.enc] rfl rfl rfl (fun w hw j u hj => ?_) ?_⟩
        · have h := (blk_sat (hw.in_ 0 rfl)).cell j
          rw [Nat.zero_add, h]
          simpa using hj
        conv => whnf
        exact ⟨trivial, fin_drop rfl⟩
    · have h3 : i = 3 := by have := of_decide_eq_false h; omega
      subst h3
      rw [hL fun j h1 h2 => hk j h1 (by omega)]
      conv => whnf
      exact ⟨trivial, fin_drop rfl⟩
  · refine fn_of_run0 false Tryz.func55 rfl hmix rfl fun w0 => ?_
    conv => whnf
    refine ⟨fun _ => ?_, fun h => absurd h (by simp)⟩
    conv => whnf
    exact ⟨⟨trivial, by decide⟩, fin_pure rfl rfl⟩
end Go.Proofs.YtojlgfkjnkjcmaaGreatDoor

/-
  quad.build: the tree of a set.
-/
namespace Go.Proofs.YtojlgfkjnkjcmaaGreatDoor
open Go.RowKit
open Sy
set_option linter.unusedVariables false
set_option linter.unusedSimpArgs false
set_option maxRecDepth 100000
set_option maxHeartbeats 4000000

def inQ (W H : Int) (f : Int → Int → Bool) (u v : Int) : Bool := decide (u < W) && decide (v < H) && f u v
theorem inQ_out {W H : Int} {f : Int → Int → Bool} {n : Nat} {x y : Int} (h : W ≤ x ∨ H ≤ y) : canon (inQ W H f) n x y = .leaf false := canon_leaf.2 fun u v i => by
  unfold InSq at i
  unfold inQ
  rcases h with h | h
  · rw [decide_eq_false (show ¬ u < W by omega)]; simp
  · rw [decide_eq_false (show ¬ v < H by omega)]; simp
def cellQ (K : Nat → QT) (i j : Nat) : SV := .v (if j < i then (K j).enc else Value.nilIface)
abbrev fnV (f : FuncId) (p q : Nat) : Value := .func (.func f) #[] #[.pointer (some ⟨p, 0, none⟩), .pointer (some ⟨q, 0, none⟩)]
abbrev ptV (p : Nat) : Value := .pointer (some ⟨p, 0, none⟩)
abbrev ceV (x y : Int) : Value := .agg #[.int .i64 x, .int .i64 y]
theorem sBuildOut {R : HP} {W H x y s : Int} {fv : Value} (h : W ≤ x ∨ H ≤ y) : PureR Tryz.prog R 27 [sqV x y s, .int .i64 W, .int .i64 H, fv] (QT.leaf false).enc := by
  refine fn_of_run0 false Tryz.func27 rfl hmix rfl fun w0 => ?_
  conv => whnf
  by_cases hw : W ≤ x
  · refine ⟨fun g => absurd g (by simp; omega), fun _ => ?_⟩
    conv => whnf
    exact ⟨trivial, fin_pure rfl rfl⟩
  · refine ⟨fun _ => ?_, fun g => absurd g (by simp; omega)⟩
    conv => whnf
    refine iff_t (by simp; omega) ?_
    conv => whnf
    exact ⟨trivial, fin_pure rfl rfl⟩
theorem sQBuild {R : HP} {W H : Int} {f : Int → Int → Bool} {p q : Nat} (hin : ∀ R', (∀ w, Sat R' w → Sat R w) → ∀ x y, 0 ≤ x → x < W → 0 ≤ y → y < H → PureR Tryz.prog R' 29 [ceV x y, ptV p, ptV q] (.bool (f x y))) :
    ∀ (n : Nat) (x y : Int), 0 ≤ x → x + 2 ^ n ≤ 2048 → 0 ≤ y → y + 2 ^ n ≤ 2048 → ∀ R', (∀ w, Sat R' w → Sat R w) → PureR Tryz.prog R' 27 [sqV x y (2 ^ n), .int .i64 W, .int .i64 H, fnV 29 p q] (canon (inQ W H f) n x y).enc := by
  intro n
  induction n with
  | zero =>
    intro x y x0 x1 y0 y1 R1 hR1
    by_cases ho : W ≤ x ∨ H ≤ y
    · rw [inQ_out ho]
      exact sBuildOut ho
    have hc : canon (inQ W H f) 0 x y = .leaf (f x y) := by
      unfold canon inQ
      rw [decide_eq_true (show x < W by omega), decide_eq_true (show y < H by omega), Bool.true_and, Bool.true_and]
    rw [hc]
    have hi := fun R' (h : ∀ w, Sat R' w → Sat R1 w) => hin R' (fun w s => hR1 w (h w s)) x y x0 (by omega) y0 (by omega)
    refine fn_of_run0 false Tryz.func27 rfl hmix rfl fun w0 => ?_
    conv => whnf
    refine ⟨fun _ => ?_, fun g => absurd g (by simp; omega)⟩
    conv => whnf
    refine iff_f (by simp; omega) ?_
    conv => whnf
    refine iff_t (by simp) ?_
    conv => whnf
    refine ⟨trivial, CallAt.pure (fun R' hR' => hi R' hR') ?_⟩
    conv => whnf
    exact ⟨trivial, fin_pure rfl rfl⟩
  | succ n ih =>
    intro x y x0 x1 y0 y1 R1 hR1
    by_cases ho : W ≤ x ∨ H ≤ y
    · rw [inQ_out ho]
      exact sBuildOut ho
    have h2 := two_succ n
    have hp := two_pos n
    obtain ⟨K, hK⟩ : ∃ K : Nat → QT, ∀ j, K j = canon (inQ W H f) n (qx x (2 ^ n) j) (qy y (2 ^ n) j) := ⟨_, fun _ => rfl⟩
    have hc : canon (inQ W H f) (n + 1) x y = fourQ (K 0) (K 1) (K 2) (K 3) := by
      rw [hK, hK, hK, hK]
      rfl
    have ih' : ∀ j, j < 4 → ∀ R', (∀ w, Sat R' w → Sat R1 w) → PureR Tryz.prog R' 27 [sqV (qx x (2 ^ n) j) (qy y (2 ^ n) j) (2 ^ n), .int .i64 W, .int .i64 H, fnV 29 p q] (K j).enc := fun j hj R' hR' => by
      rw [hK]
      refine ih _ _ ?_ ?_ ?_ ?_ R' fun w s => hR1 w (hR' w s)
      all_goals rcases (show j = 0 ∨ j = 1 ∨ j = 2 ∨ j = 3 by omega) with rfl | rfl | rfl | rfl <;> simp only [qx, qy] <;> omega
    rw [hc]
    clear hc hK ih
    generalize (2 : Int) ^ n = h at *
    generalize (2 : Int) ^ (n + 1) = s at *
    have hq := fun R' i hi => sQuarter (R := R') (x := x) (y := y) (s := s) (h := h) (i := i) h2 (by omega) (by omega) (by omega) hi
    refine fn_of_run0 false Tryz.func27 rfl hmix rfl fun w0 => ?_
    conv => whnf
    refine ⟨fun _ => ?_, fun g => absurd g (by simp; omega)⟩
    conv => whnf
    refine iff_f (by simp; omega) ?_
    conv => whnf
    refine iff_f (by simp; omega) ?_
    conv => whnf
    refine ⟨trivial, LoopAt.of (α := Nat) [1, 2, 3, 4, 9] (fun i => [(35, .v (.int .i64 (i : Int)))]) (fun i => [(1, 101, [cellQ K i 0, cellQ K i 1, cellQ K i 2, cellQ K i 3]), (0, 66, [.v (.int .i64 x), .v (.int .i64 y), .v (.int .i64 s)])]) (fun _ => []) (fun i => i ≤ 4) (fun i => 4 - i) 0 (Nat.zero_le _)
      (Le.of (Nat.le_of_ble_eq_true rfl) (Nat.zero_le _) ⟨⟨rfl, rfl⟩, ⟨rfl, rfl⟩, ⟨rfl, rfl⟩, ⟨rfl, rfl⟩, ⟨rfl, rfl⟩, ⟨rfl, rfl⟩, trivial⟩ ⟨⟨rfl, rfl, rfl, rfl⟩, ⟨rfl, rfl, rfl, rfl⟩, trivial⟩ fun h s => sub_same s) ?_⟩
    intro i hi
    rcases (show i = 0 ∨ i = 1 ∨ i = 2 ∨ i = 3 ∨ i = 4 by omega) with rfl | rfl | rfl | rfl | rfl
    · conv => whnf
      refine ⟨fun _ => ?_, fun h => absurd h (by simp)⟩
      conv => whnf
      refine ⟨trivial, CallAt.pure (fun R' hR' => hq R' 0 (by omega)) ?_⟩
      conv => whnf
      refine ⟨trivial, CallAt.pure (fun R' hR' => ih' 0 (by omega) R' hR') ?_⟩
      conv => whnf
      refine ⟨?_, .mk (0 + 1) (by decide) (by decide) (Le.of (Nat.le_of_ble_eq_true rfl) (Nat.zero_le _) ⟨⟨rfl, rfl⟩, ⟨rfl, rfl⟩, ⟨rfl, rfl⟩, ⟨rfl, rfl⟩, ⟨rfl, rfl⟩, ⟨rfl, rfl⟩, trivial⟩ ⟨⟨rfl, rfl, rfl, rfl⟩, ⟨rfl, rfl, rfl, rfl⟩, trivial⟩ fun h s => sub_same s)⟩
      repeat' apply And.intro
      all_goals first | exact True.intro | decide | (unfold rng; decide)
    · conv => whnf
      refine ⟨fun _ => ?_, fun h => absurd h (by simp)⟩
      conv => whnf
      refine ⟨trivial, CallAt.pure (fun R' hR' => hq R' 1 (by omega)) ?_⟩
      conv => whnf
      refine ⟨trivial, CallAt.pure (fun R' hR' => ih' 1 (by omega) R' hR') ?_⟩
      conv => whnf
      refine ⟨?_, .mk (1 + 1) (by decide) (by decide) (Le.of (Nat.le_of_ble_eq_true rfl) (Nat.zero_le _) ⟨⟨rfl, rfl⟩, ⟨rfl, rfl⟩, ⟨rfl, rfl⟩, ⟨rfl, rfl⟩, ⟨rfl, rfl⟩, ⟨rfl, rfl⟩, trivial⟩ ⟨⟨rfl, rfl, rfl, rfl⟩, ⟨rfl, rfl, rfl, rfl⟩, trivial⟩ fun h s => sub_same s)⟩
      repeat' apply And.intro
      all_goals first | exact True.intro | decide | (unfold rng; decide)
    · conv => whnf
      refine ⟨fun _ => ?_, fun h => absurd h (by simp)⟩
      conv => whnf
      refine ⟨trivial, CallAt.pure (fun R' hR' => hq R' 2 (by omega)) ?_⟩
      conv => whnf
      refine ⟨trivial, CallAt.pure (fun R' hR' => ih' 2 (by omega) R' hR') ?_⟩
      conv => whnf
      refine ⟨?_, .mk (2 + 1) (by decide) (by decide) (Le.of (Nat.le_of_ble_eq_true rfl) (Nat.zero_le _) ⟨⟨rfl, rfl⟩, ⟨rfl, rfl⟩, ⟨rfl, rfl⟩, ⟨rfl, rfl⟩, ⟨rfl, rfl⟩, ⟨rfl, rfl⟩, trivial⟩ ⟨⟨rfl, rfl, rfl, rfl⟩, ⟨rfl, rfl, rfl, rfl⟩, trivial⟩ fun h s => sub_same s)⟩
      repeat' apply And.intro
      all_goals first | exact True.intro | decide | (unfold rng; decide)
    · conv => whnf
      refine ⟨fun _ => ?_, fun h => absurd h (by simp)⟩
      conv => whnf
      refine ⟨trivial, CallAt.pure (fun R' hR' => hq R' 3 (by omega)) ?_⟩
      conv => whnf
      refine ⟨trivial, CallAt.pure (fun R' hR' => ih' 3 (by omega) R' hR') ?_⟩
      conv => whnf
      refine ⟨?_, .mk (3 + 1) (by decide) (by decide) (Le.of (Nat.le_of_ble_eq_true rfl) (Nat.zero_le _) ⟨⟨rfl, rfl⟩, ⟨rfl, rfl⟩, ⟨rfl, rfl⟩, ⟨rfl, rfl⟩, ⟨rfl, rfl⟩, ⟨rfl, rfl⟩, trivial⟩ ⟨⟨rfl, rfl, rfl, rfl⟩, ⟨rfl, rfl, rfl, rfl⟩, trivial⟩ fun h s => sub_same s)⟩
      repeat' apply And.intro
      all_goals first | exact True.intro | decide | (unfold rng; decide)
    · conv => whnf
      refine ⟨fun h => absurd h (by simp), fun _ => ?_⟩
      conv => whnf
      refine ⟨trivial, CallAt.pure (fun R' hR' => sFour (K 0) (K 1) (K 2) (K 3)) ?_⟩
      conv => whnf
      exact ⟨trivial, fin_pure rfl rfl⟩
end Go.Proofs.YtojlgfkjnkjcmaaGreatDoor

/-
  quad.and: what both of two trees have.
-/
namespace Go.Proofs.YtojlgfkjnkjcmaaGreatDoor
open Go.RowKit
open Sy
set_option linter.unusedVariables false
set_option linter.unusedSimpArgs false
set_option maxRecDepth 100000
set_option maxHeartbeats 4000000

theorem andQ_true (u : QT) : andQ (.leaf true) u = u := by unfold andQ; rfl
theorem andQ_false (u : QT) : andQ (.leaf false) u = .leaf false := by unfold andQ; rfl
theorem andQ_nt (a b c d : QT) : andQ (.node a b c d) (.leaf true) = .node a b c d := by unfold andQ; rfl
theorem andQ_nf (a b c d : QT) : andQ (.node a b c d) (.leaf false) = .leaf false := by unfold andQ; rfl
theorem andQ_nn (a b c d a' b' c' d' : QT) : andQ (.node a b c d) (.node a' b' c' d') = fourQ (andQ a a') (andQ b b') (andQ c c') (andQ d d') := by conv => lhs; unfold andQ
theorem sAnd : ∀ (t u : QT) {R : HP}, PureR Tryz.prog R 32 [t.enc, u.enc] (andQ t u).enc := by
  intro t
  induction t with
  | leaf x =>
    intro u R
    cases x with
    | true =>
      rw [andQ_true]
      refine fn_of_run0 false Tryz.func32 rfl hmix rfl fun w0 => ?_
      conv => whnf
      refine ⟨trivial, LoopAt.of (α := Nat) [0, 1, 19] (fun i => [(20, .v (.int .i64 (i : Int)))]) (fun _ => []) (fun _ => []) (fun i => i ≤ 0) (fun i => 2 - i) 0 (Nat.zero_le _)
        (Le.of (Nat.le_of_ble_eq_true rfl) (Nat.zero_le _) ⟨⟨rfl, rfl⟩, ⟨rfl, rfl⟩, ⟨rfl, rfl⟩, ⟨rfl, rfl⟩, trivial⟩ trivial fun h s => sub_same s) ?_⟩
      intro i hi
      obtain rfl : i = 0 := by omega
      conv => whnf
      repeat (first | (refine ⟨fun _ => ?_, fun h => absurd h (by decide)⟩; conv => whnf) | (refine ⟨fun h => absurd h (by decide), fun _ => ?_⟩; conv => whnf))
      refine ⟨?_, fin_pure rfl rfl⟩
      repeat' apply And.intro
      all_goals first | exact True.intro | decide | (unfold rng; decide)
    | false =>
      rw [andQ_false]
      refine fn_of_run0 false Tryz.func32 rfl hmix rfl fun w0 => ?_
      conv => whnf
      refine ⟨trivial, LoopAt.of (α := Nat) [0, 1, 19] (fun i => [(20, .v (.int .i64 (i : Int)))]) (fun _ => []) (fun _ => []) (fun i => i ≤ 0) (fun i => 2 - i) 0 (Nat.zero_le _)
        (Le.of (Nat.le_of_ble_eq_true rfl) (Nat.zero_le _) ⟨⟨rfl, rfl⟩, ⟨rfl, rfl⟩, ⟨rfl, rfl⟩, ⟨rfl, rfl⟩, trivial⟩ trivial fun h s => sub_same s) ?_⟩
      intro i hi
      obtain rfl : i = 0 := by omega
      conv => whnf
      repeat (first | (refine ⟨fun _ => ?_, fun h => absurd h (by decide)⟩; conv => whnf) | (refine ⟨fun h => absurd h (by decide), fun _ => ?_⟩; conv => whnf))
      refine ⟨?_, fin_pure rfl rfl⟩
      repeat' apply And.intro
      all_goals first | exact True.intro | decide | (unfold rng; decide)
  | node a b c d iha ihb ihc ihd =>
    intro u R
    cases u with
    | leaf x =>
      cases x with
      | true =>
        rw [andQ_nt]
        refine fn_of_run0 false Tryz.func32 rfl hmix rfl fun w0 => ?_
        conv => whnf
        refine ⟨trivial, LoopAt.of (α := Nat) [0, 1, 19] (fun i => [(20, .v (.int .i64 (i : Int)))]) (fun _ => []) (fun _ => []) (fun i => i ≤ 1) (fun i => 2 - i) 0 (Nat.zero_le _)
          (Le.of (Nat.le_of_ble_eq_true rfl) (Nat.zero_le _) ⟨⟨rfl, rfl⟩, ⟨rfl, rfl⟩, ⟨rfl, rfl⟩, ⟨rfl, rfl⟩, trivial⟩ trivial fun h s => sub_same s) ?_⟩
        intro i hi
        rcases (show i = 0 ∨ i = 1 by omega) with rfl | rfl
        · conv => whnf
          repeat (first | (refine ⟨fun _ => ?_, fun h => absurd h (by decide)⟩; conv => whnf) | (refine ⟨fun h => absurd h (by decide), fun _ => ?_⟩; conv => whnf))
          refine ⟨?_, .mk 1 (by decide) (by decide) (Le.of (Nat.le_of_ble_eq_true rfl) (Nat.zero_le _) ⟨⟨rfl, rfl⟩, ⟨rfl, rfl⟩, ⟨rfl, rfl⟩, ⟨rfl, rfl⟩, trivial⟩ trivial fun h s => sub_same s)⟩
          repeat' apply And.intro
          all_goals first | exact True.intro | decide | (unfold rng; decide)
        · conv => whnf
          repeat (first | (refine ⟨fun _ => ?_, fun h => absurd h (by decide)⟩; conv => whnf) | (refine ⟨fun h => absurd h (by decide), fun _ => ?_⟩; conv => whnf))
          refine ⟨?_, fin_pure rfl rfl⟩
          repeat' apply And.intro
          all_goals first | exact True.intro | decide | (unfold rng; decide)
      | false =>
        rw [andQ_nf]
        refine fn_of_run0 false Tryz.func32 rfl hmix rfl fun w0 => ?_
        conv => whnf
        refine ⟨trivial, LoopAt.of (α := Nat) [0, 1, 19] (fun i => [(20, .v (.int .i64 (i : Int)))]) (fun _ => []) (fun _ => []) (fun i => i ≤ 1) (fun i => 2 - i) 0 (Nat.zero_le _)
          (Le.of (Nat.le_of_ble_eq_true rfl) (Nat.zero_le _) ⟨⟨rfl, rfl⟩, ⟨rfl, rfl⟩, ⟨rfl, rfl⟩, ⟨rfl, rfl⟩, trivial⟩ trivial fun h s => sub_same s) ?_⟩
        intro i hi
        rcases (show i = 0 ∨ i = 1 by omega) with rfl | rfl
        · conv => whnf
          repeat (first | (refine ⟨fun _ => ?_, fun h => absurd h (by decide)⟩; conv => whnf) | (refine ⟨fun h => absurd h (by decide), fun _ => ?_⟩; conv => whnf))
          refine ⟨?_, .mk 1 (by decide) (by decide) (Le.of (Nat.le_of_ble_eq_true rfl) (Nat.zero_le _) ⟨⟨rfl, rfl⟩, ⟨rfl, rfl⟩, ⟨rfl, rfl⟩, ⟨rfl, rfl⟩, trivial⟩ trivial fun h s => sub_same s)⟩
          repeat' apply And.intro
          all_goals first | exact True.intro | decide | (unfold rng; decide)
        · conv => whnf
          repeat (first | (refine ⟨fun _ => ?_, fun h => absurd h (by decide)⟩; conv => whnf) | (refine ⟨fun h => absurd h (by decide), fun _ => ?_⟩; conv => whnf))
          refine ⟨?_, fin_pure rfl rfl⟩
          repeat' apply And.intro
          all_goals first | exact True.intro | decide | (unfold rng; decide)
    | node a' b' c' d' =>
      rw [andQ_nn]
      have iha := fun R' => iha a' (R := R')
      have ihb := fun R' => ihb b' (R := R')
      have ihc := fun R' => ihc c' (R := R')
      have ihd := fun R' => ihd d' (R := R')
      obtain ⟨K, k0, k1, k2, k3⟩ : ∃ K : Nat → QT, K 0 = andQ a a' ∧ K 1 = andQ b b' ∧ K 2 = andQ c c' ∧ K 3 = andQ d d' := ⟨QT.kid (andQ a a') (andQ b b') (andQ c c') (andQ d d'), rfl, rfl, rfl, rfl⟩
      rw [← k0, ← k1, ← k2, ← k3]
      rw [← k0] at iha
      rw [← k1] at ihb
      rw [← k2] at ihc
      rw [← k3] at ihd
      refine fn_of_run0 false Tryz.func32 rfl hmix rfl fun w0 => ?_
      conv => whnf
      refine ⟨trivial, LoopAt.of (α := Nat) [0, 1, 19] (fun i => [(20, .v (.int .i64 (i : Int)))]) (fun _ => []) (fun _ => []) (fun i => i ≤ 2) (fun i => 2 - i) 0 (Nat.zero_le _)
        (Le.of (Nat.le_of_ble_eq_true rfl) (Nat.zero_le _) ⟨⟨rfl, rfl⟩, ⟨rfl, rfl⟩, ⟨rfl, rfl⟩, ⟨rfl, rfl⟩, trivial⟩ trivial fun h s => sub_same s) ?_⟩
      intro i hi
      rcases (show i = 0 ∨ i = 1 ∨ i = 2 by omega) with rfl | rfl | rfl
      · conv => whnf
        repeat (first | (refine ⟨fun _ => ?_, fun h => absurd h (by decide)⟩; conv => whnf) | (refine ⟨fun h => absurd h (by decide), fun _ => ?_⟩; conv => whnf))
        refine ⟨?_, .mk 1 (by decide) (by decide) (Le.of (Nat.le_of_ble_eq_true rfl) (Nat.zero_le _) ⟨⟨rfl, rfl⟩, ⟨rfl, rfl⟩, ⟨rfl, rfl⟩, ⟨rfl, rfl⟩, trivial⟩ trivial fun h s => sub_same s)⟩
        repeat' apply And.intro
        all_goals first | exact True.intro | decide | (unfold rng; decide)
      · conv => whnf
        repeat (first | (refine ⟨fun _ => ?_, fun h => absurd h (by decide)⟩; conv => whnf) | (refine ⟨fun h => absurd h (by decide), fun _ => ?_⟩; conv => whnf))
        refine ⟨?_, .mk 2 (by decide) (by decide) (Le.of (Nat.le_of_ble_eq_true rfl) (Nat.zero_le _) ⟨⟨rfl, rfl⟩, ⟨rfl, rfl⟩, ⟨rfl, rfl⟩, ⟨rfl, rfl⟩, trivial⟩ trivial fun h s => sub_same s)⟩
        repeat' apply And.intro
        all_goals first | exact True.intro | decide | (unfold rng; decide)
      · conv => whnf
        repeat (first | (refine ⟨fun _ => ?_, fun h => absurd h (by decide)⟩; conv => whnf) | (refine ⟨fun h => absurd h (by decide), fun _ => ?_⟩; conv => whnf))
        refine ⟨trivial, RegAt.joins [((Tr.T 0 (Tr.T 1 (Tr.T 2 (Tr.T 3 (Tr.C 4 (Tr.H 5 (Tr.H 6 Tr.E)) 5 (Tr.H 4 (Tr.H 6 Tr.E))))))), 7), ((Tr.H 7 Tr.E), 8)] [] [(9, .p 0 0), (10, .p 1 0)] [(1, 101, [.v a'.enc, .v b'.enc, .v c'.enc, .v d'.enc]), (0, 101, [.v a.enc, .v b.enc, .v c.enc, .v d.enc])] 2 [] hmix (by kernel_rfl) ?_ ?_⟩
        · conv => whnf
          refine ⟨?_, ?_⟩
          · conv => whnf
            refine ⟨trivial, ⟨⟨rfl, rfl⟩, fun h s => sub_same s⟩, ?_⟩
            conv => whnf
            refine ⟨trivial, ⟨⟨rfl, rfl⟩, fun h s => sub_same s⟩, ?_⟩
            conv => whnf
            refine ⟨trivial, ⟨⟨rfl, rfl⟩, fun h s => sub_same s⟩, ?_⟩
            conv => whnf
            refine ⟨trivial, ?_⟩
            conv => whnf
            refine ⟨trivial, Le.of (Nat.le_of_ble_eq_true rfl) (Nat.zero_le _) ⟨⟨rfl, rfl⟩, ⟨rfl, rfl⟩, trivial⟩ ⟨⟨rfl, rfl, rfl, rfl⟩, ⟨rfl, rfl, rfl, rfl⟩, trivial⟩ fun h s => sub_same s⟩
          · conv => whnf
            refine ⟨trivial, ⟨⟨rfl, rfl⟩, fun h s => sub_same s⟩, ?_⟩
            conv => whnf
            refine ⟨trivial, ⟨⟨rfl, rfl⟩, fun h s => sub_same s⟩, ?_⟩
            conv => whnf
            refine ⟨trivial, ⟨⟨rfl, rfl⟩, fun h s => sub_same s⟩, ?_⟩
            conv => whnf
            refine ⟨trivial, ?_⟩
            conv => whnf
            refine ⟨trivial, Le.pick [1, 0] rfl rfl rfl rfl ⟨⟨_, rfl, rfl⟩, ⟨_, rfl, rfl⟩, trivial⟩ ⟨⟨_, _, rfl, rfl, rfl⟩, ⟨_, _, rfl, rfl, rfl⟩, trivial⟩ rfl fun h s => sub_same s⟩
        · conv => whnf
          refine ⟨trivial, LoopAt.of (α := Nat) [9, 10, 11] (fun i => [(39, .v (.int .i64 (i : Int)))]) (fun i => [(2, 101, [cellQ K i 0, cellQ K i 1, cellQ K i 2, cellQ K i 3]), (1, 101, [.v a'.enc, .v b'.enc, .v c'.enc, .v d'.enc]), (0, 101, [.v a.enc, .v b.enc, .v c.enc, .v d.enc])]) (fun _ => []) (fun i => i ≤ 4) (fun i => 4 - i) 0 (Nat.zero_le _)
            (Le.of (Nat.le_of_ble_eq_true rfl) (Nat.zero_le _) ⟨⟨rfl, rfl⟩, ⟨rfl, rfl⟩, ⟨rfl, rfl⟩, ⟨rfl, rfl⟩, trivial⟩ ⟨⟨rfl, rfl, rfl, rfl⟩, ⟨rfl, rfl, rfl, rfl⟩, ⟨rfl, rfl, rfl, rfl⟩, trivial⟩ fun h s => sub_same s) ?_⟩
          intro i hi
          rcases (show i = 0 ∨ i = 1 ∨ i = 2 ∨ i = 3 ∨ i = 4 by omega) with rfl | rfl | rfl | rfl | rfl
          · conv => whnf
            repeat (first | (refine ⟨fun _ => ?_, fun h => absurd h (by decide)⟩; conv => whnf) | (refine ⟨fun h => absurd h (by decide), fun _ => ?_⟩; conv => whnf))
            refine ⟨trivial, RegAt.groups [([.T 0, .T 1, .T 2, .T 3, .T 4, .T 5, .T 6, .H 7], 8), ([.T 8], 9), ([.H 9], 10)] hmix (by kernel_rfl) ?_⟩
            conv => whnf
            refine ⟨?_, CallAt.pure (fun R' hR' => iha R') ?_⟩
            · repeat' apply And.intro
              all_goals first | exact True.intro | decide | (unfold rng; decide)
            conv => whnf
            refine ⟨trivial, ⟨⟨rfl, rfl⟩, fun h s => sub_same s⟩, ?_⟩
            conv => whnf
            refine ⟨?_, ?_⟩
            · repeat' apply And.intro
              all_goals first | exact True.intro | decide | (unfold rng; decide)
            conv => whnf
            refine ⟨?_, .mk 1 (by decide) (by decide) (Le.of (Nat.le_of_ble_eq_true rfl) (Nat.zero_le _) ⟨⟨rfl, rfl⟩, ⟨rfl, rfl⟩, ⟨rfl, rfl⟩, ⟨rfl, rfl⟩, trivial⟩ ⟨⟨rfl, rfl, rfl, rfl⟩, ⟨rfl, rfl, rfl, rfl⟩, ⟨rfl, rfl, rfl, rfl⟩, trivial⟩ fun h s => sub_same s)⟩
            repeat' apply And.intro
            all_goals first | exact True.intro | decide | (unfold rng; decide)
          · conv => whnf
            repeat (first | (refine ⟨fun _ => ?_, fun h => absurd h (by decide)⟩; conv => whnf) | (refine ⟨fun h => absurd h (by decide), fun _ => ?_⟩; conv => whnf))
            refine ⟨trivial, RegAt.groups [([.T 0, .T 1, .T 2, .T 3, .T 4, .T 5, .T 6, .H 7], 8), ([.T 8], 9), ([.H 9], 10)] hmix (by kernel_rfl) ?_⟩
            conv => whnf
            refine ⟨?_, CallAt.pure (fun R' hR' => ihb R') ?_⟩
            · repeat' apply And.intro
              all_goals first | exact True.intro | decide | (unfold rng; decide)
            conv => whnf
            refine ⟨trivial, ⟨⟨rfl, rfl⟩, fun h s => sub_same s⟩, ?_⟩
            conv => whnf
            refine ⟨?_, ?_⟩
            · repeat' apply And.intro
              all_goals first | exact True.intro | decide | (unfold rng; decide)
            conv => whnf
            refine ⟨?_, .mk 2 (by decide) (by decide) (Le.of (Nat.le_of_ble_eq_true rfl) (Nat.zero_le _) ⟨⟨rfl, rfl⟩, ⟨rfl, rfl⟩, ⟨rfl, rfl⟩, ⟨rfl, rfl⟩, trivial⟩ ⟨⟨rfl, rfl, rfl, rfl⟩, ⟨rfl, rfl, rfl, rfl⟩, ⟨rfl, rfl, rfl, rfl⟩, trivial⟩ fun h s => sub_same s)⟩
            repeat' apply And.intro
            all_goals first | exact True.intro | decide | (unfold rng; decide)
          · conv => whnf
            repeat (first | (refine ⟨fun _ => ?_, fun h => absurd h (by decide)⟩; conv => whnf) | (refine ⟨fun h => absurd h (by decide), fun _ => ?_⟩; conv => whnf))
            refine ⟨trivial, RegAt.groups [([.T 0, .T 1, .T 2, .T 3, .T 4, .T 5, .T 6, .H 7], 8), ([.T 8], 9), ([.H 9], 10)] hmix (by kernel_rfl) ?_⟩
            conv => whnf
            refine ⟨?_, CallAt.pure (fun R' hR' => ihc R') ?_⟩
            · repeat' apply And.intro
              all_goals first | exact True.intro | decide | (unfold rng; decide)
            conv => whnf
            refine ⟨trivial, ⟨⟨rfl, rfl⟩, fun h s => sub_same s⟩, ?_⟩
            conv => whnf
            refine ⟨?_, ?_⟩
            · repeat' apply And.intro
              all_goals first | exact True.intro | decide | (unfold rng; decide)
            conv => whnf
            refine ⟨?_, .mk 3 (by decide) (by decide) (Le.of (Nat.le_of_ble_eq_true rfl) (Nat.zero_le _) ⟨⟨rfl, rfl⟩, ⟨rfl, rfl⟩, ⟨rfl, rfl⟩, ⟨rfl, rfl⟩, trivial⟩ ⟨⟨rfl, rfl, rfl, rfl⟩, ⟨rfl, rfl, rfl, rfl⟩, ⟨rfl, rfl, rfl, rfl⟩, trivial⟩ fun h s => sub_same s)⟩
            repeat' apply And.intro
            all_goals first | exact True.intro | decide | (unfold rng; decide)
          · conv => whnf
            repeat (first | (refine ⟨fun _ => ?_, fun h => absurd h (by decide)⟩; conv => whnf) | (refine ⟨fun h => absurd h (by decide), fun _ => ?_⟩; conv => whnf))
            refine ⟨trivial, RegAt.groups [([.T 0, .T 1, .T 2, .T 3, .T 4, .T 5, .T 6, .H 7], 8), ([.T 8], 9), ([.H 9], 10)] hmix (by kernel_rfl) ?_⟩
            conv => whnf
            refine ⟨?_, CallAt.pure (fun R' hR' => ihd R') ?_⟩
            · repeat' apply And.intro
              all_goals first | exact True.intro | decide | (unfold rng; decide)
            conv => whnf
            refine ⟨trivial, ⟨⟨rfl, rfl⟩, fun h s => sub_same s⟩, ?_⟩
            conv => whnf
            refine ⟨?_, ?_⟩
            · repeat' apply And.intro
              all_goals first | exact True.intro | decide | (unfold rng; decide)
            conv => whnf
            refine ⟨?_, .mk 4 (by decide) (by decide) (Le.of (Nat.le_of_ble_eq_true rfl) (Nat.zero_le _) ⟨⟨rfl, rfl⟩, ⟨rfl, rfl⟩, ⟨rfl, rfl⟩, ⟨rfl, rfl⟩, trivial⟩ ⟨⟨rfl, rfl, rfl, rfl⟩, ⟨rfl, rfl, rfl, rfl⟩, ⟨rfl, rfl, rfl, rfl⟩, trivial⟩ fun h s => sub_same s)⟩
            repeat' apply And.intro
            all_goals first | exact True.intro | decide | (unfold rng; decide)
          · conv => whnf
            repeat (first | (refine ⟨fun _ => ?_, fun h => absurd h (by decide)⟩; conv => whnf) | (refine ⟨fun h => absurd h (by decide), fun _ => ?_⟩; conv => whnf))
            refine ⟨trivial, CallAt.pure (fun R' hR' => sFour (K 0) (K 1) (K 2) (K 3)) ?_⟩
            conv => whnf
            exact ⟨trivial, fin_pure rfl rfl⟩
end Go.Proofs.YtojlgfkjnkjcmaaGreatDoor

/-
  quad.Of: the quad of what is high enough; sizes; what isn't there.
-/
namespace Go.Proofs.YtojlgfkjnkjcmaaGreatDoor
open Go.RowKit
open Sy
set_option linter.unusedVariables false
set_option linter.unusedSimpArgs false
set_option maxRecDepth 100000
set_option maxHeartbeats 4000000

abbrev quadH (qb : Nat) (W H : Int) (t : QT) : HP := blkH qb 71 #[.int .i64 W, .int .i64 H, t.enc]
def QuadAt (w : World) (qb : Nat) (W H : Int) (t : QT) : Prop := Blk w qb 71 #[.int .i64 W, .int .i64 H, t.enc]
theorem quadAt_of {qb : Nat} {W H : Int} {t : QT} {w : World} (s : Sat (quadH qb W H t) w) : QuadAt w qb W H t := blk_sat s
def overQ (f : Nat → Nat → Int) (t : Int) (x y : Int) : Bool := decide (t ≤ f x.toNat y.toNat)
theorem sOf1 {R : HP} {gb W H p q : Nat} {f : Nat → Nat → Int} {t : Int} (hG : ∀ w, Sat R w → GridAt w gb W H f) (hp : ∀ w, Sat R w → w.cell? ⟨p, 0, none⟩ = some (ptV gb)) (hq : ∀ w, Sat R w → w.cell? ⟨q, 0, none⟩ = some (.int .i64 t)) (x y : Int) (x0 : 0 ≤ x) (x1 : x < W) (y0 : 0 ≤ y) (y1 : y < H) :
    PureR Tryz.prog R 29 [ceV x y, ptV p, ptV q] (.bool (overQ f t x y)) := by
  obtain ⟨i, rfl⟩ : ∃ i : Nat, x = (i : Int) := ⟨x.toNat, by omega⟩
  obtain ⟨j, rfl⟩ : ∃ j : Nat, y = (j : Int) := ⟨y.toNat, by omega⟩
  have hA := fun R' (h : ∀ w, Sat R' w → Sat R w) => gAt_p (R := R') (fun w s => hG w (h w s)) (x := i) (y := j) (by omega) (by omega)
  unfold overQ
  rw [Int.toNat_natCast, Int.toNat_natCast]
  refine fn_of_run0 false Tryz.func29 rfl hmix rfl fun w0 => ?_
  conv => whnf
  refine ⟨trivial, LoadAt.cell (ptV gb) rfl rfl (fun w hw => hp w hw) ?_⟩
  conv => whnf
  refine ⟨trivial, CallAt.pure (fun R' hR' => hA R' hR') ?_⟩
  conv => whnf
  refine ⟨trivial, LoadAt.cell (.int .i64 t) rfl rfl (fun w hw => hq w hw) ?_⟩
  conv => whnf
  exact ⟨trivial, fin_pure rfl rfl⟩
theorem sQOf {R : HP} {gb W H n : Nat} {f : Nat → Nat → Int} (t : Int) (hG : ∀ w, Sat R w → GridAt w gb W H f) (hn : n ≤ 10) (hS : Side (max (W : Int) H) n) :
    FnR Tryz.prog R 9 [ptV gb, .int .i64 t] [] fun r hs => ∃ qb, r = .tuple #[ptV qb, .int .i64 0] ∧ hs = [quadH qb W H (canon (inQ W H (overQ f t)) n 0 0)] := by
  have hp : (2 : Int) ^ n ≤ 2048 := by
    have : ∀ n, n ≤ 10 → (2 : Int) ^ n ≤ 2048 := by decide
    exact this n hn
  have hSz := fun R' (h : ∀ w, Sat R' w → Sat R w) => gSize_p (R := R') (fun w s => hG w (h w s))
  have hWh := fun R' => sQWhole (R := R') (n := n) (by omega) hS
  have hB := fun R' p q h => sQBuild (R := R') (W := W) (H := H) (f := overQ f t) (p := p) (q := q) h n 0 0 (by omega) (by omega) (by omega) (by omega) R' (fun w s => s)
  refine fn_of_run0 false Tryz.func9 rfl hmix rfl fun w0 => ?_
  conv => whnf
  refine ⟨trivial, CallAt.pure (fun R' hR' => hSz R' hR') ?_⟩
  conv => whnf
  refine ⟨trivial, CallAt.pure (fun R' hR' => hWh R') ?_⟩
  conv => whnf
  intro p _
  conv => whnf
  intro q _
  conv => whnf
  refine ⟨trivial, CallAt.pure (fun R' hR' => hB R' p q fun R2 h2 x y x0 x1 y0 y1 => sOf1 (fun w s => hG w (hR' w (h2 w s)).rest) (fun w s => (blk_sat ((hR' w (h2 w s)).in_ 1 rfl)).cell 0) (fun w s => (blk_sat ((hR' w (h2 w s)).in_ 0 rfl)).cell 0) x y x0 x1 y0 y1) ?_⟩
  conv => whnf
  intro qb _
  conv => whnf
  refine ⟨trivial, .mk _ (fun w ⟨h, h1, s⟩ => ?_) ⟨qb, rfl, rfl⟩⟩
  obtain ⟨h', e, s'⟩ := sub_head s
  exact ⟨h', h1.mono e, s'⟩
theorem sQOfNil {R : HP} (t : Int) : PureR Tryz.prog R 9 [.pointer none, .int .i64 t] (.tuple #[.pointer none, .int .i64 1]) := by
  refine fn_of_run0 false Tryz.func9 rfl hmix rfl fun w0 => ?_
  conv => whnf
  exact ⟨trivial, fin_pure rfl rfl⟩
theorem sCheck {R : HP} {a b : Nat} {W H W' H' : Int} {t u : QT} (ha : ∀ w, Sat R w → QuadAt w a W H t) (hb : ∀ w, Sat R w → QuadAt w b W' H' u) : PureR Tryz.prog R 31 [ptV a, ptV b] (.int .i64 (if W = W' ∧ H = H' then 0 else 3)) := by
  by_cases hw : W = W'
  · by_cases hh : H = H'
    · rw [if_pos ⟨hw, hh⟩]
      subst hw hh
      refine fn_of_run0 false Tryz.func31 rfl hmix rfl fun w0 => ?_
      conv => whnf
      refine ⟨trivial, RegAt.quiet hmix (by kernel_rfl) ?_⟩
      conv => whnf
      refine ⟨trivial, LoadAt.cell (.int .i64 _) rfl rfl (fun w hw => (ha w hw).cell 0) ?_⟩
      conv => whnf
      refine ⟨trivial, LoadAt.cell (.int .i64 _) rfl rfl (fun w hw => (hb w hw).cell 0) ?_⟩
      conv => whnf
      refine ⟨fun _ => ?_, fun h => absurd h (by simp)⟩
      conv => whnf
      refine ⟨trivial, LoadAt.cell (.int .i64 _) rfl rfl (fun w hw => (ha w hw).cell 1) ?_⟩
      conv => whnf
      refine ⟨trivial, LoadAt.cell (.int .i64 _) rfl rfl (fun w hw => (hb w hw).cell 1) ?_⟩
      conv => whnf
      refine ⟨trivial, ?_⟩
      conv => whnf
      refine ⟨fun h => absurd h (by simp), fun _ => ?_⟩
      conv => whnf
      exact ⟨trivial, fin_pure rfl rfl⟩
    · rw [if_neg fun h => hh h.2]
      subst hw
      refine fn_of_run0 false Tryz.func31 rfl hmix rfl fun w0 => ?_
      conv => whnf
      refine ⟨trivial, RegAt.quiet hmix (by kernel_rfl) ?_⟩
      conv => whnf
      refine ⟨trivial, LoadAt.cell (.int .i64 _) rfl rfl (fun w hw => (ha w hw).cell 0) ?_⟩
      conv => whnf
      refine ⟨trivial, LoadAt.cell (.int .i64 _) rfl rfl (fun w hw => (hb w hw).cell 0) ?_⟩
      conv => whnf
      refine ⟨fun _ => ?_, fun h => absurd h (by simp)⟩
      conv => whnf
      refine ⟨trivial, LoadAt.cell (.int .i64 _) rfl rfl (fun w hw => (ha w hw).cell 1) ?_⟩
      conv => whnf
      refine ⟨trivial, LoadAt.cell (.int .i64 _) rfl rfl (fun w hw => (hb w hw).cell 1) ?_⟩
      conv => whnf
      refine ⟨trivial, ?_⟩
      conv => whnf
      refine ⟨fun _ => ?_, fun h => absurd h (by simp; omega)⟩
      conv => whnf
      exact ⟨trivial, fin_pure rfl rfl⟩
  · rw [if_neg fun h => hw h.1]
    refine fn_of_run0 false Tryz.func31 rfl hmix rfl fun w0 => ?_
    conv => whnf
    refine ⟨trivial, RegAt.quiet hmix (by kernel_rfl) ?_⟩
    conv => whnf
    refine ⟨trivial, LoadAt.cell (.int .i64 _) rfl rfl (fun w hw => (ha w hw).cell 0) ?_⟩
    conv => whnf
    refine ⟨trivial, LoadAt.cell (.int .i64 _) rfl rfl (fun w hw => (hb w hw).cell 0) ?_⟩
    conv => whnf
    refine ⟨fun h => absurd h (by simp; omega), fun _ => ?_⟩
    conv => whnf
    refine ⟨trivial, ?_⟩
    conv => whnf
    exact ⟨trivial, fin_pure rfl rfl⟩
/-- a quad, or none -/
def pv : Option Nat → Value
  | none => .pointer none
  | some a => ptV a
theorem sCheckNil {R : HP} {x y : Option Nat} (h : x = none ∨ y = none) : PureR Tryz.prog R 31 [pv x, pv y] (.int .i64 1) := by
  cases x with
  | none =>
    refine fn_of_run0 false Tryz.func31 rfl hmix rfl fun w0 => ?_
    conv => whnf
    exact ⟨trivial, fin_pure rfl rfl⟩
  | some a =>
    obtain rfl : y = none := by simpa using h
    refine fn_of_run0 false Tryz.func31 rfl hmix rfl fun w0 => ?_
    conv => whnf
    exact ⟨trivial, fin_pure rfl rfl⟩
theorem sAndBad {R : HP} {va vb : Value} {e : Int} (he : e ≠ 0) (hc : ∀ R', (∀ w, Sat R' w → Sat R w) → PureR Tryz.prog R' 31 [va, vb] (.int .i64 e)) : PureR Tryz.prog R 11 [va, vb] (.tuple #[.pointer none, .int .i64 e]) := by
  refine fn_of_run0 false Tryz.func11 rfl hmix rfl fun w0 => ?_
  conv => whnf
  refine ⟨trivial, CallAt.pure (fun R' hR' => hc R' hR') ?_⟩
  conv => whnf
  refine iff_t (by simpa using he) ?_
  conv => whnf
  exact ⟨trivial, fin_pure rfl rfl⟩
theorem sOrBad {R : HP} {va vb : Value} {e : Int} (he : e ≠ 0) (hc : ∀ R', (∀ w, Sat R' w → Sat R w) → PureR Tryz.prog R' 31 [va, vb] (.int .i64 e)) : PureR Tryz.prog R 12 [va, vb] (.tuple #[.pointer none, .int .i64 e]) := by
  refine fn_of_run0 false Tryz.func12 rfl hmix rfl fun w0 => ?_
  conv => whnf
  refine ⟨trivial, CallAt.pure (fun R' hR' => hc R' hR') ?_⟩
  conv => whnf
  refine iff_t (by simpa using he) ?_
  conv => whnf
  exact ⟨trivial, fin_pure rfl rfl⟩
theorem sLessBad {R : HP} {va vb : Value} {e : Int} (he : e ≠ 0) (hc : ∀ R', (∀ w, Sat R' w → Sat R w) → PureR Tryz.prog R' 31 [va, vb] (.int .i64 e)) : PureR Tryz.prog R 13 [va, vb] (.tuple #[.pointer none, .int .i64 e]) := by
  refine fn_of_run0 false Tryz.func13 rfl hmix rfl fun w0 => ?_
  conv => whnf
  refine ⟨trivial, CallAt.pure (fun R' hR' => hc R' hR') ?_⟩
  conv => whnf
  refine iff_t (by simpa using he) ?_
  conv => whnf
  exact ⟨trivial, fin_pure rfl rfl⟩
theorem sNotNil {R : HP} : PureR Tryz.prog R 14 [.pointer none] (.tuple #[.pointer none, .int .i64 1]) := by
  refine fn_of_run0 false Tryz.func14 rfl hmix rfl fun w0 => ?_
  conv => whnf
  exact ⟨trivial, fin_pure rfl rfl⟩
theorem sQSizeNil {R : HP} : PureR Tryz.prog R 34 [.pointer none] (.tuple #[.int .i64 0, .int .i64 0]) := by
  refine fn_of_run0 false Tryz.func34 rfl hmix rfl fun w0 => ?_
  conv => whnf
  exact ⟨trivial, fin_pure rfl rfl⟩
theorem sPrintNilQ {R : HP} : PureR Tryz.prog R 19 [.pointer none] (.tuple #[.string (bs []), .int .i64 1]) := by
  refine fn_of_run0 false Tryz.func19 rfl hmix rfl fun w0 => ?_
  conv => whnf
  exact ⟨trivial, fin_pure rfl rfl⟩
theorem sLeavesNil {R : HP} : PureR Tryz.prog R 38 [.pointer none] (.slice none 0 0) := by
  refine fn_of_run0 false Tryz.func38 rfl hmix rfl fun w0 => ?_
  conv => whnf
  exact ⟨trivial, fin_pure rfl rfl⟩
theorem sHasNil {R : HP} (x y : Int) : PureR Tryz.prog R 20 [.pointer none, ceV x y] (.bool false) := by
  refine fn_of_run0 false Tryz.func20 rfl hmix rfl fun w0 => ?_
  conv => whnf
  refine ⟨trivial, RegAt.quiet hmix (by kernel_rfl) ?_⟩
  conv => whnf
  refine ⟨trivial, ?_⟩
  conv => whnf
  exact ⟨trivial, fin_pure rfl rfl⟩
theorem sCountNil {R : HP} : PureR Tryz.prog R 36 [.pointer none] (.int .i64 0) := by
  refine fn_of_run0 false Tryz.func36 rfl hmix rfl fun w0 => ?_
  conv => whnf
  refine ⟨trivial, CallAt.pure (fun R' hR' => sLeavesNil) ?_⟩
  conv => whnf
  refine ⟨trivial, LoopAt.keep (α := Nat) [7, 8] (fun i => [(3, .v (.int .i64 0)), (9, .v (.int .i64 0))]) (fun i => i = 0) (fun i => 0) 0 rfl rfl ⟨⟨rfl, rfl⟩, ⟨rfl, rfl⟩, trivial⟩ ⟨⟨rfl, rfl⟩, ⟨rfl, rfl⟩, trivial⟩ trivial ?_⟩
  rintro i rfl
  conv => whnf
  refine iff_f (by decide) ?_
  conv => whnf
  exact ⟨trivial, fin_pure rfl rfl⟩
theorem sSizeQ {R : HP} {a : Nat} {W H : Int} {t : QT} (ha : ∀ w, Sat R w → QuadAt w a W H t) : PureR Tryz.prog R 34 [ptV a] (.tuple #[.int .i64 W, .int .i64 H]) := by
  refine fn_of_run0 false Tryz.func34 rfl hmix rfl fun w0 => ?_
  conv => whnf
  refine ⟨trivial, RegAt.quiet hmix (by kernel_rfl) ?_⟩
  conv => whnf
  refine ⟨trivial, LoadAt.cell (.int .i64 W) rfl rfl (fun w hw => (ha w hw).cell 0) ?_⟩
  conv => whnf
  refine ⟨trivial, LoadAt.cell (.int .i64 H) rfl rfl (fun w hw => (ha w hw).cell 1) ?_⟩
  conv => whnf
  refine ⟨trivial, ?_⟩
  conv => whnf
  exact ⟨trivial, fin_pure rfl rfl⟩
theorem sAndF {R : HP} {a b : Nat} {W H : Int} {t u : QT} (ha : ∀ w, Sat R w → QuadAt w a W H t) (hb : ∀ w, Sat R w → QuadAt w b W H u) :
    FnR Tryz.prog R 11 [ptV a, ptV b] [] fun r hs => ∃ qb, r = .tuple #[ptV qb, .int .i64 0] ∧ hs = [quadH qb W H (andQ t u)] := by
  have hck : ∀ R', (∀ w, Sat R' w → Sat R w) → PureR Tryz.prog R' 31 [ptV a, ptV b] (.int .i64 0) := fun R' h => by
    have := sCheck (R := R') (fun w s => ha w (h w s)) (fun w s => hb w (h w s))
    rwa [if_pos ⟨rfl, rfl⟩] at this
  refine fn_of_run0 false Tryz.func11 rfl hmix rfl fun w0 => ?_
  conv => whnf
  refine ⟨trivial, CallAt.pure (fun R' hR' => hck R' hR') ?_⟩
  conv => whnf
  refine iff_f rfl ?_
  conv => whnf
  refine ⟨trivial, RegAt.trees [((Tr.T 0 (Tr.T 1 (Tr.T 2 (Tr.T 3 (Tr.T 4 (Tr.T 5 (Tr.T 6 (Tr.T 7 (Tr.T 8 (Tr.T 9 (Tr.T 10 (Tr.T 11 (Tr.T 12 (Tr.T 13 (Tr.T 14 (Tr.T 15 (Tr.H 16 Tr.E))))))))))))))))), 17), ((Tr.T 17 Tr.E), 18), ((Tr.H 18 Tr.E), 19), ((Tr.T 19 Tr.E), 20), ((Tr.T 20 Tr.E), 21)] hmix (by kernel_rfl) ?_⟩
  conv => whnf
  refine ⟨trivial, LoadAt.cell (.int .i64 W) rfl rfl (fun w hw => (ha w hw).cell 0) ?_⟩
  conv => whnf
  refine ⟨trivial, LoadAt.cell (.int .i64 H) rfl rfl (fun w hw => (ha w hw).cell 1) ?_⟩
  conv => whnf
  refine ⟨trivial, LoadAt.cell t.enc rfl rfl (fun w hw => (ha w hw).cell 2) ?_⟩
  conv => whnf
  refine ⟨trivial, LoadAt.cell u.enc rfl rfl (fun w hw => (hb w hw).cell 2) ?_⟩
  conv => whnf
  refine ⟨trivial, CallAt.pure (fun R' hR' => sAnd t u) ?_⟩
  conv => whnf
  refine ⟨trivial, ⟨⟨rfl, rfl⟩, fun h s => sub_same s⟩, ?_⟩
  conv => whnf
  refine ⟨trivial, ?_⟩
  conv => whnf
  refine ⟨trivial, ?_⟩
  conv => whnf
  intro qb _
  conv => whnf
  exact ⟨trivial, .mk _ (fun w s => s) ⟨qb, rfl, rfl⟩⟩
end Go.Proofs.YtojlgfkjnkjcmaaGreatDoor

/-
  quad.Print: the signs of a tree, through the interface's method; the text of a quad.
-/
namespace Go.Proofs.YtojlgfkjnkjcmaaGreatDoor
open Go.RowKit
open Sy
set_option linter.unusedVariables false
set_option linter.unusedSimpArgs false
set_option maxRecDepth 100000
set_option maxHeartbeats 4000000

def printQ : QT → List UInt8
  | .leaf b => [if b then 35 else 46]
  | .node a b c d => 43 :: (printQ a ++ printQ b ++ printQ c ++ printQ d)
def QT.fn : QT → FuncId
  | .leaf _ => 148
  | .node _ _ _ _ => 144
theorem sLeafPrint {R : HP} {bp : Nat} {l : List UInt8} (b : Bool) (hl : l.length ≤ 999999) : FnR Tryz.prog R 148 [.bool b, ptV bp] [bldH bp l] fun r hs => r = .tuple #[] ∧ hs = [bldH bp (l ++ [if b then 35 else 46])] := by
  cases b with
  | true =>
    refine fn_of_run0 false Tryz.func148 rfl hmix rfl fun w0 => ?_
    conv => whnf
    repeat (first | (refine ⟨fun _ => ?_, fun h => absurd h (by decide)⟩; conv => whnf) | (refine ⟨fun h => absurd h (by decide), fun _ => ?_⟩; conv => whnf))
    refine ⟨trivial, CallAt.fn (pre := [bldH bp l]) _ (fun h s => s) (fun R' _ => sWriteRune1 35 (by decide) (by omega)) ?_⟩
    rintro r hs ⟨rfl, rfl⟩
    conv => whnf
    exact ⟨trivial, .mk _ (fun w s => s) ⟨rfl, rfl⟩⟩
  | false =>
    refine fn_of_run0 false Tryz.func148 rfl hmix rfl fun w0 => ?_
    conv => whnf
    repeat (first | (refine ⟨fun _ => ?_, fun h => absurd h (by decide)⟩; conv => whnf) | (refine ⟨fun h => absurd h (by decide), fun _ => ?_⟩; conv => whnf))
    refine ⟨trivial, CallAt.fn (pre := [bldH bp l]) _ (fun h s => s) (fun R' _ => sWriteRune1 46 (by decide) (by omega)) ?_⟩
    rintro r hs ⟨rfl, rfl⟩
    conv => whnf
    exact ⟨trivial, .mk _ (fun w s => s) ⟨rfl, rfl⟩⟩
def pk (K : Nat → QT) : Nat → List UInt8
  | 0 => []
  | i + 1 => pk K i ++ printQ (K i)
theorem sPrintT : ∀ (t : QT) {R : HP} (bp : Nat) (l : List UInt8), l.length + (printQ t).length ≤ 1000000 → FnR Tryz.prog R t.fn [t.va, ptV bp] [bldH bp l] fun r hs => r = .tuple #[] ∧ hs = [bldH bp (l ++ printQ t)] := by
  intro t
  induction t with
  | leaf b =>
    intro R bp l hl
    simp [printQ] at hl
    exact sLeafPrint b (by omega)
  | node a b c d iha ihb ihc ihd =>
    intro R bp l hl
    simp [printQ] at hl
    have he : printQ (.node a b c d) = [43] ++ pk (QT.kid a b c d) 4 := by simp [printQ, pk, QT.kid]
    rw [he]
    clear he
    show FnR Tryz.prog R 144 [.agg #[a.enc, b.enc, c.enc, d.enc], ptV bp] [bldH bp l] _
    refine fn_of_run0 false Tryz.func144 rfl hmix rfl fun w0 => ?_
    conv => whnf
    refine ⟨trivial, CallAt.fn (pre := [bldH bp l]) _ (fun h s => s) (fun R' _ => sWriteRune1 43 (by decide) (by omega)) ?_⟩
    rintro r hs ⟨rfl, rfl⟩
    conv => whnf
    refine ⟨trivial, LoopAt.of (α := Nat) [1, 8] (fun i => [(9, .v (.int .i64 (i : Int)))]) (fun _ => []) (fun i => [bldH bp (l ++ [43] ++ pk (QT.kid a b c d) i)]) (fun i => i ≤ 4) (fun i => 4 - i) 0 (Nat.zero_le _)
      (Le.of (Nat.le_of_ble_eq_true rfl) (Nat.zero_le _) ⟨⟨rfl, rfl⟩, ⟨rfl, rfl⟩, ⟨rfl, rfl⟩, trivial⟩ trivial fun h s => sub_same (by show sepL [bldH bp (l ++ [43] ++ [])] _ h; rw [List.append_nil]; exact s)) ?_⟩
    intro i hi
    rcases (show i = 0 ∨ i = 1 ∨ i = 2 ∨ i = 3 ∨ i = 4 by omega) with rfl | rfl | rfl | rfl | rfl
    · conv => whnf
      repeat (first | (refine ⟨fun _ => ?_, fun h => absurd h (by decide)⟩; conv => whnf) | (refine ⟨fun h => absurd h (by decide), fun _ => ?_⟩; conv => whnf))
      refine ⟨⟨trivial, by decide, by decide⟩, OpAt.enter (pre := [bldH bp (l ++ [43] ++ pk (QT.kid a b c d) 0)]) a.fn [a.va, ptV bp] [] (fun h s => s) rfl rfl (fun w => by cases a <;> kernel_rfl) (fun R' _ => iha bp (l ++ [43] ++ pk (QT.kid a b c d) 0) (by simp [pk, QT.kid]; omega)) ?_⟩
      rintro r hs ⟨rfl, rfl⟩
      conv => whnf
      refine ⟨⟨trivial, by unfold rng; decide⟩, .mk (0 + 1) (by decide) (by decide) (Le.of (Nat.le_of_ble_eq_true rfl) (Nat.zero_le _) ⟨⟨rfl, rfl⟩, ⟨rfl, rfl⟩, ⟨rfl, rfl⟩, trivial⟩ trivial fun h s => ?_)⟩
      refine sub_same ?_
      show sepL [bldH bp (l ++ [43] ++ (pk (QT.kid a b c d) 0 ++ printQ (QT.kid a b c d 0)))] R h
      rw [← List.append_assoc]
      exact s
    · conv => whnf
      repeat (first | (refine ⟨fun _ => ?_, fun h => absurd h (by decide)⟩; conv => whnf) | (refine ⟨fun h => absurd h (by decide), fun _ => ?_⟩; conv => whnf))
      refine ⟨⟨trivial, by decide, by decide⟩, OpAt.enter (pre := [bldH bp (l ++ [43] ++ pk (QT.kid a b c d) 1)]) b.fn [b.va, ptV bp] [] (fun h s => s) rfl rfl (fun w => by cases b <;> kernel_rfl) (fun R' _ => ihb bp (l ++ [43] ++ pk (QT.kid a b c d) 1) (by simp [pk, QT.kid]; omega)) ?_⟩
      rintro r hs ⟨rfl, rfl⟩
      conv => whnf
      refine ⟨⟨trivial, by unfold rng; decide⟩, .mk (1 + 1) (by decide) (by decide) (Le.of (Nat.le_of_ble_eq_true rfl) (Nat.zero_le _) ⟨⟨rfl, rfl⟩, ⟨rfl, rfl⟩, ⟨rfl, rfl⟩, trivial⟩ trivial fun h s => ?_)⟩
      refine sub_same ?_
      show sepL [bldH bp (l ++ [43] ++ (pk (QT.kid a b c d) 1 ++ printQ (QT.kid a b c d 1)))] R h
      rw [← List.append_assoc]
      exact s
    · conv => whnf
      repeat (first | (refine ⟨fun _ => ?_, fun h => absurd h (by decide)⟩; conv => whnf) | (refine ⟨fun h => absurd h (by decide), fun _ => ?_⟩; conv => whnf))
      refine ⟨⟨trivial, by decide, by decide⟩, OpAt.enter (pre := [bldH bp (l ++ [43] ++ pk (QT.kid a b c d) 2)]) c.fn [c.va, ptV bp] [] (fun h s => s) rfl rfl (fun w => by cases c <;> kernel_rfl) (fun R' _ => ihc bp (l ++ [43] ++ pk (QT.kid a b c d) 2) (by simp [pk, QT.kid]; omega)) ?_⟩
      rintro r hs ⟨rfl, rfl⟩
      conv => whnf
      refine ⟨⟨trivial, by unfold rng; decide⟩, .mk (2 + 1) (by decide) (by decide) (Le.of (Nat.le_of_ble_eq_true rfl) (Nat.zero_le _) ⟨⟨rfl, rfl⟩, ⟨rfl, rfl⟩, ⟨rfl, rfl⟩, trivial⟩ trivial fun h s => ?_)⟩
      refine sub_same ?_
      show sepL [bldH bp (l ++ [43] ++ (pk (QT.kid a b c d) 2 ++ printQ (QT.kid a b c d 2)))] R h
      rw [← List.append_assoc]
      exact s
    · conv => whnf
      repeat (first | (refine ⟨fun _ => ?_, fun h => absurd h (by decide)⟩; conv => whnf) | (refine ⟨fun h => absurd h (by decide), fun _ => ?_⟩; conv => whnf))
      refine ⟨⟨trivial, by decide, by decide⟩, OpAt.enter (pre := [bldH bp (l ++ [43] ++ pk (QT.kid a b c d) 3)]) d.fn [d.va, ptV bp] [] (fun h s => s) rfl rfl (fun w => by cases d <;> kernel_rfl) (fun R' _ => ihd bp (l ++ [43] ++ pk (QT.kid a b c d) 3) (by simp [pk, QT.kid]; omega)) ?_⟩
      rintro r hs ⟨rfl, rfl⟩
      conv => whnf
      refine ⟨⟨trivial, by unfold rng; decide⟩, .mk (3 + 1) (by decide) (by decide) (Le.of (Nat.le_of_ble_eq_true rfl) (Nat.zero_le _) ⟨⟨rfl, rfl⟩, ⟨rfl, rfl⟩, ⟨rfl, rfl⟩, trivial⟩ trivial fun h s => ?_)⟩
      refine sub_same ?_
      show sepL [bldH bp (l ++ [43] ++ (pk (QT.kid a b c d) 3 ++ printQ (QT.kid a b c d 3)))] R h
      rw [← List.append_assoc]
      exact s
    · conv => whnf
      repeat (first | (refine ⟨fun _ => ?_, fun h => absurd h (by decide)⟩; conv => whnf) | (refine ⟨fun h => absurd h (by decide), fun _ => ?_⟩; conv => whnf))
      refine ⟨trivial, .mk _ (fun w s => s) ⟨rfl, ?_⟩⟩
      rw [← List.append_assoc]
def TabW (w : World) : Prop := Lib.TabIs Tryz.prog w "internal/strconv.uint64pow10" .u64 Lib.pow10Tab
theorem sFormatW {R : HP} (hN : ∀ w, Sat R w → TabW w) (n : Int) (h0 : -9223372036854775808 ≤ n) (h1 : n ≤ 9223372036854775807) : PureR Tryz.prog R 69 [.int .i64 n, .int .i64 10] (.string (bs (Lib.itoa n))) := by
  refine PureR.of_below fun w hw => (strconv_FormatInt_10 n h0 h1 w (hN w hw)).mono ?_
  rintro e w' ⟨rfl, k, os, rfl⟩
  exact ⟨rfl, Lib.below_grow _ w (Nat.le_refl _) k os⟩
theorem sPrintW {R : HP} (hN : ∀ w, Sat R w → TabW w) (n : Int) (h0 : -9223372036854775808 ≤ n) (h1 : n ≤ 9223372036854775807) : PureR Tryz.prog R 45 [.int .i64 n] (.string (bs (Lib.itoa n))) := by
  refine fn_of_run0 false Tryz.func45 rfl hmix rfl fun w0 => ?_
  conv => whnf
  refine ⟨trivial, CallAt.pure (fun R' hR' => sFormatW (fun w hw => hN w (hR' w hw)) n h0 h1) ?_⟩
  conv => whnf
  exact ⟨trivial, fin_drop rfl⟩
def textQ (W H : Int) (t : QT) : List UInt8 := Lib.itoa W ++ [32] ++ Lib.itoa H ++ [32] ++ printQ t
end Go.Proofs.YtojlgfkjnkjcmaaGreatDoor

/-
  quad.not: what a set hasn't.
-/
namespace Go.Proofs.YtojlgfkjnkjcmaaGreatDoor
open Go.RowKit
open Sy
set_option linter.unusedVariables false
set_option linter.unusedSimpArgs false
set_option maxRecDepth 100000
set_option maxHeartbeats 4000000

/-- no deeper than so many halvings -/
def fitsQ : Nat → QT → Prop
  | _, .leaf _ => True
  | 0, .node _ _ _ _ => False
  | n + 1, .node a b c d => fitsQ n a ∧ fitsQ n b ∧ fitsQ n c ∧ fitsQ n d
theorem fits_leaf (n : Nat) (b : Bool) : fitsQ n (.leaf b) := by cases n <;> exact trivial
theorem fits_four {n : Nat} {a b c d : QT} (h1 : fitsQ n a) (h2 : fitsQ n b) (h3 : fitsQ n c) (h4 : fitsQ n d) : fitsQ (n + 1) (fourQ a b c d) := by
  rcases fourQ_or a b c d with ⟨x, e, _⟩ | e
  · rw [e]; exact fits_leaf _ _
  · rw [e]; exact ⟨h1, h2, h3, h4⟩
theorem canon_fits {g : Int → Int → Bool} : ∀ {n : Nat} {x y : Int}, fitsQ n (canon g n x y)
  | 0, _, _ => trivial
  | n + 1, x, y => fits_four canon_fits canon_fits canon_fits canon_fits
theorem sNotOut {R : HP} {W H x y s : Int} {v : Value} (h : W ≤ x ∨ H ≤ y) : PureR Tryz.prog R 60 [v, sqV x y s, .int .i64 W, .int .i64 H] (QT.leaf false).enc := by
  refine fn_of_run0 false Tryz.func60 rfl hmix rfl fun w0 => ?_
  conv => whnf
  by_cases hw : W ≤ x
  · refine ⟨fun g => absurd g (by simp; omega), fun _ => ?_⟩
    conv => whnf
    exact ⟨trivial, fin_pure rfl rfl⟩
  · refine ⟨fun _ => ?_, fun g => absurd g (by simp; omega)⟩
    conv => whnf
    refine iff_t (by simp; omega) ?_
    conv => whnf
    exact ⟨trivial, fin_pure rfl rfl⟩
theorem sNotLeaf {R : HP} {W H x y s : Int} {l : Bool} (h0 : 0 ≤ x ∧ x ≤ 4096) (h1 : 0 ≤ y ∧ y ≤ 4096) (h2 : 0 ≤ s ∧ s ≤ 4096) (hi : ¬ (W ≤ x ∨ H ≤ y)) (h : (x + s ≤ W ∧ y + s ≤ H) ∨ s = 1) : PureR Tryz.prog R 60 [(QT.leaf l).enc, sqV x y s, .int .i64 W, .int .i64 H] (QT.leaf (!l)).enc := by
  by_cases hx : x + s ≤ W
  · by_cases hy : y + s ≤ H
    · refine fn_of_run0 false Tryz.func60 rfl hmix rfl fun w0 => ?_
      conv => whnf
      refine ⟨fun _ => ?_, fun g => absurd g (by simp; omega)⟩
      conv => whnf
      refine iff_f (by simp; omega) ?_
      conv => whnf
      repeat (first | (refine And.intro ?_ ?_; rotate_left; (intro g; exfalso; (simp at g <;> omega)); intro _; conv => whnf) | (refine And.intro ?_ ?_; (intro g; exfalso; (simp at g <;> omega)); intro _; conv => whnf))
      refine ⟨?_, fin_pure rfl rfl⟩
      repeat' apply And.intro
      all_goals first | exact True.intro | omega | (unfold rng; omega)
    · refine fn_of_run0 false Tryz.func60 rfl hmix rfl fun w0 => ?_
      conv => whnf
      refine ⟨fun _ => ?_, fun g => absurd g (by simp; omega)⟩
      conv => whnf
      refine iff_f (by simp; omega) ?_
      conv => whnf
      repeat (first | (refine And.intro ?_ ?_; rotate_left; (intro g; exfalso; (simp at g <;> omega)); intro _; conv => whnf) | (refine And.intro ?_ ?_; (intro g; exfalso; (simp at g <;> omega)); intro _; conv => whnf))
      refine ⟨?_, fin_pure rfl rfl⟩
      repeat' apply And.intro
      all_goals first | exact True.intro | omega | (unfold rng; omega)
  · refine fn_of_run0 false Tryz.func60 rfl hmix rfl fun w0 => ?_
    conv => whnf
    refine ⟨fun _ => ?_, fun g => absurd g (by simp; omega)⟩
    conv => whnf
    refine iff_f (by simp; omega) ?_
    conv => whnf
    repeat (first | (refine And.intro ?_ ?_; rotate_left; (intro g; exfalso; (simp at g <;> omega)); intro _; conv => whnf) | (refine And.intro ?_ ?_; (intro g; exfalso; (simp at g <;> omega)); intro _; conv => whnf))
    refine ⟨?_, fin_pure rfl rfl⟩
    repeat' apply And.intro
    all_goals first | exact True.intro | omega | (unfold rng; omega)
/-- a square that is gone through part by part -/
theorem sNotStep {R : HP} {W H x y s h : Int} {K T : Nat → QT} {t : QT} (hs : s = h + h) (h0 : 0 ≤ h ∧ h ≤ 2048) (hx : 0 ≤ x ∧ x ≤ 4096) (hy : 0 ≤ y ∧ y ≤ 4096) (hh : 1 ≤ h) (hi : ¬ (W ≤ x ∨ H ≤ y))
    (ht : (∃ l, t = .leaf l ∧ ¬ (x + s ≤ W ∧ y + s ≤ H) ∧ ∀ j, T j = .leaf l) ∨ t = .node (T 0) (T 1) (T 2) (T 3))
    (ih : ∀ j, j < 4 → ∀ R', PureR Tryz.prog R' 60 [(T j).enc, sqV (qx x h j) (qy y h j) h, .int .i64 W, .int .i64 H] (K j).enc) :
    PureR Tryz.prog R 60 [t.enc, sqV x y s, .int .i64 W, .int .i64 H] (fourQ (K 0) (K 1) (K 2) (K 3)).enc := by
  have hq := fun R' i hi => sQuarter (R := R') (x := x) (y := y) (s := s) (h := h) (i := i) hs (by omega) hx hy hi
  rcases ht with ⟨l, rfl, hin, hT⟩ | rfl
  · have ih : ∀ j, j < 4 → ∀ R', PureR Tryz.prog R' 60 [(QT.leaf l).enc, sqV (qx x h j) (qy y h j) h, .int .i64 W, .int .i64 H] (K j).enc := fun j hj R' => by
      have := ih j hj R'
      rwa [hT] at this
    by_cases hx2 : x + s ≤ W
    · refine fn_of_run0 false Tryz.func60 rfl hmix rfl fun w0 => ?_
      conv => whnf
      refine ⟨fun _ => ?_, fun g => absurd g (by simp; omega)⟩
      conv => whnf
      refine iff_f (by simp; omega) ?_
      conv => whnf
      repeat (first | (refine And.intro ?_ ?_; rotate_left; (intro g; exfalso; (simp at g <;> omega)); intro _; conv => whnf) | (refine And.intro ?_ ?_; (intro g; exfalso; (simp at g <;> omega)); intro _; conv => whnf))
      refine ⟨?_, LoopAt.of (α := Nat) [2, 3, 5, 12, 73] (fun i => [(74, .v (.int .i64 (i : Int)))]) (fun i => [(1, 101, [cellQ K i 0, cellQ K i 1, cellQ K i 2, cellQ K i 3]), (0, 66, [.v (.int .i64 x), .v (.int .i64 y), .v (.int .i64 s)])]) (fun _ => []) (fun i => i ≤ 4) (fun i => 4 - i) 0 (Nat.zero_le _)
        (Le.of (Nat.le_of_ble_eq_true rfl) (Nat.zero_le _) ⟨⟨rfl, rfl⟩, ⟨rfl, rfl⟩, ⟨rfl, rfl⟩, ⟨rfl, rfl⟩, ⟨rfl, rfl⟩, ⟨rfl, rfl⟩, trivial⟩ ⟨⟨rfl, rfl, rfl, rfl⟩, ⟨rfl, rfl, rfl, rfl⟩, trivial⟩ fun h s => sub_same s) ?_⟩
      · repeat' apply And.intro
        all_goals first | exact True.intro | omega | (unfold rng; omega)
      intro i hi
      rcases (show i = 0 ∨ i = 1 ∨ i = 2 ∨ i = 3 ∨ i = 4 by omega) with rfl | rfl | rfl | rfl | rfl
      · conv => whnf
        repeat (first | (refine And.intro ?_ ?_; rotate_left; (intro g; exfalso; (simp at g <;> omega)); intro _; conv => whnf) | (refine And.intro ?_ ?_; (intro g; exfalso; (simp at g <;> omega)); intro _; conv => whnf))
        refine ⟨?_, CallAt.pure (fun R' hR' => hq R' 0 (by omega)) ?_⟩
        · repeat' apply And.intro
          all_goals first | exact True.intro | decide
        conv => whnf
        refine ⟨trivial, CallAt.pure (fun R' hR' => ih 0 (by omega) R') ?_⟩
        conv => whnf
        refine ⟨?_, .mk (0 + 1) (by decide) (by decide) (Le.of (Nat.le_of_ble_eq_true rfl) (Nat.zero_le _) ⟨⟨rfl, rfl⟩, ⟨rfl, rfl⟩, ⟨rfl, rfl⟩, ⟨rfl, rfl⟩, ⟨rfl, rfl⟩, ⟨rfl, rfl⟩, trivial⟩ ⟨⟨rfl, rfl, rfl, rfl⟩, ⟨rfl, rfl, rfl, rfl⟩, trivial⟩ fun h s => sub_same s)⟩
        repeat' apply And.intro
        all_goals first | exact True.intro | decide | (unfold rng; decide)
      · conv => whnf
        repeat (first | (refine And.intro ?_ ?_; rotate_left; (intro g; exfalso; (simp at g <;> omega)); intro _; conv => whnf) | (refine And.intro ?_ ?_; (intro g; exfalso; (simp at g <;> omega)); intro _; conv => whnf))
        refine ⟨?_, CallAt.pure (fun R' hR' => hq R' 1 (by omega)) ?_⟩
        · repeat' apply And.intro
          all_goals first | exact True.intro | decide
        conv => whnf
        refine ⟨trivial, CallAt.pure (fun R' hR' => ih 1 (by omega) R') ?_⟩
        conv => whnf
        refine ⟨?_, .mk (1 + 1) (by decide) (by decide) (Le.of (Nat.le_of_ble_eq_true rfl) (Nat.zero_le _) ⟨⟨rfl, rfl⟩, ⟨rfl, rfl⟩, ⟨rfl, rfl⟩, ⟨rfl, rfl⟩, ⟨rfl, rfl⟩, ⟨rfl, rfl⟩, trivial⟩ ⟨⟨rfl, rfl, rfl, rfl⟩, ⟨rfl, rfl, rfl, rfl⟩, trivial⟩ fun h s => sub_same s)⟩
        repeat' apply And.intro
        all_goals first | exact True.intro | decide | (unfold rng; decide)
      · conv => whnf
        repeat (first | (refine And.intro ?_ ?_; rotate_left; (intro g; exfalso; (simp at g <;> omega)); intro _; conv => whnf) | (refine And.intro ?_ ?_; (intro g; exfalso; (simp at g <;> omega)); intro _; conv => whnf))
        refine ⟨?_, CallAt.pure (fun R' hR' => hq R' 2 (by omega)) ?_⟩
        · repeat' apply And.intro
          all_goals first | exact True.intro | decide
        conv => whnf
        refine ⟨trivial, CallAt.pure (fun R' hR' => ih 2 (by omega) R') ?_⟩
        conv => whnf
        refine ⟨?_, .mk (2 + 1) (by decide) (by decide) (Le.of (Nat.le_of_ble_eq_true rfl) (Nat.zero_le _) ⟨⟨rfl, rfl⟩, ⟨rfl, rfl⟩, ⟨rfl, rfl⟩, ⟨rfl, rfl⟩, ⟨rfl, rfl⟩, ⟨rfl, rfl⟩, trivial⟩ ⟨⟨rfl, rfl, rfl, rfl⟩, ⟨rfl, rfl, rfl, rfl⟩, trivial⟩ fun h s => sub_same s)⟩
        repeat' apply And.intro
        all_goals first | exact True.intro | decide | (unfold rng; decide)
      · conv => whnf
        repeat (first | (refine And.intro ?_ ?_; rotate_left; (intro g; exfalso; (simp at g <;> omega)); intro _; conv => whnf) | (refine And.intro ?_ ?_; (intro g; exfalso; (simp at g <;> omega)); intro _; conv => whnf))
        refine ⟨?_, CallAt.pure (fun R' hR' => hq R' 3 (by omega)) ?_⟩
        · repeat' apply And.intro
          all_goals first | exact True.intro | decide
        conv => whnf
        refine ⟨trivial, CallAt.pure (fun R' hR' => ih 3 (by omega) R') ?_⟩
        conv => whnf
        refine ⟨?_, .mk (3 + 1) (by decide) (by decide) (Le.of (Nat.le_of_ble_eq_true rfl) (Nat.zero_le _) ⟨⟨rfl, rfl⟩, ⟨rfl, rfl⟩, ⟨rfl, rfl⟩, ⟨rfl, rfl⟩, ⟨rfl, rfl⟩, ⟨rfl, rfl⟩, trivial⟩ ⟨⟨rfl, rfl, rfl, rfl⟩, ⟨rfl, rfl, rfl, rfl⟩, trivial⟩ fun h s => sub_same s)⟩
        repeat' apply And.intro
        all_goals first | exact True.intro | decide | (unfold rng; decide)
      · conv => whnf
        refine ⟨fun h => absurd h (by simp), fun _ => ?_⟩
        conv => whnf
        refine ⟨trivial, CallAt.pure (fun R' hR' => sFour (K 0) (K 1) (K 2) (K 3)) ?_⟩
        conv => whnf
        exact ⟨trivial, fin_pure rfl rfl⟩
    · refine fn_of_run0 false Tryz.func60 rfl hmix rfl fun w0 => ?_
      conv => whnf
      refine ⟨fun _ => ?_, fun g => absurd g (by simp; omega)⟩
      conv => whnf
      refine iff_f (by simp; omega) ?_
      conv => whnf
      repeat (first | (refine And.intro ?_ ?_; rotate_left; (intro g; exfalso; (simp at g <;> omega)); intro _; conv => whnf) | (refine And.intro ?_ ?_; (intro g; exfalso; (simp at g <;> omega)); intro _; conv => whnf))
      refine ⟨?_, LoopAt.of (α := Nat) [2, 3, 5, 12, 73] (fun i => [(74, .v (.int .i64 (i : Int)))]) (fun i => [(1, 101, [cellQ K i 0, cellQ K i 1, cellQ K i 2, cellQ K i 3]), (0, 66, [.v (.int .i64 x), .v (.int .i64 y), .v (.int .i64 s)])]) (fun _ => []) (fun i => i ≤ 4) (fun i => 4 - i) 0 (Nat.zero_le _)
        (Le.of (Nat.le_of_ble_eq_true rfl) (Nat.zero_le _) ⟨⟨rfl, rfl⟩, ⟨rfl, rfl⟩, ⟨rfl, rfl⟩, ⟨rfl, rfl⟩, ⟨rfl, rfl⟩, ⟨rfl, rfl⟩, trivial⟩ ⟨⟨rfl, rfl, rfl, rfl⟩, ⟨rfl, rfl, rfl, rfl⟩, trivial⟩ fun h s => sub_same s) ?_⟩
      · repeat' apply And.intro
        all_goals first | exact True.intro | omega | (unfold rng; omega)
      intro i hi
      rcases (show i = 0 ∨ i = 1 ∨ i = 2 ∨ i = 3 ∨ i = 4 by omega) with rfl | rfl | rfl | rfl | rfl
      · conv => whnf
        repeat (first | (refine And.intro ?_ ?_; rotate_left; (intro g; exfalso; (simp at g <;> omega)); intro _; conv => whnf) | (refine And.intro ?_ ?_; (intro g; exfalso; (simp at g <;> omega)); intro _; conv => whnf))
        refine ⟨?_, CallAt.pure (fun R' hR' => hq R' 0 (by omega)) ?_⟩
        · repeat' apply And.intro
          all_goals first | exact True.intro | decide
        conv => whnf
        refine ⟨trivial, CallAt.pure (fun R' hR' => ih 0 (by omega) R') ?_⟩
        conv => whnf
        refine ⟨?_, .mk (0 + 1) (by decide) (by decide) (Le.of (Nat.le_of_ble_eq_true rfl) (Nat.zero_le _) ⟨⟨rfl, rfl⟩, ⟨rfl, rfl⟩, ⟨rfl, rfl⟩, ⟨rfl, rfl⟩, ⟨rfl, rfl⟩, ⟨rfl, rfl⟩, trivial⟩ ⟨⟨rfl, rfl, rfl, rfl⟩, ⟨rfl, rfl, rfl, rfl⟩, trivial⟩ fun h s => sub_same s)⟩
        repeat' apply And.intro
        all_goals first | exact True.intro | decide | (unfold rng; decide)
      · conv => whnf
        repeat (first | (refine And.intro ?_ ?_; rotate_left; (intro g; exfalso; (simp at g <;> omega)); intro _; conv => whnf) | (refine And.intro ?_ ?_; (intro g; exfalso; (simp at g <;> omega)); intro _; conv => whnf))
        refine ⟨?_, CallAt.pure (fun R' hR' => hq R' 1 (by omega)) ?_⟩
        · repeat' apply And.intro
          all_goals first | exact True.intro | decide
        conv => whnf
        refine ⟨trivial, CallAt.pure (fun R' hR' => ih 1 (by omega) R') ?_⟩
        conv => whnf
        refine ⟨?_, .mk (1 + 1) (by decide) (by decide) (Le.of (Nat.le_of_ble_eq_true rfl) (Nat.zero_le _) ⟨⟨rfl, rfl⟩, ⟨rfl, rfl⟩, ⟨rfl, rfl⟩, ⟨rfl, rfl⟩, ⟨rfl, rfl⟩, ⟨rfl, rfl⟩, trivial⟩ ⟨⟨rfl, rfl, rfl, rfl⟩, ⟨rfl, rfl, rfl, rfl⟩, trivial⟩ fun h s => sub_same s)⟩
        repeat' apply And.intro
        all_goals first | exact True.intro | decide | (unfold rng; decide)
      · conv => whnf
        repeat (first | (refine And.intro ?_ ?_; rotate_left; (intro g; exfalso; (simp at g <;> omega)); intro _; conv => whnf) | (refine And.intro ?_ ?_; (intro g; exfalso; (simp at g <;> omega)); intro _; conv => whnf))
        refine ⟨?_, CallAt.pure (fun R' hR' => hq R' 2 (by omega)) ?_⟩
        · repeat' apply And.intro
          all_goals first | exact True.intro | decide
        conv => whnf
        refine ⟨trivial, CallAt.pure (fun R' hR' => ih 2 (by omega) R') ?_⟩
        conv => whnf
        refine ⟨?_, .mk (2 + 1) (by decide) (by decide) (Le.of (Nat.le_of_ble_eq_true rfl) (Nat.zero_le _) ⟨⟨rfl, rfl⟩, ⟨rfl, rfl⟩, ⟨rfl, rfl⟩, ⟨rfl, rfl⟩, ⟨rfl, rfl⟩, ⟨rfl, rfl⟩, trivial⟩ ⟨⟨rfl, rfl, rfl, rfl⟩, ⟨rfl, rfl, rfl, rfl⟩, trivial⟩ fun h s => sub_same s)⟩
        repeat' apply And.intro
        all_goals first | exact True.intro | decide | (unfold rng; decide)
      · conv => whnf
        repeat (first | (refine And.intro ?_ ?_; rotate_left; (intro g; exfalso; (simp at g <;> omega)); intro _; conv => whnf) | (refine And.intro ?_ ?_; (intro g; exfalso; (simp at g <;> omega)); intro _; conv => whnf))
        refine ⟨?_, CallAt.pure (fun R' hR' => hq R' 3 (by omega)) ?_⟩
        · repeat' apply And.intro
          all_goals first | exact True.intro | decide
        conv => whnf
        refine ⟨trivial, CallAt.pure (fun R' hR' => ih 3 (by omega) R') ?_⟩
        conv => whnf
        refine ⟨?_, .mk (3 + 1) (by decide) (by decide) (Le.of (Nat.le_of_ble_eq_true rfl) (Nat.zero_le _) ⟨⟨rfl, rfl⟩, ⟨rfl, rfl⟩, ⟨rfl, rfl⟩, ⟨rfl, rfl⟩, ⟨rfl, rfl⟩, ⟨rfl, rfl⟩, trivial⟩ ⟨⟨rfl, rfl, rfl, rfl⟩, ⟨rfl, rfl, rfl, rfl⟩, trivial⟩ fun h s => sub_same s)⟩
        repeat' apply And.intro
        all_goals first | exact True.intro | decide | (unfold rng; decide)
      · conv => whnf
        refine ⟨fun h => absurd h (by simp), fun _ => ?_⟩
        conv => whnf
        refine ⟨trivial, CallAt.pure (fun R' hR' => sFour (K 0) (K 1) (K 2) (K 3)) ?_⟩
        conv => whnf
        exact ⟨trivial, fin_pure rfl rfl⟩
  · by_cases hx2 : x + s ≤ W
    · refine fn_of_run0 false Tryz.func60 rfl hmix rfl fun w0 => ?_
      conv => whnf
      refine ⟨fun _ => ?_, fun g => absurd g (by simp; omega)⟩
      conv => whnf
      refine iff_f (by simp; omega) ?_
      conv => whnf
      repeat (first | (refine And.intro ?_ ?_; rotate_left; (intro g; exfalso; (simp at g <;> omega)); intro _; conv => whnf) | (refine And.intro ?_ ?_; (intro g; exfalso; (simp at g <;> omega)); intro _; conv => whnf))
      refine ⟨?_, LoopAt.of (α := Nat) [2, 3, 5, 12, 73] (fun i => [(74, .v (.int .i64 (i : Int)))]) (fun i => [(1, 101, [cellQ K i 0, cellQ K i 1, cellQ K i 2, cellQ K i 3]), (0, 66, [.v (.int .i64 x), .v (.int .i64 y), .v (.int .i64 s)])]) (fun _ => []) (fun i => i ≤ 4) (fun i => 4 - i) 0 (Nat.zero_le _)
        (Le.of (Nat.le_of_ble_eq_true rfl) (Nat.zero_le _) ⟨⟨rfl, rfl⟩, ⟨rfl, rfl⟩, ⟨rfl, rfl⟩, ⟨rfl, rfl⟩, ⟨rfl, rfl⟩, ⟨rfl, rfl⟩, trivial⟩ ⟨⟨rfl, rfl, rfl, rfl⟩, ⟨rfl, rfl, rfl, rfl⟩, trivial⟩ fun h s => sub_same s) ?_⟩
      · repeat' apply And.intro
        all_goals first | exact True.intro | omega | (unfold rng; omega)
      intro i hi
      rcases (show i = 0 ∨ i = 1 ∨ i = 2 ∨ i = 3 ∨ i = 4 by omega) with rfl | rfl | rfl | rfl | rfl
      · conv => whnf
        repeat (first | (refine And.intro ?_ ?_; rotate_left; (intro g; exfalso; (simp at g <;> omega)); intro _; conv => whnf) | (refine And.intro ?_ ?_; (intro g; exfalso; (simp at g <;> omega)); intro _; conv => whnf))
        refine ⟨?_, CallAt.pure (fun R' hR' => hq R' 0 (by omega)) ?_⟩
        · repeat' apply And.intro
          all_goals first | exact True.intro | decide
        conv => whnf
        refine ⟨trivial, CallAt.pure (fun R' hR' => ih 0 (by omega) R') ?_⟩
        conv => whnf
        refine ⟨?_, .mk (0 + 1) (by decide) (by decide) (Le.of (Nat.le_of_ble_eq_true rfl) (Nat.zero_le _) ⟨⟨rfl, rfl⟩, ⟨rfl, rfl⟩, ⟨rfl, rfl⟩, ⟨rfl, rfl⟩, ⟨rfl, rfl⟩, ⟨rfl, rfl⟩, trivial⟩ ⟨⟨rfl, rfl, rfl, rfl⟩, ⟨rfl, rfl, rfl, rfl⟩, trivial⟩ fun h s => sub_same s)⟩
        repeat' apply And.intro
        all_goals first | exact True.intro | decide | (unfold rng; decide)
      · conv => whnf
        repeat (first | (refine And.intro ?_ ?_; rotate_left; (intro g; exfalso; (simp at g <;> omega)); intro _; conv => whnf) | (refine And.intro ?_ ?_; (intro g; exfalso; (simp at g <;> omega)); intro _; conv => whnf))
        refine ⟨?_, CallAt.pure (fun R' hR' => hq R' 1 (by omega)) ?_⟩
        · repeat' apply And.intro
          all_goals first | exact True.intro | decide
        conv => whnf
        refine ⟨trivial, CallAt.pure (fun R' hR' => ih 1 (by omega) R') ?_⟩
        conv => whnf
        refine ⟨?_, .mk (1 + 1) (by decide) (by decide) (Le.of (Nat.le_of_ble_eq_true rfl) (Nat.zero_le _) ⟨⟨rfl, rfl⟩, ⟨rfl, rfl⟩, ⟨rfl, rfl⟩, ⟨rfl, rfl⟩, ⟨rfl, rfl⟩, ⟨rfl, rfl⟩, trivial⟩ ⟨⟨rfl, rfl, rfl, rfl⟩, ⟨rfl, rfl, rfl, rfl⟩, trivial⟩ fun h s => sub_same s)⟩
        repeat' apply And.intro
        all_goals first | exact True.intro | decide | (unfold rng; decide)
      · conv => whnf
        repeat (first | (refine And.intro ?_ ?_; rotate_left; (intro g; exfalso; (simp at g <;> omega)); intro _; conv => whnf) | (refine And.intro ?_ ?_; (intro g; exfalso; (simp at g <;> omega)); intro _; conv => whnf))
        refine ⟨?_, CallAt.pure (fun R' hR' => hq R' 2 (by omega)) ?_⟩
        · repeat' apply And.intro
          all_goals first | exact True.intro | decide
        conv => whnf
        refine ⟨trivial, CallAt.pure (fun R' hR' => ih 2 (by omega) R') ?_⟩
        conv => whnf
        refine ⟨?_, .mk (2 + 1) (by decide) (by decide) (Le.of (Nat.le_of_ble_eq_true rfl) (Nat.zero_le _) ⟨⟨rfl, rfl⟩, ⟨rfl, rfl⟩, ⟨rfl, rfl⟩, ⟨rfl, rfl⟩, ⟨rfl, rfl⟩, ⟨rfl, rfl⟩, trivial⟩ ⟨⟨rfl, rfl, rfl, rfl⟩, ⟨rfl, rfl, rfl, rfl⟩, trivial⟩ fun h s => sub_same s)⟩
        repeat' apply And.intro
        all_goals first | exact True.intro | decide | (unfold rng; decide)
      · conv => whnf
        repeat (first | (refine And.intro ?_ ?_; rotate_left; (intro g; exfalso; (simp at g <;> omega)); intro _; conv => whnf) | (refine And.intro ?_ ?_; (intro g; exfalso; (simp at g <;> omega)); intro _; conv => whnf))
        refine ⟨?_, CallAt.pure (fun R' hR' => hq R' 3 (by omega)) ?_⟩
        · repeat' apply And.intro
          all_goals first | exact True.intro | decide
        conv => whnf
        refine ⟨trivial, CallAt.pure (fun R' hR' => ih 3 (by omega) R') ?_⟩
        conv => whnf
        refine ⟨?_, .mk (3 + 1) (by decide) (by decide) (Le.of (Nat.le_of_ble_eq_true rfl) (Nat.zero_le _) ⟨⟨rfl, rfl⟩, ⟨rfl, rfl⟩, ⟨rfl, rfl⟩, ⟨rfl, rfl⟩, ⟨rfl, rfl⟩, ⟨rfl, rfl⟩, trivial⟩ ⟨⟨rfl, rfl, rfl, rfl⟩, ⟨rfl, rfl, rfl, rfl⟩, trivial⟩ fun h s => sub_same s)⟩
        repeat' apply And.intro
        all_goals first | exact True.intro | decide | (unfold rng; decide)
      · conv => whnf
        refine ⟨fun h => absurd h (by simp), fun _ => ?_⟩
        conv => whnf
        refine ⟨trivial, CallAt.pure (fun R' hR' => sFour (K 0) (K 1) (K 2) (K 3)) ?_⟩
        conv => whnf
        exact ⟨trivial, fin_pure rfl rfl⟩
    · refine fn_of_run0 false Tryz.func60 rfl hmix rfl fun w0 => ?_
      conv => whnf
      refine ⟨fun _ => ?_, fun g => absurd g (by simp; omega)⟩
      conv => whnf
      refine iff_f (by simp; omega) ?_
      conv => whnf
      repeat (first | (refine And.intro ?_ ?_; rotate_left; (intro g; exfalso; (simp at g <;> omega)); intro _; conv => whnf) | (refine And.intro ?_ ?_; (intro g; exfalso; (simp at g <;> omega)); intro _; conv => whnf))
      refine ⟨?_, LoopAt.of (α := Nat) [2, 3, 5, 12, 73] (fun i => [(74, .v (.int .i64 (i : Int)))]) (fun i => [(1, 101, [cellQ K i 0, cellQ K i 1, cellQ K i 2, cellQ K i 3]), (0, 66, [.v (.int .i64 x), .v (.int .i64 y), .v (.int .i64 s)])]) (fun _ => []) (fun i => i ≤ 4) (fun i => 4 - i) 0 (Nat.zero_le _)
        (Le.of (Nat.le_of_ble_eq_true rfl) (Nat.zero_le _) ⟨⟨rfl, rfl⟩, ⟨rfl, rfl⟩, ⟨rfl, rfl⟩, ⟨rfl, rfl⟩, ⟨rfl, rfl⟩, ⟨rfl, rfl⟩, trivial⟩ ⟨⟨rfl, rfl, rfl, rfl⟩, ⟨rfl, rfl, rfl, rfl⟩, trivial⟩ fun h s => sub_same s) ?_⟩
      · repeat' apply And.intro
        all_goals first | exact True.intro | omega | (unfold rng; omega)
      intro i hi
      rcases (show i = 0 ∨ i = 1 ∨ i = 2 ∨ i = 3 ∨ i = 4 by omega) with rfl | rfl | rfl | rfl | rfl
      · conv => whnf
        repeat (first | (refine And.intro ?_ ?_; rotate_left; (intro g; exfalso; (simp at g <;> omega)); intro _; conv => whnf) | (refine And.intro ?_ ?_; (intro g; exfalso; (simp at g <;> omega)); intro _; conv => whnf))
        refine ⟨?_, CallAt.pure (fun R' hR' => hq R' 0 (by omega)) ?_⟩
        · repeat' apply And.intro
          all_goals first | exact True.intro | decide
        conv => whnf
        refine ⟨trivial, CallAt.pure (fun R' hR' => ih 0 (by omega) R') ?_⟩
        conv => whnf
        refine ⟨?_, .mk (0 + 1) (by decide) (by decide) (Le.of (Nat.le_of_ble_eq_true rfl) (Nat.zero_le _) ⟨⟨rfl, rfl⟩, ⟨rfl, rfl⟩, ⟨rfl, rfl⟩, ⟨rfl, rfl⟩, ⟨rfl, rfl⟩, ⟨rfl, rfl⟩, trivial⟩ ⟨⟨rfl, rfl, rfl, rfl⟩, ⟨rfl, rfl, rfl, rfl⟩, trivial⟩ fun h s => sub_same s)⟩
        repeat' apply And.intro
        all_goals first | exact True.intro | decide | (unfold rng; decide)
      · conv => whnf
        repeat (first | (refine And.intro ?_ ?_; rotate_left; (intro g; exfalso; (simp at g <;> omega)); intro _; conv => whnf) | (refine And.intro ?_ ?_; (intro g; exfalso; (simp at g <;> omega)); intro _; conv => whnf))
        refine ⟨?_, CallAt.pure (fun R' hR' => hq R' 1 (by omega)) ?_⟩
        · repeat' apply And.intro
          all_goals first | exact True.intro | decide
        conv => whnf
        refine ⟨trivial, CallAt.pure (fun R' hR' => ih 1 (by omega) R') ?_⟩
        conv => whnf
        refine ⟨?_, .mk (1 + 1) (by decide) (by decide) (Le.of (Nat.le_of_ble_eq_true rfl) (Nat.zero_le _) ⟨⟨rfl, rfl⟩, ⟨rfl, rfl⟩, ⟨rfl, rfl⟩, ⟨rfl, rfl⟩, ⟨rfl, rfl⟩, ⟨rfl, rfl⟩, trivial⟩ ⟨⟨rfl, rfl, rfl, rfl⟩, ⟨rfl, rfl, rfl, rfl⟩, trivial⟩ fun h s => sub_same s)⟩
        repeat' apply And.intro
        all_goals first | exact True.intro | decide | (unfold rng; decide)
      · conv => whnf
        repeat (first | (refine And.intro ?_ ?_; rotate_left; (intro g; exfalso; (simp at g <;> omega)); intro _; conv => whnf) | (refine And.intro ?_ ?_; (intro g; exfalso; (simp at g <;> omega)); intro _; conv => whnf))
        refine ⟨?_, CallAt.pure (fun R' hR' => hq R' 2 (by omega)) ?_⟩
        · repeat' apply And.intro
          all_goals first | exact True.intro | decide
        conv => whnf
        refine ⟨trivial, CallAt.pure (fun R' hR' => ih 2 (by omega) R') ?_⟩
        conv => whnf
        refine ⟨?_, .mk (2 + 1) (by decide) (by decide) (Le.of (Nat.le_of_ble_eq_true rfl) (Nat.zero_le _) ⟨⟨rfl, rfl⟩, ⟨rfl, rfl⟩, ⟨rfl, rfl⟩, ⟨rfl, rfl⟩, ⟨rfl, rfl⟩, ⟨rfl, rfl⟩, trivial⟩ ⟨⟨rfl, rfl, rfl, rfl⟩, ⟨rfl, rfl, rfl, rfl⟩, trivial⟩ fun h s => sub_same s)⟩
        repeat' apply And.intro
        all_goals first | exact True.intro | decide | (unfold rng; decide)
      · conv => whnf
        repeat (first | (refine And.intro ?_ ?_; rotate_left; (intro g; exfalso; (simp at g <;> omega)); intro _; conv => whnf) | (refine And.intro ?_ ?_; (intro g; exfalso; (simp at g <;> omega)); intro _; conv => whnf))
        refine ⟨?_, CallAt.pure (fun R' hR' => hq R' 3 (by omega)) ?_⟩
        · repeat' apply And.intro
          all_goals first | exact True.intro | decide
        conv => whnf
        refine ⟨trivial, CallAt.pure (fun R' hR' => ih 3 (by omega) R') ?_⟩
        conv => whnf
        refine ⟨?_, .mk (3 + 1) (by decide) (by decide) (Le.of (Nat.le_of_ble_eq_true rfl) (Nat.zero_le _) ⟨⟨rfl, rfl⟩, ⟨rfl, rfl⟩, ⟨rfl, rfl⟩, ⟨rfl, rfl⟩, ⟨rfl, rfl⟩, ⟨rfl, rfl⟩, trivial⟩ ⟨⟨rfl, rfl, rfl, rfl⟩, ⟨rfl, rfl, rfl, rfl⟩, trivial⟩ fun h s => sub_same s)⟩
        repeat' apply And.intro
        all_goals first | exact True.intro | decide | (unfold rng; decide)
      · conv => whnf
        refine ⟨fun h => absurd h (by simp), fun _ => ?_⟩
        conv => whnf
        refine ⟨trivial, CallAt.pure (fun R' hR' => sFour (K 0) (K 1) (K 2) (K 3)) ?_⟩
        conv => whnf
        exact ⟨trivial, fin_pure rfl rfl⟩
theorem sNot : ∀ (n : Nat) (t : QT) (x y W H : Int), fitsQ n t → 0 ≤ x → x + 2 ^ n ≤ 2048 → 0 ≤ y → y + 2 ^ n ≤ 2048 → ∀ R, PureR Tryz.prog R 60 [t.enc, sqV x y (2 ^ n), .int .i64 W, .int .i64 H] (notQ W H n t x y).enc := by
  intro n
  induction n with
  | zero =>
    intro t x y W H hf x0 x1 y0 y1 R
    cases t with
    | node => exact hf.elim
    | leaf l =>
      unfold notQ
      by_cases ho : W ≤ x ∨ H ≤ y
      · rw [if_pos ho]
        exact sNotOut ho
      · rw [if_neg ho]
        exact sNotLeaf (by omega) (by omega) ⟨by decide, by decide⟩ ho (.inr rfl)
  | succ n ih =>
    intro t x y W H hf x0 x1 y0 y1 R
    have h2 := two_succ n
    have hp := two_pos n
    by_cases ho : W ≤ x ∨ H ≤ y
    · unfold notQ
      rw [if_pos ho]
      exact sNotOut ho
    have step : ∀ T : Nat → QT, (∀ j, fitsQ n (T j)) → ∀ j, j < 4 → ∀ R', PureR Tryz.prog R' 60 [(T j).enc, sqV (qx x (2 ^ n) j) (qy y (2 ^ n) j) (2 ^ n), .int .i64 W, .int .i64 H] (notQ W H n (T j) (qx x (2 ^ n) j) (qy y (2 ^ n) j)).enc := fun T hT j hj R' => by
      refine ih (T j) _ _ W H (hT j) ?_ ?_ ?_ ?_ R'
      all_goals rcases (show j = 0 ∨ j = 1 ∨ j = 2 ∨ j = 3 by omega) with rfl | rfl | rfl | rfl <;> simp only [qx, qy] <;> omega
    cases t with
    | leaf l =>
      unfold notQ
      rw [if_neg ho]
      simp only
      by_cases hin : x + 2 ^ (n + 1) ≤ W ∧ y + 2 ^ (n + 1) ≤ H
      · rw [if_pos hin]
        exact sNotLeaf (by omega) (by omega) (by omega) ho (.inl hin)
      · rw [if_neg hin]
        exact sNotStep (K := fun j => notQ W H n (.leaf l) (qx x (2 ^ n) j) (qy y (2 ^ n) j)) (T := fun _ => .leaf l) h2 (by omega) (by omega) (by omega) (by omega) ho (.inl ⟨l, rfl, hin, fun _ => rfl⟩) (step (fun _ => .leaf l) fun _ => fits_leaf _ _)
    | node a b c d =>
      unfold notQ
      rw [if_neg ho]
      exact sNotStep (K := fun j => notQ W H n (QT.kid a b c d j) (qx x (2 ^ n) j) (qy y (2 ^ n) j)) (T := QT.kid a b c d) h2 (by omega) (by omega) (by omega) (by omega) ho (.inr rfl) (step (QT.kid a b c d) fun j => by
        unfold QT.kid
        split
        · exact hf.1
        · split
          · exact hf.2.1
          · split
            · exact hf.2.2.1
            · exact hf.2.2.2)
end Go.Proofs.YtojlgfkjnkjcmaaGreatDoor

/-
  quad: turned, Or, Less, Not, of quads that are there.
-/
namespace Go.Proofs.YtojlgfkjnkjcmaaGreatDoor
open Go.RowKit
open Sy
set_option linter.unusedVariables false
set_option linter.unusedSimpArgs false
set_option maxRecDepth 100000
set_option maxHeartbeats 4000000

def quadG (qb : Nat) (W H : Int) (n : Nat) (g : Int → Int → Bool) : HP := quadH qb W H (canon g n 0 0)
def QuadOf (R : HP) (qb : Nat) (W H : Int) (n : Nat) (g : Int → Int → Bool) : Prop := ∀ w, Sat R w → QuadAt w qb W H (canon g n 0 0)
theorem quadOf_at {R : HP} {qb : Nat} {W H : Int} {n : Nat} {g : Int → Int → Bool} (i : Nat) {l : List HP} {R' : HP} (h : ∀ w, Sat R w → Sat (sepL l R') w) (hi : l[i]? = some (quadG qb W H n g)) : QuadOf R qb W H n g := fun w s => quadAt_of ((h w s).in_ i hi)
theorem QuadOf.mono {R R' : HP} {qb : Nat} {W H : Int} {n : Nat} {g : Int → Int → Bool} (q : QuadOf R qb W H n g) (h : ∀ w, Sat R' w → Sat R w) : QuadOf R' qb W H n g := fun w s => q w (h w s)
theorem sTurned {R : HP} {a : Nat} {W H : Int} {n : Nat} {g : Int → Int → Bool} (ha : QuadOf R a W H n g) (hn : n ≤ 10) (hS : Side (max W H) n) :
    FnR Tryz.prog R 33 [ptV a] [] fun r hs => ∃ qb, r = ptV qb ∧ hs = [quadG qb W H n (outG W H g)] := by
  have hp : (2 : Int) ^ n ≤ 2048 := by
    have : ∀ n, n ≤ 10 → (2 : Int) ^ n ≤ 2048 := by decide
    exact this n hn
  have hwh := fun R' => sQWhole (R := R') (n := n) (by omega) hS
  have hnt := fun R' => sNot n (canon g n 0 0) 0 0 W H canon_fits (by omega) (by omega) (by omega) (by omega) R'
  rw [not_canon] at hnt
  unfold quadG
  have ha : ∀ w, Sat R w → QuadAt w a W H (canon g n 0 0) := ha
  generalize canon (outG W H g) n 0 0 = u at *
  generalize canon g n 0 0 = t at *
  generalize (2 : Int) ^ n = s at *
  refine fn_of_run0 false Tryz.func33 rfl hmix rfl fun w0 => ?_
  conv => whnf
  refine ⟨trivial, RegAt.tail 31 hmix (by kernel_rfl) ?_⟩
  conv => whnf
  refine ⟨trivial, LoadAt.cell (.int .i64 W) rfl rfl (fun w hw => (ha w hw).cell 0) ?_⟩
  conv => whnf
  refine ⟨trivial, LoadAt.cell (.int .i64 H) rfl rfl (fun w hw => (ha w hw).cell 1) ?_⟩
  conv => whnf
  refine ⟨trivial, LoadAt.cell t.enc rfl rfl (fun w hw => (ha w hw).cell 2) ?_⟩
  conv => whnf
  refine ⟨trivial, LoadAt.cell (.int .i64 W) rfl rfl (fun w hw => (ha w hw).cell 0) ?_⟩
  conv => whnf
  refine ⟨trivial, LoadAt.cell (.int .i64 H) rfl rfl (fun w hw => (ha w hw).cell 1) ?_⟩
  conv => whnf
  refine ⟨trivial, CallQ.pure (fun R' hR' => hwh R') ?_⟩
  conv => whnf
  refine ⟨trivial, LoadAt.cell (.int .i64 W) rfl rfl (fun w hw => (ha w hw).cell 0) ?_⟩
  conv => whnf
  refine ⟨trivial, LoadAt.cell (.int .i64 H) rfl rfl (fun w hw => (ha w hw).cell 1) ?_⟩
  conv => whnf
  refine ⟨trivial, CallQ.pure (fun R' hR' => hnt R') ?_⟩
  conv => whnf
  refine ⟨trivial, ?_⟩
  conv => whnf
  intro qb _
  conv => whnf
  exact ⟨trivial, .mk _ (fun w s => s) ⟨qb, rfl, rfl⟩⟩
theorem sAndG {R : HP} {a b : Nat} {W H : Int} {n : Nat} {f g : Int → Int → Bool} (ha : QuadOf R a W H n f) (hb : QuadOf R b W H n g) :
    FnR Tryz.prog R 11 [ptV a, ptV b] [] fun r hs => ∃ qb, r = .tuple #[ptV qb, .int .i64 0] ∧ hs = [quadG qb W H n (fun u v => f u v && g u v)] := by
  have := sAndF (R := R) ha hb
  rw [and_canon] at this
  exact this
theorem hck_ok {R : HP} {a b : Nat} {W H : Int} {n : Nat} {f g : Int → Int → Bool} (ha : QuadOf R a W H n f) (hb : QuadOf R b W H n g) : PureR Tryz.prog R 31 [ptV a, ptV b] (.int .i64 0) := by
  have := sCheck (R := R) ha hb
  rwa [if_pos ⟨rfl, rfl⟩] at this
theorem sNotG {R : HP} {a : Nat} {W H : Int} {n : Nat} {g : Int → Int → Bool} (ha : QuadOf R a W H n g) (hn : n ≤ 10) (hS : Side (max W H) n) :
    FnR Tryz.prog R 14 [ptV a] [] fun r hs => ∃ qb, r = .tuple #[ptV qb, .int .i64 0] ∧ hs = [quadG qb W H n (outG W H g)] := by
  refine fn_of_run0 false Tryz.func14 rfl hmix rfl fun w0 => ?_
  conv => whnf
  refine ⟨trivial, CallAt.fn (pre := []) _ (fun h s => s) (fun R' hR' => sTurned (ha.mono fun w s => (hR' w s).rest) hn hS) ?_⟩
  rintro r hs ⟨qb, rfl, rfl⟩
  conv => whnf
  exact ⟨trivial, .mk _ (fun w s => s) ⟨qb, rfl, rfl⟩⟩
theorem sLessG {R : HP} {a b : Nat} {W H : Int} {n : Nat} {f g : Int → Int → Bool} (ha : QuadOf R a W H n f) (hb : QuadOf R b W H n g) (hn : n ≤ 10) (hS : Side (max W H) n) :
    FnR Tryz.prog R 13 [ptV a, ptV b] [] fun r hs => ∃ qb, r = .tuple #[ptV qb, .int .i64 0] ∧ hs = [quadG qb W H n (fun u v => f u v && outG W H g u v)] := by
  refine fn_of_run0 false Tryz.func13 rfl hmix rfl fun w0 => ?_
  conv => whnf
  refine ⟨trivial, CallAt.pure (fun R' hR' => hck_ok (ha.mono fun w s => hR' w s) (hb.mono fun w s => hR' w s)) ?_⟩
  conv => whnf
  refine iff_f rfl ?_
  conv => whnf
  refine ⟨trivial, CallAt.fn (pre := []) _ (fun h s => s) (fun R' hR' => sTurned (hb.mono fun w s => (hR' w s).rest) hn hS) ?_⟩
  rintro r hs ⟨tb, rfl, rfl⟩
  conv => whnf
  refine ⟨trivial, CallAt.fn (pre := []) _ (fun h s => s) (fun R' hR' => sAndG (ha.mono fun w s => (hR' w s).rest) (quadOf_at 0 hR' rfl)) ?_⟩
  rintro r hs ⟨qb, rfl, rfl⟩
  conv => whnf
  refine ⟨trivial, .mk _ (fun w ⟨h, h1, s⟩ => ?_) ⟨qb, rfl, rfl⟩⟩
  obtain ⟨h', e, s'⟩ := sub_head s
  exact ⟨h', h1.mono e, s'⟩
theorem sOrG {R : HP} {a b : Nat} {W H : Int} {n : Nat} {f g : Int → Int → Bool} (ha : QuadOf R a W H n f) (hb : QuadOf R b W H n g) (hn : n ≤ 10) (hS : Side (max W H) n) :
    FnR Tryz.prog R 12 [ptV a, ptV b] [] fun r hs => ∃ qb, r = .tuple #[ptV qb, .int .i64 0] ∧ hs = [quadG qb W H n (outG W H fun u v => outG W H f u v && outG W H g u v)] := by
  refine fn_of_run0 false Tryz.func12 rfl hmix rfl fun w0 => ?_
  conv => whnf
  refine ⟨trivial, CallAt.pure (fun R' hR' => hck_ok (ha.mono fun w s => hR' w s) (hb.mono fun w s => hR' w s)) ?_⟩
  conv => whnf
  refine iff_f rfl ?_
  conv => whnf
  refine ⟨trivial, CallAt.fn (pre := []) _ (fun h s => s) (fun R' hR' => sTurned (ha.mono fun w s => (hR' w s).rest) hn hS) ?_⟩
  rintro r hs ⟨ta, rfl, rfl⟩
  conv => whnf
  refine ⟨trivial, CallAt.fn (pre := []) _ (fun h s => s) (fun R' hR' => sTurned (hb.mono fun w s => (hR' w s).rest) hn hS) ?_⟩
  rintro r hs ⟨tb, rfl, rfl⟩
  conv => whnf
  refine ⟨trivial, CallAt.fn (pre := []) _ (fun h s => s) (fun R' hR' => sAndG (quadOf_at 1 hR' rfl) (quadOf_at 0 hR' rfl)) ?_⟩
  rintro r hs ⟨ab, rfl, rfl⟩
  conv => whnf
  refine ⟨trivial, CallAt.fn (pre := []) _ (fun h s => s) (fun R' hR' => sTurned (quadOf_at 0 hR' rfl) hn hS) ?_⟩
  rintro r hs ⟨qb, rfl, rfl⟩
  conv => whnf
  refine ⟨trivial, .mk _ (fun w ⟨h, h1, s⟩ => ?_) ⟨qb, rfl, rfl⟩⟩
  obtain ⟨h', e, s'⟩ := sub_head s
  exact ⟨h', h1.mono e, s'⟩
end Go.Proofs.YtojlgfkjnkjcmaaGreatDoor

/-
  Trees of squares: the leaves in the set, how many cells they have; the tree that a list of signs is: plain.
-/
namespace Go.Proofs.YtojlgfkjnkjcmaaGreatDoor
open Go.RowKit
set_option linter.unusedVariables false
set_option linter.unusedSimpArgs false
set_option maxRecDepth 100000
set_option maxHeartbeats 4000000

structure Rz where
  x0 : Int
  y0 : Int
  x1 : Int
  y1 : Int
deriving DecidableEq
def rzC (r : Rz) : List Value := [.int .i64 r.x0, .int .i64 r.y0, .int .i64 r.x1, .int .i64 r.y1]
def rzs (l : List Rz) : List Value := l.flatMap rzC
theorem rzs_append (l m : List Rz) : rzs (l ++ m) = rzs l ++ rzs m := List.flatMap_append
/-- the squares of the leaves in the set, in the signs' order -/
def leavesQ : Nat → QT → Int → Int → List Rz
  | n, .leaf b, x, y => if b then [⟨x, y, x + 2 ^ n - 1, y + 2 ^ n - 1⟩] else []
  | 0, .node _ _ _ _, _, _ => []
  | n + 1, .node a b c d, x, y => leavesQ n a x y ++ leavesQ n b (x + 2 ^ n) y ++ leavesQ n c x (y + 2 ^ n) ++ leavesQ n d (x + 2 ^ n) (y + 2 ^ n)
theorem leavesQ_leaf (n : Nat) (b : Bool) (x y : Int) : leavesQ n (.leaf b) x y = if b then [⟨x, y, x + 2 ^ n - 1, y + 2 ^ n - 1⟩] else [] := by cases n <;> rfl
theorem leavesQ_node (n : Nat) (a b c d : QT) (x y : Int) : leavesQ (n + 1) (.node a b c d) x y = leavesQ n a x y ++ leavesQ n b (x + 2 ^ n) y ++ leavesQ n c x (y + 2 ^ n) ++ leavesQ n d (x + 2 ^ n) (y + 2 ^ n) := rfl
def areaR (r : Rz) : Int := (r.x1 - r.x0 + 1) * (r.y1 - r.y0 + 1)
def areas : List Rz → Int
  | [] => 0
  | r :: l => areaR r + areas l
theorem areas_append : ∀ l m : List Rz, areas (l ++ m) = areas l + areas m
  | [], m => by simp [areas]
  | r :: l, m => by simp only [List.cons_append, areas, areas_append l m]; omega
/-- of the numbers from x on -/
def cnt (p : Int → Int) (x : Int) : Nat → Int
  | 0 => 0
  | k + 1 => cnt p x k + p (x + k)
theorem cnt_add (p : Int → Int) (x : Int) (k : Nat) : ∀ j, cnt p x (k + j) = cnt p x k + cnt p (x + k) j
  | 0 => by simp [cnt]
  | j + 1 => by
    rw [← Nat.add_assoc]
    simp only [cnt, cnt_add p x k j]
    rw [show x + ((k + j : Nat) : Int) = x + k + j by omega]
    omega
theorem cnt_sum (p q : Int → Int) (x : Int) : ∀ k, cnt (fun u => p u + q u) x k = cnt p x k + cnt q x k
  | 0 => rfl
  | k + 1 => by simp only [cnt, cnt_sum p q x k]; omega
theorem cnt_congr {p q : Int → Int} {x : Int} : ∀ {k : Nat}, (∀ u, x ≤ u → u < x + k → p u = q u) → cnt p x k = cnt q x k
  | 0, _ => rfl
  | k + 1, h => by
    simp only [cnt]
    rw [cnt_congr (k := k) fun u h1 h2 => h u h1 (by omega), h (x + k) (by omega) (by omega)]
theorem cnt_const (c x : Int) : ∀ k : Nat, cnt (fun _ => c) x k = c * k
  | 0 => by simp [cnt]
  | k + 1 => by
    simp only [cnt, cnt_const c x k]
    rw [show ((k + 1 : Nat) : Int) = (k : Int) + 1 by omega, Int.mul_add]
    omega
theorem cnt_zero {p : Int → Int} {x : Int} {k : Nat} (h : ∀ u, x ≤ u → u < x + k → p u = 0) : cnt p x k = 0 := by
  rw [cnt_congr (q := fun _ => 0) h, cnt_const]; simp
theorem cnt_cut {p : Int → Int} {x : Int} {k : Nat} (m : Nat) (hm : k ≤ m) (h : ∀ u, x + k ≤ u → p u = 0) : cnt p x m = cnt p x k := by
  obtain ⟨j, rfl⟩ : ∃ j, m = k + j := ⟨m - k, by omega⟩
  rw [cnt_add, cnt_zero (x := x + k) fun u h1 _ => h u h1]
  omega
def b2i (b : Bool) : Int := if b then 1 else 0
/-- how many cells of a square are in -/
def cnt2 (g : Int → Int → Bool) (x y : Int) (k m : Nat) : Int := cnt (fun v => cnt (fun u => b2i (g u v)) x k) y m
theorem cnt2_half (g : Int → Int → Bool) (x y : Int) (h : Nat) : cnt2 g x y (h + h) (h + h) = cnt2 g x y h h + cnt2 g (x + h) y h h + cnt2 g x (y + h) h h + cnt2 g (x + h) (y + h) h h := by
  have key : ∀ y', cnt (fun v => cnt (fun u => b2i (g u v)) x (h + h)) y' h = cnt2 g x y' h h + cnt2 g (x + h) y' h h := fun y' => by
    unfold cnt2
    rw [← cnt_sum]
    exact cnt_congr fun v _ _ => cnt_add _ _ _ _
  unfold cnt2
  rw [cnt_add, key, key]
  unfold cnt2
  omega
theorem pow_cast (n : Nat) : ((2 ^ n : Nat) : Int) = 2 ^ n := by simp
theorem cnt2_all {g : Int → Int → Bool} {b : Bool} {x y : Int} {n : Nat} (h : ∀ u v, InSq n x y u v → g u v = b) : cnt2 g x y (2 ^ n) (2 ^ n) = b2i b * (2 ^ n * 2 ^ n) := by
  unfold cnt2
  have e1 : ∀ v, y ≤ v → v < y + ((2 ^ n : Nat) : Int) → cnt (fun u => b2i (g u v)) x (2 ^ n) = b2i b * 2 ^ n := fun v h1 h2 => by
    rw [cnt_congr (q := fun _ => b2i b) fun u h3 h4 => by rw [h u v (by unfold InSq; rw [← pow_cast]; omega)], cnt_const, pow_cast]
  rw [cnt_congr e1, cnt_const, pow_cast, Int.mul_assoc]
theorem cnt2_le {g : Int → Int → Bool} {x y : Int} {k m : Nat} : 0 ≤ cnt2 g x y k m ∧ cnt2 g x y k m ≤ (k : Int) * m := by
  have h1 : ∀ (p : Int → Int) (c z : Int) (j : Nat), (∀ u, 0 ≤ p u ∧ p u ≤ c) → 0 ≤ cnt p z j ∧ cnt p z j ≤ c * j := fun p c z j hp => by
    induction j with
    | zero => simp [cnt]
    | succ j ih =>
      have := hp (z + j)
      simp only [cnt]
      rw [show ((j + 1 : Nat) : Int) = (j : Int) + 1 by omega, Int.mul_add]
      omega
  refine h1 _ _ _ _ fun v => ?_
  have := h1 (fun u => b2i (g u v)) 1 x k fun u => by unfold b2i; split <;> omega
  rwa [Int.one_mul] at this
theorem areas_canon {g : Int → Int → Bool} : ∀ {n : Nat} {x y : Int}, areas (leavesQ n (canon g n x y) x y) = cnt2 g x y (2 ^ n) (2 ^ n) := fun {n} => by
  induction n with
  | zero =>
    intro x y
    unfold canon
    rw [leavesQ_leaf]
    simp only [cnt2, Int.pow_zero, Nat.pow_zero, cnt, b2i]
    rw [show x + ((0 : Nat) : Int) = x by omega, show y + ((0 : Nat) : Int) = y by omega]
    cases g x y <;> simp [areas, areaR]
  | succ n ih =>
    intro x y
    rcases h1 : canon g (n + 1) x y with z | ⟨a, b, c, d⟩
    · rw [cnt2_all (canon_leaf.1 h1), leavesQ_leaf]
      cases z with
      | true =>
        simp only [if_pos, areas, areaR, b2i]
        rw [show x + 2 ^ (n + 1) - 1 - x + 1 = 2 ^ (n + 1) by omega, show y + 2 ^ (n + 1) - 1 - y + 1 = 2 ^ (n + 1) by omega]
        omega
      | false => simp [areas, b2i]
    · obtain ⟨m, e, rfl, rfl, rfl, rfl⟩ := canon_node h1
      obtain rfl : m = n := by omega
      rw [leavesQ_node, areas_append, areas_append, areas_append, ih, ih, ih, ih, show 2 ^ (m + 1) = 2 ^ m + 2 ^ m by rw [Nat.pow_succ]; omega, cnt2_half, pow_cast]
theorem cnt_pos {p : Int → Int} {x : Int} (hp : ∀ u, 0 ≤ p u) : ∀ {k : Nat}, cnt p x k = 0 → ∀ u, x ≤ u → u < x + k → p u = 0
  | 0, _, u, h1, h2 => by omega
  | k + 1, h, u, h1, h2 => by
    simp only [cnt] at h
    have a := hp (x + k)
    have b : ∀ j, 0 ≤ cnt p x j := fun j => by
      induction j with
      | zero => exact Int.le_refl _
      | succ j ih => simp only [cnt]; have := hp (x + j); omega
    have b := b k
    rcases (show u < x + k ∨ u = x + k by omega) with c | rfl
    · exact cnt_pos hp (by omega) u h1 c
    · omega
theorem cnt_nn {p : Int → Int} (hp : ∀ u, 0 ≤ p u) (x : Int) : ∀ j : Nat, 0 ≤ cnt p x j
  | 0 => Int.le_refl _
  | j + 1 => by simp only [cnt]; have := hp (x + j); have := cnt_nn hp x j; omega
theorem b2i_nn (b : Bool) : 0 ≤ b2i b := by cases b <;> decide
/-- none is in -/
theorem cnt2_zero {g : Int → Int → Bool} {x y : Int} {n : Nat} : cnt2 g x y (2 ^ n) (2 ^ n) = 0 ↔ ∀ u v, InSq n x y u v → g u v = false := by
  constructor
  · intro h u v i
    unfold InSq at i
    rw [← pow_cast] at i
    have h1 := cnt_pos (p := fun v => cnt (fun u => b2i (g u v)) x (2 ^ n)) (fun v => cnt_nn (fun u => b2i_nn _) _ _) h v (by omega) (by omega)
    have h2 := cnt_pos (p := fun u => b2i (g u v)) (fun u => b2i_nn _) h1 u (by omega) (by omega)
    simp only [b2i] at h2
    cases h3 : g u v with
    | false => rfl
    | true => rw [h3] at h2; simp at h2
  · intro h
    rw [cnt2_all h]
    simp [b2i]
theorem cnt2_not (g : Int → Int → Bool) (x y : Int) (k m : Nat) : cnt2 g x y k m + cnt2 (fun u v => !g u v) x y k m = (k : Int) * m := by
  unfold cnt2
  rw [← cnt_sum, cnt_congr (q := fun _ => (k : Int)) fun v _ _ => ?_, cnt_const]
  rw [← cnt_sum, cnt_congr (q := fun _ => 1) fun u _ _ => ?_, cnt_const, Int.one_mul]
  cases h : g u v <;> simp [b2i, h]
/-- all are in -/
theorem cnt2_full {g : Int → Int → Bool} {x y : Int} {n : Nat} : cnt2 g x y (2 ^ n) (2 ^ n) = 2 ^ n * 2 ^ n ↔ ∀ u v, InSq n x y u v → g u v = true := by
  have h1 := cnt2_not g x y (2 ^ n) (2 ^ n)
  rw [pow_cast] at h1
  have h2 := cnt2_zero (g := fun u v => !g u v) (x := x) (y := y) (n := n)
  constructor
  · intro h u v i
    have := h2.1 (by omega) u v i
    simpa using this
  · intro h
    have := h2.2 fun u v i => by rw [h u v i]; rfl
    omega
end Go.Proofs.YtojlgfkjnkjcmaaGreatDoor

