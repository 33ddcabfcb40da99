/-
  Texts of the proofs, one behind the other: QuadK, QuadM, QuadT, QuadU, QuadV, QuadW.
-/
import Derived.Test.YtojlgfkjnkjcmaaGreatDoorPartQa
import Derived.Test.YtojlgfkjnkjcmaaGreatDoorPartA
import Derived.Test.YtojlgfkjnkjcmaaGreatDoorPartBm
import Derived.Test.YtojlgfkjnkjcmaaGreatDoorPartV
/-
  quad: each, Leaves, Count.
-/
namespace Go.Proofs.YtojlgfkjnkjcmaaGreatDoor
open Go.RowKit
open Sy
set_option linter.unusedVariables false
set_option linter.unusedSimpArgs false
set_option maxRecDepth 100000
set_option maxHeartbeats 4000000

abbrev rzH (A : Option Addr) (c : Nat) (l : List Rz) : HP := rowH (.slice A l.length c) l.length 107 4 (rzs l)
/-- a variable with a list of rectangles -/
def outH (ob : Nat) (l : List Rz) : HP := boxH fun x : Option Addr × Nat => [blkH ob 78 #[.slice x.1 l.length x.2], rzH x.1 x.2 l]
abbrev lvV (ob : Nat) : Value := .func (.func 65) #[] #[ptV ob]
theorem rzs_len : ∀ l : List Rz, (rzs l).length = l.length * 4
  | [] => rfl
  | r :: l => by
    have := rzs_len l
    simp only [rzs, List.flatMap_cons, List.length_append, List.length_cons] at *
    simp only [rzC, List.length_cons, List.length_nil]
    omega
theorem sLvAdd {R : HP} {ob : Nat} {l : List Rz} {x y s : Int} (hx : 0 ≤ x ∧ x ≤ 4096) (hy : 0 ≤ y ∧ y ≤ 4096) (hs : 0 ≤ s ∧ s ≤ 4096) (hl : l.length ≤ 2000000) :
    FnR Tryz.prog R 65 [sqV x y s, ptV ob] [outH ob l] fun r hs => r = .tuple #[] ∧ hs = [outH ob (l ++ [⟨x, y, x + s - 1, y + s - 1⟩])] := by
  refine FnR.unbox fun ⟨A, c⟩ => ?_
  refine fn_of_run0 false Tryz.func65 rfl hmix rfl fun w0 => ?_
  conv => whnf
  refine ⟨trivial, LoadAt.cell (.slice A l.length c) rfl rfl (fun w hw => (blk_sat (hw.in_ 0 rfl)).cell 0) ?_⟩
  conv => whnf
  refine ⟨(by (repeat' apply And.intro) <;> first | exact True.intro | (unfold rng; omega) | omega), OpAt.lit [.agg #[.int .i64 x, .int .i64 y, .int .i64 (x + s - 1), .int .i64 (y + s - 1)]] 4 rfl rfl rfl rfl rfl (by decide) rfl rfl rfl (by simp [Value.cells]) rfl (by decide) fun g => ?_⟩
  conv => whnf
  refine ⟨trivial, OpAt.append (.slice A l.length c) l.length 4 32 (rzs l) (rzs [⟨x, y, x + s - 1, y + s - 1⟩]) (some ⟨g, 0, none⟩) 1 1 _ rfl (fun h s => sepL_pull 2 s) rfl rfl rfl rfl rfl rfl rfl rfl rfl (by decide) (fun w hw => rowH_reads rfl (Sat.left hw)) (by simp [rzs, rzC, Value.oneCell']) (by simp only [maxLen]; omega) (by omega) fun A' c' => ?_⟩
  conv => whnf
  refine ⟨trivial, OpAt.store ob 0 (.slice A' (l.length + 1) c') _ rfl (fun h s => sepL_pull 2 s) rfl rfl rfl rfl rfl (by simp [Value.cells, Value.oneCell']) (fun h r => blk_put (by show 0 + 1 ≤ 1; omega) r) ?_⟩
  conv => whnf
  refine ⟨trivial, .mk [outH ob (l ++ [⟨x, y, x + s - 1, y + s - 1⟩])] (fun w ⟨h, h1, s1⟩ => ?_) ⟨rfl, rfl⟩⟩
  have e1 : (l ++ [(⟨x, y, x + s - 1, y + s - 1⟩ : Rz)]).length = l.length + 1 := by simp
  obtain ⟨h', e, s3⟩ := sub_front (m := [_, _]) s1
  refine ⟨h', h1.mono e, boxH_shut (A', c') ?_⟩
  show sepL [blkH ob _ #[.slice A' (l ++ [(⟨x, y, x + s - 1, y + s - 1⟩ : Rz)]).length c'], rowH (.slice A' (l ++ [(⟨x, y, x + s - 1, y + s - 1⟩ : Rz)]).length c') (l ++ [(⟨x, y, x + s - 1, y + s - 1⟩ : Rz)]).length _ 4 (rzs (l ++ [⟨x, y, x + s - 1, y + s - 1⟩]))] R h'
  rw [e1, rzs_append]
  exact s3
def lvs (K : Nat → List Rz) : Nat → List Rz
  | 0 => []
  | i + 1 => lvs K i ++ K i
theorem sEachNode {R : HP} {ob : Nat} {l : List Rz} {x y s h : Int} {T : Nat → QT} {K : Nat → List Rz} (hs : s = h + h) (h0 : 0 ≤ h ∧ h ≤ 2048) (hx : 0 ≤ x ∧ x ≤ 4096) (hy : 0 ≤ y ∧ y ≤ 4096) (hlen : ∀ i, i < 4 → l.length + (lvs K (i + 1)).length ≤ 2000000)
    (ih : ∀ j, j < 4 → ∀ (R' : HP) l', l'.length + (K j).length ≤ 2000000 → FnR Tryz.prog R' 64 [(T j).enc, sqV (qx x h j) (qy y h j) h, lvV ob] [outH ob l'] fun r hs => r = .tuple #[] ∧ hs = [outH ob (l' ++ K j)]) :
    FnR Tryz.prog R 64 [(QT.node (T 0) (T 1) (T 2) (T 3)).enc, sqV x y s, lvV ob] [outH ob l] fun r hs => r = .tuple #[] ∧ hs = [outH ob (l ++ lvs K 4)] := by
  have hq := fun R' i hi => sQuarter (R := R') (x := x) (y := y) (s := s) (h := h) (i := i) hs (by omega) hx hy hi
  refine fn_of_run0 false Tryz.func64 rfl hmix rfl fun w0 => ?_
  conv => whnf
  repeat (first | (refine ⟨fun _ => ?_, fun h => absurd h (by decide)⟩; conv => whnf) | (refine ⟨fun h => absurd h (by decide), fun _ => ?_⟩; conv => whnf))
  refine ⟨trivial, LoopAt.of (α := Nat) [2, 4, 21] (fun i => [(22, .v (.int .i64 (i : Int)))]) (fun i => [(0, 66, [.v (.int .i64 x), .v (.int .i64 y), .v (.int .i64 s)])]) (fun i => [outH ob (l ++ lvs K i)]) (fun i => i ≤ 4) (fun i => 4 - i) 0 (Nat.zero_le _)
    (Le.of (Nat.le_of_ble_eq_true rfl) (Nat.zero_le _) ⟨⟨rfl, rfl⟩, ⟨rfl, rfl⟩, ⟨rfl, rfl⟩, ⟨rfl, rfl⟩, trivial⟩ ⟨⟨rfl, rfl, rfl, rfl⟩, trivial⟩ fun h s => sub_same (by show sepL [outH ob (l ++ [])] _ h; rw [List.append_nil]; exact s)) ?_⟩
  intro i hi
  rcases (show i = 0 ∨ i = 1 ∨ i = 2 ∨ i = 3 ∨ i = 4 by omega) with rfl | rfl | rfl | rfl | rfl
  · conv => whnf
    repeat (first | (refine ⟨fun _ => ?_, fun h => absurd h (by decide)⟩; conv => whnf) | (refine ⟨fun h => absurd h (by decide), fun _ => ?_⟩; conv => whnf))
    refine ⟨⟨trivial, by decide, by decide⟩, CallAt.pure (fun R' hR' => hq R' 0 (by omega)) ?_⟩
    conv => whnf
    refine ⟨trivial, CallAt.fn (pre := [outH ob (l ++ lvs K 0)]) _ (fun h s => s) (fun R' _ => ih 0 (by omega) R' _ (by have := hlen 0 (by omega); simp only [lvs, List.length_append, List.length_nil] at *; omega)) ?_⟩
    rintro r hs ⟨rfl, rfl⟩
    conv => whnf
    refine ⟨⟨trivial, by unfold rng; decide⟩, .mk (0 + 1) (by decide) (by decide) (Le.of (Nat.le_of_ble_eq_true rfl) (Nat.zero_le _) ⟨⟨rfl, rfl⟩, ⟨rfl, rfl⟩, ⟨rfl, rfl⟩, ⟨rfl, rfl⟩, trivial⟩ ⟨⟨rfl, rfl, rfl, rfl⟩, trivial⟩ fun h s => ?_)⟩
    refine sub_same ?_
    show sepL [outH ob (l ++ (lvs K 0 ++ K 0))] R h
    rw [← List.append_assoc]
    exact s
  · conv => whnf
    repeat (first | (refine ⟨fun _ => ?_, fun h => absurd h (by decide)⟩; conv => whnf) | (refine ⟨fun h => absurd h (by decide), fun _ => ?_⟩; conv => whnf))
    refine ⟨⟨trivial, by decide, by decide⟩, CallAt.pure (fun R' hR' => hq R' 1 (by omega)) ?_⟩
    conv => whnf
    refine ⟨trivial, CallAt.fn (pre := [outH ob (l ++ lvs K 1)]) _ (fun h s => s) (fun R' _ => ih 1 (by omega) R' _ (by have := hlen 1 (by omega); simp only [lvs, List.length_append, List.length_nil] at *; omega)) ?_⟩
    rintro r hs ⟨rfl, rfl⟩
    conv => whnf
    refine ⟨⟨trivial, by unfold rng; decide⟩, .mk (1 + 1) (by decide) (by decide) (Le.of (Nat.le_of_ble_eq_true rfl) (Nat.zero_le _) ⟨⟨rfl, rfl⟩, ⟨rfl, rfl⟩, ⟨rfl, rfl⟩, ⟨rfl, rfl⟩, trivial⟩ ⟨⟨rfl, rfl, rfl, rfl⟩, trivial⟩ fun h s => ?_)⟩
    refine sub_same ?_
    show sepL [outH ob (l ++ (lvs K 1 ++ K 1))] R h
    rw [← List.append_assoc]
    exact s
  · conv => whnf
    repeat (first | (refine ⟨fun _ => ?_, fun h => absurd h (by decide)⟩; conv => whnf) | (refine ⟨fun h => absurd h (by decide), fun _ => ?_⟩; conv => whnf))
    refine ⟨⟨trivial, by decide, by decide⟩, CallAt.pure (fun R' hR' => hq R' 2 (by omega)) ?_⟩
    conv => whnf
    refine ⟨trivial, CallAt.fn (pre := [outH ob (l ++ lvs K 2)]) _ (fun h s => s) (fun R' _ => ih 2 (by omega) R' _ (by have := hlen 2 (by omega); simp only [lvs, List.length_append, List.length_nil] at *; omega)) ?_⟩
    rintro r hs ⟨rfl, rfl⟩
    conv => whnf
    refine ⟨⟨trivial, by unfold rng; decide⟩, .mk (2 + 1) (by decide) (by decide) (Le.of (Nat.le_of_ble_eq_true rfl) (Nat.zero_le _) ⟨⟨rfl, rfl⟩, ⟨rfl, rfl⟩, ⟨rfl, rfl⟩, ⟨rfl, rfl⟩, trivial⟩ ⟨⟨rfl, rfl, rfl, rfl⟩, trivial⟩ fun h s => ?_)⟩
    refine sub_same ?_
    show sepL [outH ob (l ++ (lvs K 2 ++ K 2))] R h
    rw [← List.append_assoc]
    exact s
  · conv => whnf
    repeat (first | (refine ⟨fun _ => ?_, fun h => absurd h (by decide)⟩; conv => whnf) | (refine ⟨fun h => absurd h (by decide), fun _ => ?_⟩; conv => whnf))
    refine ⟨⟨trivial, by decide, by decide⟩, CallAt.pure (fun R' hR' => hq R' 3 (by omega)) ?_⟩
    conv => whnf
    refine ⟨trivial, CallAt.fn (pre := [outH ob (l ++ lvs K 3)]) _ (fun h s => s) (fun R' _ => ih 3 (by omega) R' _ (by have := hlen 3 (by omega); simp only [lvs, List.length_append, List.length_nil] at *; omega)) ?_⟩
    rintro r hs ⟨rfl, rfl⟩
    conv => whnf
    refine ⟨⟨trivial, by unfold rng; decide⟩, .mk (3 + 1) (by decide) (by decide) (Le.of (Nat.le_of_ble_eq_true rfl) (Nat.zero_le _) ⟨⟨rfl, rfl⟩, ⟨rfl, rfl⟩, ⟨rfl, rfl⟩, ⟨rfl, rfl⟩, trivial⟩ ⟨⟨rfl, rfl, rfl, rfl⟩, trivial⟩ fun h s => ?_)⟩
    refine sub_same ?_
    show sepL [outH ob (l ++ (lvs K 3 ++ K 3))] R h
    rw [← List.append_assoc]
    exact s
  · conv => whnf
    repeat (first | (refine ⟨fun _ => ?_, fun h => absurd h (by decide)⟩; conv => whnf) | (refine ⟨fun h => absurd h (by decide), fun _ => ?_⟩; conv => whnf))
    exact ⟨trivial, .mk _ (fun w s => s) ⟨rfl, rfl⟩⟩
theorem sEach : ∀ (n : Nat) (t : QT) (x y : Int), fitsQ n t → 0 ≤ x → x + 2 ^ n ≤ 2048 → 0 ≤ y → y + 2 ^ n ≤ 2048 → ∀ {ob : Nat} (R : HP) (l : List Rz), l.length + (leavesQ n t x y).length ≤ 2000000 →
    FnR Tryz.prog R 64 [t.enc, sqV x y (2 ^ n), lvV ob] [outH ob l] fun r hs => r = .tuple #[] ∧ hs = [outH ob (l ++ leavesQ n t x y)] := by
  have leaf : ∀ (n : Nat) (b : Bool) (x y : Int), 0 ≤ x → x + 2 ^ n ≤ 2048 → 0 ≤ y → y + 2 ^ n ≤ 2048 → ∀ {ob : Nat} (R : HP) (l : List Rz), l.length + (leavesQ n (.leaf b) x y).length ≤ 2000000 →
      FnR Tryz.prog R 64 [(QT.leaf b).enc, sqV x y (2 ^ n), lvV ob] [outH ob l] fun r hs => r = .tuple #[] ∧ hs = [outH ob (l ++ leavesQ n (.leaf b) x y)] := by
    intro n b x y x0 x1 y0 y1 ob R l hl
    rw [leavesQ_leaf] at hl ⊢
    have hp := two_pos n
    generalize (2 : Int) ^ n = s at *
    cases b with
    | true =>
      rw [if_pos rfl] at hl ⊢
      simp only [List.length_cons, List.length_nil] at hl
      refine fn_of_run0 false Tryz.func64 rfl hmix rfl fun w0 => ?_
      conv => whnf
      repeat (first | (refine ⟨fun _ => ?_, fun h => absurd h (by decide)⟩; conv => whnf) | (refine ⟨fun h => absurd h (by decide), fun _ => ?_⟩; conv => whnf))
      refine ⟨trivial, CallAt.fn (pre := [outH ob l]) _ (fun h s => s) (fun R' _ => sLvAdd (by omega) (by omega) (by omega) (by omega)) ?_⟩
      rintro r hs ⟨rfl, rfl⟩
      conv => whnf
      exact ⟨trivial, .mk _ (fun w s => s) ⟨rfl, rfl⟩⟩
    | false =>
      rw [if_neg (by decide), List.append_nil]
      refine fn_of_run0 false Tryz.func64 rfl hmix rfl fun w0 => ?_
      conv => whnf
      repeat (first | (refine ⟨fun _ => ?_, fun h => absurd h (by decide)⟩; conv => whnf) | (refine ⟨fun h => absurd h (by decide), fun _ => ?_⟩; conv => whnf))
      exact ⟨trivial, .mk _ (fun w s => s) ⟨rfl, rfl⟩⟩
  intro n
  induction n with
  | zero =>
    intro t x y hf x0 x1 y0 y1 ob R l hl
    cases t with
    | leaf b => exact leaf 0 b x y x0 x1 y0 y1 R l hl
    | node => exact hf.elim
  | succ n ih =>
    intro t x y hf x0 x1 y0 y1 ob R l hl
    cases t with
    | leaf b => exact leaf (n + 1) b x y x0 x1 y0 y1 R l hl
    | node a b c d =>
      have h2 := two_succ n
      have hp := two_pos n
      have hT : ∀ j, fitsQ n (QT.kid a b c d j) := fun j => by
        unfold QT.kid
        split
        · exact hf.1
        · split
          · exact hf.2.1
          · split
            · exact hf.2.2.1
            · exact hf.2.2.2
      obtain ⟨K, hK⟩ : ∃ K : Nat → List Rz, ∀ j, K j = leavesQ n (QT.kid a b c d j) (qx x (2 ^ n) j) (qy y (2 ^ n) j) := ⟨_, fun _ => rfl⟩
      have he : leavesQ (n + 1) (.node a b c d) x y = lvs K 4 := by
        rw [leavesQ_node]
        simp only [lvs, hK, List.nil_append]
        rfl
      rw [he] at hl ⊢
      refine sEachNode (T := QT.kid a b c d) h2 (by omega) (by omega) (by omega) (fun i hi => ?_) (fun j hj R' l' hl' => ?_)
      · have : ∀ j k, (lvs K j).length ≤ (lvs K (j + k)).length := fun j k => by
          induction k with
          | zero => exact Nat.le_refl _
          | succ k ih => rw [← Nat.add_assoc]; simp only [lvs, List.length_append]; omega
        have := this (i + 1) (4 - (i + 1))
        rw [show i + 1 + (4 - (i + 1)) = 4 by omega] at this
        omega
      · rw [hK] at hl' ⊢
        refine ih (QT.kid a b c d j) _ _ (hT j) ?_ ?_ ?_ ?_ R' l' hl'
        all_goals rcases (show j = 0 ∨ j = 1 ∨ j = 2 ∨ j = 3 by omega) with rfl | rfl | rfl | rfl <;> simp only [qx, qy] <;> omega

theorem leaves_le {g : Int → Int → Bool} : ∀ {n : Nat} {x y : Int}, ((leavesQ n (canon g n x y) x y).length : Int) ≤ areas (leavesQ n (canon g n x y) x y) := by
  have key : ∀ (n : Nat) (t : QT) (x y : Int), ((leavesQ n t x y).length : Int) ≤ areas (leavesQ n t x y) := by
    intro n
    induction n with
    | zero =>
      intro t x y
      cases t with
      | leaf b =>
        rw [leavesQ_leaf]
        cases b <;> simp [areas, areaR]
      | node => simp [leavesQ, areas]
    | succ n ih =>
      intro t x y
      cases t with
      | leaf b =>
        rw [leavesQ_leaf]
        have := two_pos (n + 1)
        cases b with
        | false => simp [areas]
        | true =>
          simp only [if_pos, areas, areaR, List.length_cons, List.length_nil]
          rw [show x + 2 ^ (n + 1) - 1 - x + 1 = 2 ^ (n + 1) by omega, show y + 2 ^ (n + 1) - 1 - y + 1 = 2 ^ (n + 1) by omega]
          have := Int.mul_le_mul (show (1 : Int) ≤ 2 ^ (n + 1) by omega) (show (1 : Int) ≤ 2 ^ (n + 1) by omega) (by omega) (by omega)
          omega
      | node a b c d =>
        rw [leavesQ_node, areas_append, areas_append, areas_append]
        have h1 := ih a x y
        have h2 := ih b (x + 2 ^ n) y
        have h3 := ih c x (y + 2 ^ n)
        have h4 := ih d (x + 2 ^ n) (y + 2 ^ n)
        simp only [List.length_append]
        omega
  exact fun {n x y} => key n _ x y
theorem leaves_cap {g : Int → Int → Bool} {n : Nat} (hn : n ≤ 10) : (leavesQ n (canon g n 0 0) 0 0).length ≤ 1048576 := by
  have h1 := @leaves_le g n 0 0
  rw [areas_canon] at h1
  have h2 := (@cnt2_le g 0 0 (2 ^ n) (2 ^ n)).2
  have h3 : ∀ n, n ≤ 10 → ((2 ^ n : Nat) : Int) * ((2 ^ n : Nat) : Int) ≤ 1048576 := by decide
  have h3 := h3 n hn
  omega
theorem sLeaves {R : HP} {a : Nat} {W H : Int} {n : Nat} {g : Int → Int → Bool} (ha : QuadOf R a W H n g) (hn : n ≤ 10) (hS : Side (max W H) n) :
    FnR Tryz.prog R 38 [ptV a] [] fun r hs => ∃ A c, (0 < (leavesQ n (canon g n 0 0) 0 0).length → ∃ b, A = some ⟨b, 0, none⟩) ∧ r = .slice A (leavesQ n (canon g n 0 0) 0 0).length c ∧ hs = [rzH A c (leavesQ n (canon g n 0 0) 0 0)] := by
  have hp : (2 : Int) ^ n ≤ 2048 := by
    have : ∀ n, n ≤ 10 → (2 : Int) ^ n ≤ 2048 := by decide
    exact this n hn
  have hcap := leaves_cap (g := g) hn
  have hwh := fun R' => sQWhole (R := R') (n := n) (by omega) hS
  have hea := fun R' ob => sEach n (canon g n 0 0) 0 0 canon_fits (by omega) (by omega) (by omega) (by omega) (ob := ob) R' [] (by simp only [List.length_nil]; omega)
  have ha : ∀ w, Sat R w → QuadAt w a W H (canon g n 0 0) := ha
  generalize leavesQ n (canon g n 0 0) 0 0 = L at *
  generalize canon g n 0 0 = t at *
  generalize (2 : Int) ^ n = s at *
  refine fn_of_run0 false Tryz.func38 rfl hmix rfl fun w0 => ?_
  conv => whnf
  refine ⟨trivial, RegAt.expose 0 ?_⟩
  conv => whnf
  intro ob _
  refine RegAt.tail 14 hmix (by kernel_rfl) ?_
  conv => whnf
  refine ⟨trivial, LoadAt.cell t.enc rfl rfl (fun w hw => (ha w hw.rest).cell 2) ?_⟩
  conv => whnf
  refine ⟨trivial, LoadAt.cell (.int .i64 W) rfl rfl (fun w hw => (ha w hw.rest).cell 0) ?_⟩
  conv => whnf
  refine ⟨trivial, LoadAt.cell (.int .i64 H) rfl rfl (fun w hw => (ha w hw.rest).cell 1) ?_⟩
  conv => whnf
  refine ⟨trivial, CallQ.pure (fun R' hR' => hwh R') ?_⟩
  conv => whnf
  refine ⟨trivial, RunQ.val (lvV ob) rfl rfl (fun w _ => by kernel_rfl) ?_⟩
  conv => whnf
  refine ⟨trivial, CallAt.fn (pre := [outH ob []]) (post := fun r hs => ∃ A c, (0 < L.length → ∃ b, A = some ⟨b, 0, none⟩) ∧ r = .tuple #[] ∧ hs = [blkH ob 78 #[.slice A L.length c], rzH A c L]) [] (fun h s => ?_) (fun R' _ => ?_) ?_⟩
  · exact boxH_shut (none, 0) (l := []) (sepL_perm (List.Perm.swap _ _ _) (row_nil _ _ s))
  · refine (hea R' ob).seen ?_
    rintro v hs ⟨rfl, rfl⟩ w ⟨h, h1, s⟩
    obtain ⟨⟨A, c⟩, s⟩ := boxH_open s
    have sx : Sat (sepL ([blkH ob 78 #[.slice A L.length c], rzH A c L] ++ []) R') w := ⟨h, h1, s⟩
    refine ⟨_, ⟨A, c, fun h0 => ?_, rfl, rfl⟩, h, h1, s⟩
    obtain ⟨b, e, _⟩ := rowH_at (sx.in_ 1 rfl) h0
    exact ⟨b, e⟩
  rintro r hs ⟨A, c, hA, rfl, rfl⟩
  conv => whnf
  refine ⟨trivial, ?_⟩
  conv => whnf
  refine ⟨trivial, LoadAt.cell (.slice A L.length c) rfl rfl (fun w hw => (blk_sat (hw.in_ 0 rfl)).cell 0) ?_⟩
  conv => whnf
  refine ⟨trivial, .mk [rzH A c L] (fun w ⟨h, h1, s⟩ => ?_) ⟨A, c, hA, rfl, rfl⟩⟩
  obtain ⟨h', e, s'⟩ := sub_tail s
  exact ⟨h', h1.mono e, s'⟩
theorem rowB_at2 {g n c size : Nat} {e : TypeId} {xs : List Value} {w : World} (s : Sat (rowH (.slice (some ⟨g, 0, none⟩) n c) n e size xs) w) (hn : 0 < n) {j : Nat} {u : Value} (h : xs[j]? = some u) : w.cell? ⟨g, j, none⟩ = some u := by
  obtain ⟨ad, e', _, hc⟩ := (rowH_reads rfl s).2 hn
  injection e' with e'
  subst e'
  have := hc j u h
  rw [add_plain, Nat.zero_add] at this
  exact this
theorem areaZ_le (r : Rz) : 0 ≤ areaZ r.x0 r.y0 r.x1 r.y1 ∧ areaZ r.x0 r.y0 r.x1 r.y1 ≤ 1048576 := by
  unfold areaZ
  split
  · rename_i hr
    obtain ⟨h1, h2, h3, h4, h5, h6⟩ := (right_iff _ _ _ _).1 hr
    refine ⟨Int.mul_nonneg (by omega) (by omega), ?_⟩
    have := Int.mul_le_mul (show r.x1 - r.x0 + 1 ≤ 1024 by omega) (show r.y1 - r.y0 + 1 ≤ 1024 by omega) (by omega) (by omega)
    omega
  · omega
def areasZ : List Rz → Int
  | [] => 0
  | r :: l => areaZ r.x0 r.y0 r.x1 r.y1 + areasZ l
theorem areasZ_append : ∀ l m : List Rz, areasZ (l ++ m) = areasZ l + areasZ m
  | [], m => by simp [areasZ]
  | r :: l, m => by simp only [List.cons_append, areasZ, areasZ_append l m]; omega
theorem areasZ_le : ∀ l : List Rz, 0 ≤ areasZ l ∧ areasZ l ≤ 1048576 * l.length
  | [] => by simp [areasZ]
  | r :: l => by
    have h1 := areasZ_le l
    have h2 := areaZ_le r
    simp only [areasZ, List.length_cons]
    omega
theorem rz_at {l : List Rz} {i : Nat} (h : i < l.length) : ∀ j, j < 4 → (rzs l)[i * 4 + j]? = (rzC l[i])[j]? := by
  induction l generalizing i with
  | nil => cases h
  | cons r l ih =>
    intro j hj
    show (rzC r ++ rzs l)[i * 4 + j]? = _
    cases i with
    | zero =>
      rw [List.getElem?_append_left (by simp [rzC]; omega), Nat.zero_mul, Nat.zero_add]
      rfl
    | succ i =>
      rw [List.getElem?_append_right (by simp [rzC]; omega)]
      have := ih (i := i) (by simpa using h) j hj
      simp only [rzC, List.length_cons, List.length_nil] at *
      rw [show (i + 1) * 4 + j - (0 + 1 + 1 + 1 + 1) = i * 4 + j by omega]
      exact this
theorem sAreaZ {R : HP} (r : Rz) : PureR Tryz.prog R 63 [rectV r.x0 r.y0 r.x1 r.y1] (.int .i64 (areaZ r.x0 r.y0 r.x1 r.y1)) := PureR.of_below fun w _ => Area_any _ _ _ _ w
theorem sCountZ {R : HP} {a : Nat} {W H : Int} {n : Nat} {g : Int → Int → Bool} (ha : QuadOf R a W H n g) (hn : n ≤ 10) (hS : Side (max W H) n) :
    PureR Tryz.prog R 36 [ptV a] (.int .i64 (areasZ (leavesQ n (canon g n 0 0) 0 0))) := by
  have hcap := leaves_cap (g := g) hn
  have hlv := fun R' (h : ∀ w, Sat R' w → Sat R w) => sLeaves (R := R') (ha.mono h) hn hS
  generalize leavesQ n (canon g n 0 0) 0 0 = L at *
  clear ha hS
  refine fn_of_run0 false Tryz.func36 rfl hmix rfl fun w0 => ?_
  conv => whnf
  refine ⟨trivial, CallAt.fn (pre := []) _ (fun h s => s) (fun R' hR' => hlv R' fun w s => (hR' w s).rest) ?_⟩
  rintro r hs ⟨A, c, hA, rfl, rfl⟩
  conv => whnf
  refine ⟨trivial, LoopAt.keep (α := Nat) [7, 8] (fun i => [(3, .v (.int .i64 (areasZ (L.take i)))), (9, .v (.int .i64 (i : Int)))]) (fun i => i ≤ L.length) (fun i => L.length - i) 0 (Nat.zero_le _) rfl ⟨⟨rfl, rfl⟩, ⟨rfl, rfl⟩, trivial⟩ ⟨⟨rfl, rfl⟩, ⟨rfl, rfl⟩, trivial⟩ trivial ?_⟩
  intro i hi
  conv => whnf
  refine ⟨fun h => ?_, fun h => ?_⟩
  · have hi2 : i < L.length := by have := of_decide_eq_true h; omega
    have hat := rz_at hi2
    have hnext : areasZ (L.take (i + 1)) = areasZ (L.take i) + areaZ L[i].x0 L[i].y0 L[i].x1 L[i].y1 := by
      rw [List.take_succ_eq_append_getElem hi2, areasZ_append]
      simp [areasZ]
    have hb := areasZ_le (L.take i)
    have hb2 := areaZ_le L[i]
    have hl : (L.take i).length = i := by rw [List.length_take]; omega
    rw [hl] at hb
    have har := fun R' => sAreaZ (R := R') L[i]
    generalize L[i] = r at *
    generalize areaZ r.x0 r.y0 r.x1 r.y1 = z at *
    obtain ⟨b, rfl⟩ := hA (by omega)
    conv => whnf
    refine ⟨(by (repeat' apply And.intro) <;> first | exact True.intro | (unfold rng; omega) | omega), LoadAt.agg (rzC r) rfl rfl rfl (fun w hw j v hj => ?_) ?_⟩
    · have hj4 : j < 4 := by
        have := (List.getElem?_eq_some_iff.1 hj).1
        simpa [rzC] using this
      have h1 := hat j hj4
      rw [hj] at h1
      have := rowB_at2 (hw.in_ 0 rfl) (by omega) h1
      simpa [Nat.zero_add] using this
    conv => whnf
    refine ⟨trivial, CallAt.pure (fun R' hR' => har R') ?_⟩
    conv => whnf
    refine ⟨(by (repeat' apply And.intro) <;> first | exact True.intro | (unfold rng; omega) | omega), .mk (i + 1) (by omega) (by omega) (Le.of (Nat.le_of_ble_eq_true rfl) (Nat.zero_le _) ⟨⟨by rw [hnext]; rfl, rfl⟩, ⟨rfl, rfl⟩, ⟨rfl, rfl⟩, ⟨rfl, rfl⟩, trivial⟩ trivial fun h s => sub_same s)⟩
  · have hi2 : i = L.length := by have := of_decide_eq_false h; omega
    subst hi2
    rw [List.take_length]
    conv => whnf
    exact ⟨trivial, fin_drop rfl⟩
end Go.Proofs.YtojlgfkjnkjcmaaGreatDoor

/-
  quad.Has: is a cell in.
-/
namespace Go.Proofs.YtojlgfkjnkjcmaaGreatDoor
open Go.RowKit
open Sy
set_option linter.unusedVariables false
set_option linter.unusedSimpArgs false
set_option maxRecDepth 100000
set_option maxHeartbeats 4000000

structure HasS where
  k : Nat
  x : Int
  y : Int
theorem sHasOut {R : HP} {a : Nat} {W H : Int} {t : QT} (ha : ∀ w, Sat R w → QuadAt w a W H t) {x y : Int} (h : x < 0 ∨ y < 0 ∨ W ≤ x ∨ H ≤ y) : PureR Tryz.prog R 20 [ptV a, ceV x y] (.bool false) := by
  by_cases h1 : x < 0
  · refine fn_of_run0 true Tryz.func20 rfl hmix rfl fun w0 => ?_
    conv => whnf
    refine ⟨trivial, RegAt.quiet hmix (by kernel_rfl) ?_⟩
    conv => whnf
    repeat (first | (refine And.intro ?_ ?_; rotate_left; (intro g; exfalso; (simp at g <;> omega)); intro _; conv => whnf) | (refine And.intro ?_ ?_; (intro g; exfalso; (simp at g <;> omega)); intro _; conv => whnf))
    refine ⟨trivial, ?_⟩
    conv => whnf
    repeat (first | (refine And.intro ?_ ?_; rotate_left; (intro g; exfalso; (simp at g <;> omega)); intro _; conv => whnf) | (refine And.intro ?_ ?_; (intro g; exfalso; (simp at g <;> omega)); intro _; conv => whnf))
    exact ⟨trivial, fin_pure rfl rfl⟩
  by_cases h2 : y < 0
  · refine fn_of_run0 true Tryz.func20 rfl hmix rfl fun w0 => ?_
    conv => whnf
    refine ⟨trivial, RegAt.quiet hmix (by kernel_rfl) ?_⟩
    conv => whnf
    repeat (first | (refine And.intro ?_ ?_; rotate_left; (intro g; exfalso; (simp at g <;> omega)); intro _; conv => whnf) | (refine And.intro ?_ ?_; (intro g; exfalso; (simp at g <;> omega)); intro _; conv => whnf))
    refine ⟨trivial, ?_⟩
    conv => whnf
    repeat (first | (refine And.intro ?_ ?_; rotate_left; (intro g; exfalso; (simp at g <;> omega)); intro _; conv => whnf) | (refine And.intro ?_ ?_; (intro g; exfalso; (simp at g <;> omega)); intro _; conv => whnf))
    exact ⟨trivial, fin_pure rfl rfl⟩
  by_cases h3 : W ≤ x
  · refine fn_of_run0 true Tryz.func20 rfl hmix rfl fun w0 => ?_
    conv => whnf
    refine ⟨trivial, RegAt.quiet hmix (by kernel_rfl) ?_⟩
    conv => whnf
    repeat (first | (refine And.intro ?_ ?_; rotate_left; (intro g; exfalso; (simp at g <;> omega)); intro _; conv => whnf) | (refine And.intro ?_ ?_; (intro g; exfalso; (simp at g <;> omega)); intro _; conv => whnf))
    refine ⟨trivial, LoadAt.cell (.int .i64 W) rfl rfl (fun w hw => (ha w hw).cell 0) ?_⟩
    conv => whnf
    repeat (first | (refine And.intro ?_ ?_; rotate_left; (intro g; exfalso; (simp at g <;> omega)); intro _; conv => whnf) | (refine And.intro ?_ ?_; (intro g; exfalso; (simp at g <;> omega)); intro _; conv => whnf))
    refine ⟨trivial, ?_⟩
    conv => whnf
    repeat (first | (refine And.intro ?_ ?_; rotate_left; (intro g; exfalso; (simp at g <;> omega)); intro _; conv => whnf) | (refine And.intro ?_ ?_; (intro g; exfalso; (simp at g <;> omega)); intro _; conv => whnf))
    exact ⟨trivial, fin_pure rfl rfl⟩
  · refine fn_of_run0 true Tryz.func20 rfl hmix rfl fun w0 => ?_
    conv => whnf
    refine ⟨trivial, RegAt.quiet hmix (by kernel_rfl) ?_⟩
    conv => whnf
    repeat (first | (refine And.intro ?_ ?_; rotate_left; (intro g; exfalso; (simp at g <;> omega)); intro _; conv => whnf) | (refine And.intro ?_ ?_; (intro g; exfalso; (simp at g <;> omega)); intro _; conv => whnf))
    refine ⟨trivial, LoadAt.cell (.int .i64 W) rfl rfl (fun w hw => (ha w hw).cell 0) ?_⟩
    conv => whnf
    repeat (first | (refine And.intro ?_ ?_; rotate_left; (intro g; exfalso; (simp at g <;> omega)); intro _; conv => whnf) | (refine And.intro ?_ ?_; (intro g; exfalso; (simp at g <;> omega)); intro _; conv => whnf))
    refine ⟨trivial, LoadAt.cell (.int .i64 H) rfl rfl (fun w hw => (ha w hw).cell 1) ?_⟩
    conv => whnf
    repeat (first | (refine And.intro ?_ ?_; rotate_left; (intro g; exfalso; (simp at g <;> omega)); intro _; conv => whnf) | (refine And.intro ?_ ?_; (intro g; exfalso; (simp at g <;> omega)); intro _; conv => whnf))
    refine ⟨trivial, ?_⟩
    conv => whnf
    repeat (first | (refine And.intro ?_ ?_; rotate_left; (intro g; exfalso; (simp at g <;> omega)); intro _; conv => whnf) | (refine And.intro ?_ ?_; (intro g; exfalso; (simp at g <;> omega)); intro _; conv => whnf))
    exact ⟨trivial, fin_pure rfl rfl⟩
theorem inSq_root {W H : Int} {n : Nat} (hS : Side (max W H) n) {u v : Int} (hu : 0 ≤ u ∧ u < W) (hv : 0 ≤ v ∧ v < H) : InSq n 0 0 u v := by
  have := hS.1
  unfold InSq
  omega
theorem sHasIn {R : HP} {a : Nat} {W H : Int} {n : Nat} {g : Int → Int → Bool} (ha : QuadOf R a W H n g) (hn : n ≤ 10) (hS : Side (max W H) n) {u v : Int} (hu : 0 ≤ u ∧ u < W) (hv : 0 ≤ v ∧ v < H) : PureR Tryz.prog R 20 [ptV a, ceV u v] (.bool (g u v)) := by
  have hp : ∀ k, k ≤ n → (2 : Int) ^ k ≤ 2048 := fun k hk => by
    have : ∀ k, k ≤ 10 → (2 : Int) ^ k ≤ 2048 := by decide
    exact this k (by omega)
  have hwh := fun R' => sQWhole (R := R') (n := n) (by omega) hS
  have hroot := inSq_root hS hu hv
  have ha : ∀ w, Sat R w → QuadAt w a W H (canon g n 0 0) := ha
  obtain ⟨t, ht⟩ : ∃ t, t = canon g n 0 0 := ⟨_, rfl⟩
  obtain ⟨s, hs⟩ : ∃ s : Int, s = 2 ^ n := ⟨_, rfl⟩
  rw [← ht] at ha
  rw [← hs] at hwh
  refine fn_of_run0 true Tryz.func20 rfl hmix rfl fun w0 => ?_
  conv => whnf
  refine ⟨trivial, RegAt.quiet hmix (by kernel_rfl) ?_⟩
  conv => whnf
  repeat (first | (refine And.intro ?_ ?_; rotate_left; (intro g; exfalso; (simp at g <;> omega)); intro _; conv => whnf) | (refine And.intro ?_ ?_; (intro g; exfalso; (simp at g <;> omega)); intro _; conv => whnf))
  refine ⟨trivial, LoadAt.cell (.int .i64 W) rfl rfl (fun w hw => (ha w hw).cell 0) ?_⟩
  conv => whnf
  repeat (first | (refine And.intro ?_ ?_; rotate_left; (intro g; exfalso; (simp at g <;> omega)); intro _; conv => whnf) | (refine And.intro ?_ ?_; (intro g; exfalso; (simp at g <;> omega)); intro _; conv => whnf))
  refine ⟨trivial, LoadAt.cell (.int .i64 H) rfl rfl (fun w hw => (ha w hw).cell 1) ?_⟩
  conv => whnf
  repeat (first | (refine And.intro ?_ ?_; rotate_left; (intro g; exfalso; (simp at g <;> omega)); intro _; conv => whnf) | (refine And.intro ?_ ?_; (intro g; exfalso; (simp at g <;> omega)); intro _; conv => whnf))
  refine ⟨trivial, ?_⟩
  conv => whnf
  repeat (first | (refine And.intro ?_ ?_; rotate_left; (intro g; exfalso; (simp at g <;> omega)); intro _; conv => whnf) | (refine And.intro ?_ ?_; (intro g; exfalso; (simp at g <;> omega)); intro _; conv => whnf))
  refine ⟨trivial, RegAt.joins [((Tr.T 0 (Tr.T 1 (Tr.T 2 (Tr.T 3 (Tr.T 4 (Tr.T 5 (Tr.T 6 (Tr.T 7 (Tr.T 8 (Tr.T 9 (Tr.T 10 (Tr.T 11 (Tr.C 12 (Tr.H 13 Tr.E) 13 (Tr.H 12 Tr.E)))))))))))))), 14), ((Tr.T 14 Tr.E), 15), ((Tr.H 15 Tr.E), 16)] [3] [(5, .v t.enc), (6, .p 1 0)] [(1, 66, [.v (.int .i64 0), .v (.int .i64 0), .v (.int .i64 s)]), (0, 52, [.v (.int .i64 u), .v (.int .i64 v)])] 2 [] hmix (by kernel_rfl) ?_ ?_⟩
  · conv => whnf
    refine ⟨trivial, LoadAt.cell t.enc rfl rfl (fun w hw => (ha w hw).cell 2) ?_⟩
    conv => whnf
    refine ⟨trivial, LoadAt.cell (.int .i64 W) rfl rfl (fun w hw => (ha w hw).cell 0) ?_⟩
    conv => whnf
    refine ⟨trivial, LoadAt.cell (.int .i64 H) rfl rfl (fun w hw => (ha w hw).cell 1) ?_⟩
    conv => whnf
    refine ⟨?_, ?_⟩
    · conv => whnf
      refine ⟨trivial, CallAt.pure (fun R' hR' => hwh R') ?_⟩
      conv => whnf
      refine ⟨trivial, ⟨⟨rfl, rfl⟩, fun h s => sub_same s⟩, ?_⟩
      conv => whnf
      refine ⟨trivial, ⟨⟨rfl, rfl⟩, fun h s => sub_same s⟩, ?_⟩
      conv => whnf
      refine ⟨trivial, ?_⟩
      conv => whnf
      refine ⟨trivial, Le.of (Nat.le_of_ble_eq_true rfl) (Nat.zero_le _) ⟨⟨rfl, rfl⟩, ⟨rfl, rfl⟩, ⟨rfl, rfl⟩, trivial⟩ ⟨⟨rfl, rfl, rfl, rfl⟩, ⟨rfl, rfl, rfl, rfl⟩, trivial⟩ fun h s => sub_same s⟩
    · conv => whnf
      refine ⟨trivial, ⟨⟨rfl, rfl⟩, fun h s => sub_same s⟩, ?_⟩
      conv => whnf
      refine ⟨trivial, CallAt.pure (fun R' hR' => hwh R') ?_⟩
      conv => whnf
      refine ⟨trivial, ⟨⟨rfl, rfl⟩, fun h s => sub_same s⟩, ?_⟩
      conv => whnf
      refine ⟨trivial, ?_⟩
      conv => whnf
      refine ⟨trivial, Le.of (Nat.le_of_ble_eq_true rfl) (Nat.zero_le _) ⟨⟨rfl, rfl⟩, ⟨rfl, rfl⟩, ⟨rfl, rfl⟩, trivial⟩ ⟨⟨rfl, rfl, rfl, rfl⟩, ⟨rfl, rfl, rfl, rfl⟩, trivial⟩ fun h s => sub_same s⟩
  · conv => whnf
    refine ⟨trivial, LoopAt.of (α := HasS) [3, 6] (fun a => [(5, .v (canon g a.k a.x a.y).enc)]) (fun a => [(1, 66, [.v (.int .i64 a.x), .v (.int .i64 a.y), .v (.int .i64 (2 ^ a.k))]), (0, 52, [.v (.int .i64 u), .v (.int .i64 v)])]) (fun _ => []) (fun a => a.k ≤ n ∧ InSq a.k a.x a.y u v ∧ 0 ≤ a.x ∧ 0 ≤ a.y) (fun a => a.k) ⟨n, 0, 0⟩ ⟨Nat.le_refl _, hroot, Int.le_refl _, Int.le_refl _⟩
      (Le.of (Nat.le_of_ble_eq_true rfl) (Nat.zero_le _) ⟨⟨by rw [ht]; rfl, rfl⟩, ⟨rfl, rfl⟩, ⟨rfl, rfl⟩, trivial⟩ ⟨⟨by rw [hs]; rfl, rfl, rfl, rfl⟩, ⟨rfl, rfl, rfl, rfl⟩, trivial⟩ fun h s => sub_same s) ?_⟩
    rintro ⟨k, x, y⟩ ⟨hk, hi, x0, y0⟩
    simp only at hk hi x0 y0
    have hgx : u < 4096 ∧ v < 4096 := by unfold InSq at hroot; have := hp n (Nat.le_refl _); omega
    dsimp only
    rcases hq : canon g k x y with z | ⟨a', b', c', d'⟩
    · have hz := canon_leaf.1 hq u v hi
      rw [hz]
      conv => whnf
      repeat (first | (refine ⟨fun _ => ?_, fun h => absurd h (by decide)⟩; conv => whnf) | (refine ⟨fun h => absurd h (by decide), fun _ => ?_⟩; conv => whnf))
      exact ⟨trivial, fin_drop rfl⟩
    · obtain ⟨m, e, rfl, rfl, rfl, rfl⟩ := canon_node hq
      subst e
      have h2 := two_succ m
      have hp1 := hp (m + 1) hk
      have hp0 := two_pos m
      have hd := tdiv_half h2 (by omega)
      unfold InSq at hi
      rw [h2] at hi
      have hq := fun R' i hi => sQuarter (R := R') (x := x) (y := y) (s := 2 ^ (m + 1)) (h := 2 ^ m) (i := i) h2 (by omega) (by omega) (by omega) hi
      have hin : ∀ i, i < 4 → (i = 1 ∨ i = 3 ↔ x + 2 ^ m ≤ u) → (i = 2 ∨ i = 3 ↔ y + 2 ^ m ≤ v) → InSq m (qx x (2 ^ m) i) (qy y (2 ^ m) i) u v := fun i hi2 h3 h4 => by
        unfold InSq
        rcases (show i = 0 ∨ i = 1 ∨ i = 2 ∨ i = 3 by omega) with rfl | rfl | rfl | rfl <;> simp only [qx, qy] <;> simp at h3 h4 <;> omega
      have hwr : IntKind.i64.wrap (2 ^ m) = 2 ^ m := by
        generalize (2 : Int) ^ m = z at *
        simp [IntKind.wrap, IntKind.bits, IntKind.signed]
        omega
      have hpos : ∀ i, i < 4 → 0 ≤ qx x (2 ^ m) i ∧ 0 ≤ qy y (2 ^ m) i := fun i hi2 => by
        rcases (show i = 0 ∨ i = 1 ∨ i = 2 ∨ i = 3 by omega) with rfl | rfl | rfl | rfl <;> simp only [qx, qy] <;> omega
      conv => whnf
      repeat (first | (refine ⟨fun _ => ?_, fun h => absurd h (by decide)⟩; conv => whnf) | (refine ⟨fun h => absurd h (by decide), fun _ => ?_⟩; conv => whnf))
      rw [hd]
      by_cases hcx : x + 2 ^ m ≤ u
      · by_cases hcy : y + 2 ^ m ≤ v
        · repeat (first | (refine And.intro ?_ ?_; rotate_left; (intro g; exfalso; (simp at g <;> omega)); intro _; conv => whnf) | (refine And.intro ?_ ?_; (intro g; exfalso; (simp at g <;> omega)); intro _; conv => whnf))
          refine ⟨?_, RegAt.tail 7 hmix (by kernel_rfl) ?_⟩
          · repeat' apply And.intro
            all_goals first | exact True.intro | exact hwr | (unfold rng; omega) | omega | decide | (unfold rng; decide)
          conv => whnf
          refine ⟨?_, CallQ.pure (fun R' hR' => hq R' 3 (by omega)) ?_⟩
          · repeat' apply And.intro
            all_goals first | exact True.intro | exact hwr | (unfold rng; omega) | omega | decide | (unfold rng; decide)
          conv => whnf
          refine ⟨trivial, ?_⟩
          conv => whnf
          refine ⟨trivial, .mk ⟨m, qx x (2 ^ m) 3, qy y (2 ^ m) 3⟩ ⟨by simp only; omega, hin 3 (by omega) (by simp; omega) (by simp; omega), hpos 3 (by omega)⟩ (by simp only; omega) (Le.of (Nat.le_of_ble_eq_true rfl) (Nat.zero_le _) ⟨⟨rfl, rfl⟩, ⟨rfl, rfl⟩, ⟨rfl, rfl⟩, trivial⟩ ⟨⟨rfl, rfl, rfl, rfl⟩, ⟨rfl, rfl, rfl, rfl⟩, trivial⟩ fun h s => sub_same s)⟩
        · repeat (first | (refine And.intro ?_ ?_; rotate_left; (intro g; exfalso; (simp at g <;> omega)); intro _; conv => whnf) | (refine And.intro ?_ ?_; (intro g; exfalso; (simp at g <;> omega)); intro _; conv => whnf))
          refine ⟨?_, RegAt.tail 7 hmix (by kernel_rfl) ?_⟩
          · repeat' apply And.intro
            all_goals first | exact True.intro | exact hwr | (unfold rng; omega) | omega | decide | (unfold rng; decide)
          conv => whnf
          refine ⟨?_, CallQ.pure (fun R' hR' => hq R' 1 (by omega)) ?_⟩
          · repeat' apply And.intro
            all_goals first | exact True.intro | exact hwr | (unfold rng; omega) | omega | decide | (unfold rng; decide)
          conv => whnf
          refine ⟨trivial, ?_⟩
          conv => whnf
          refine ⟨trivial, .mk ⟨m, qx x (2 ^ m) 1, qy y (2 ^ m) 1⟩ ⟨by simp only; omega, hin 1 (by omega) (by simp; omega) (by simp; omega), hpos 1 (by omega)⟩ (by simp only; omega) (Le.of (Nat.le_of_ble_eq_true rfl) (Nat.zero_le _) ⟨⟨rfl, rfl⟩, ⟨rfl, rfl⟩, ⟨rfl, rfl⟩, trivial⟩ ⟨⟨rfl, rfl, rfl, rfl⟩, ⟨rfl, rfl, rfl, rfl⟩, trivial⟩ fun h s => sub_same s)⟩
      · by_cases hcy : y + 2 ^ m ≤ v
        · repeat (first | (refine And.intro ?_ ?_; rotate_left; (intro g; exfalso; (simp at g <;> omega)); intro _; conv => whnf) | (refine And.intro ?_ ?_; (intro g; exfalso; (simp at g <;> omega)); intro _; conv => whnf))
          refine ⟨?_, RegAt.tail 7 hmix (by kernel_rfl) ?_⟩
          · repeat' apply And.intro
            all_goals first | exact True.intro | exact hwr | (unfold rng; omega) | omega | decide | (unfold rng; decide)
          conv => whnf
          refine ⟨?_, CallQ.pure (fun R' hR' => hq R' 2 (by omega)) ?_⟩
          · repeat' apply And.intro
            all_goals first | exact True.intro | exact hwr | (unfold rng; omega) | omega | decide | (unfold rng; decide)
          conv => whnf
          refine ⟨trivial, ?_⟩
          conv => whnf
          refine ⟨trivial, .mk ⟨m, qx x (2 ^ m) 2, qy y (2 ^ m) 2⟩ ⟨by simp only; omega, hin 2 (by omega) (by simp; omega) (by simp; omega), hpos 2 (by omega)⟩ (by simp only; omega) (Le.of (Nat.le_of_ble_eq_true rfl) (Nat.zero_le _) ⟨⟨rfl, rfl⟩, ⟨rfl, rfl⟩, ⟨rfl, rfl⟩, trivial⟩ ⟨⟨rfl, rfl, rfl, rfl⟩, ⟨rfl, rfl, rfl, rfl⟩, trivial⟩ fun h s => sub_same s)⟩
        · repeat (first | (refine And.intro ?_ ?_; rotate_left; (intro g; exfalso; (simp at g <;> omega)); intro _; conv => whnf) | (refine And.intro ?_ ?_; (intro g; exfalso; (simp at g <;> omega)); intro _; conv => whnf))
          refine ⟨?_, RegAt.tail 7 hmix (by kernel_rfl) ?_⟩
          · repeat' apply And.intro
            all_goals first | exact True.intro | exact hwr | (unfold rng; omega) | omega | decide | (unfold rng; decide)
          conv => whnf
          refine ⟨?_, CallQ.pure (fun R' hR' => hq R' 0 (by omega)) ?_⟩
          · repeat' apply And.intro
            all_goals first | exact True.intro | exact hwr | (unfold rng; omega) | omega | decide | (unfold rng; decide)
          conv => whnf
          refine ⟨trivial, ?_⟩
          conv => whnf
          refine ⟨trivial, .mk ⟨m, qx x (2 ^ m) 0, qy y (2 ^ m) 0⟩ ⟨by simp only; omega, hin 0 (by omega) (by simp; omega) (by simp; omega), hpos 0 (by omega)⟩ (by simp only; omega) (Le.of (Nat.le_of_ble_eq_true rfl) (Nat.zero_le _) ⟨⟨rfl, rfl⟩, ⟨rfl, rfl⟩, ⟨rfl, rfl⟩, trivial⟩ ⟨⟨rfl, rfl, rfl, rfl⟩, ⟨rfl, rfl, rfl, rfl⟩, trivial⟩ fun h s => sub_same s)⟩
end Go.Proofs.YtojlgfkjnkjcmaaGreatDoor

/-
  The document's sets of cells: Has, full, Side.
-/
namespace Go.Proofs.YtojlgfkjnkjcmaaGreatDoor
open Go.RowKit
open Sy
set_option linter.unusedVariables false
set_option linter.unusedSimpArgs false
set_option maxRecDepth 100000
set_option maxHeartbeats 4000000

def inL (W : Nat) (l : List Bool) (u v : Int) : Bool := (l[(v * W + u).toNat]?).getD false
def bls (l : List Bool) : List Value := l.map Value.bool
theorem bls_len (l : List Bool) : (bls l).length = l.length := List.length_map _
theorem bls_at {l : List Bool} {i : Nat} (h : i < l.length) : (bls l)[i]? = some (.bool l[i]) := by simp [bls, h]
abbrev setV (W H : Nat) (A : Option Addr) (n c : Nat) : Value := .agg #[.int .i64 W, .int .i64 H, .slice A n c]
/-- a set of cells that is only read -/
structure SetAt (R : HP) (W H : Nat) (A : Option Addr) (l : List Bool) : Prop where
  w1 : 1 ≤ W
  w2 : W ≤ 1024
  h1 : 1 ≤ H
  h2 : H ≤ 1024
  len : l.length = W * H
  sl : Sl R A (W * H) 1 (bls l)
theorem SetAt.mono {R R' : HP} {W H : Nat} {A : Option Addr} {l : List Bool} (s : SetAt R W H A l) (h : ∀ w, Sat R' w → Sat R w) : SetAt R' W H A l := ⟨s.w1, s.w2, s.h1, s.h2, s.len, s.sl.mono h⟩
abbrev gS (W H : Nat) (l : List Bool) : Int → Int → Bool := inQ W H (inL W l)
theorem ix_lt {W H u v : Nat} (hu : u < W) (hv : v < H) : v * W + u < W * H := by
  have : (v + 1) * W ≤ H * W := Nat.mul_le_mul_right W hv
  rw [Nat.succ_mul] at this
  rw [Nat.mul_comm W H]
  omega
theorem rHasOut {R : HP} {W H : Nat} {A : Option Addr} {n c : Nat} {x y : Int} (h : x < 0 ∨ y < 0 ∨ (W : Int) ≤ x ∨ (H : Int) ≤ y) : PureR Tryz.prog R 21 [setV W H A n c, ceV x y] (.bool false) := by
  by_cases h1 : x < 0
  · refine fn_of_run0 true Tryz.func21 rfl hmix rfl fun w0 => ?_
    conv => whnf
    repeat (first | (refine And.intro ?_ ?_; rotate_left; (intro g; exfalso; (simp at g <;> omega)); intro _; conv => whnf) | (refine And.intro ?_ ?_; (intro g; exfalso; (simp at g <;> omega)); intro _; conv => whnf))
    exact ⟨trivial, fin_pure rfl rfl⟩
  by_cases h2 : y < 0
  · refine fn_of_run0 true Tryz.func21 rfl hmix rfl fun w0 => ?_
    conv => whnf
    repeat (first | (refine And.intro ?_ ?_; rotate_left; (intro g; exfalso; (simp at g <;> omega)); intro _; conv => whnf) | (refine And.intro ?_ ?_; (intro g; exfalso; (simp at g <;> omega)); intro _; conv => whnf))
    exact ⟨trivial, fin_pure rfl rfl⟩
  by_cases h3 : (W : Int) ≤ x
  · refine fn_of_run0 true Tryz.func21 rfl hmix rfl fun w0 => ?_
    conv => whnf
    repeat (first | (refine And.intro ?_ ?_; rotate_left; (intro g; exfalso; (simp at g <;> omega)); intro _; conv => whnf) | (refine And.intro ?_ ?_; (intro g; exfalso; (simp at g <;> omega)); intro _; conv => whnf))
    exact ⟨trivial, fin_pure rfl rfl⟩
  · refine fn_of_run0 true Tryz.func21 rfl hmix rfl fun w0 => ?_
    conv => whnf
    repeat (first | (refine And.intro ?_ ?_; rotate_left; (intro g; exfalso; (simp at g <;> omega)); intro _; conv => whnf) | (refine And.intro ?_ ?_; (intro g; exfalso; (simp at g <;> omega)); intro _; conv => whnf))
    exact ⟨trivial, fin_pure rfl rfl⟩
theorem rHasIn {R : HP} {W H : Nat} {A : Option Addr} {c : Nat} {l : List Bool} (hs : SetAt R W H A l) {u v : Nat} (hu : u < W) (hv : v < H) : PureR Tryz.prog R 21 [setV W H A (W * H) c, ceV u v] (.bool (inL W l u v)) := by
  refine PureR.of_sat fun w0 s0 => ?_
  obtain ⟨w1, w2, h1, h2, hl, sl⟩ := hs
  obtain ⟨e1, sp⟩ := sl.spot (by decide) s0
  have hlt := ix_lt hu hv
  have hm : W * H ≤ 1024 * 1024 := Nat.mul_le_mul w2 h2
  have hi : v * W + u < l.length := by omega
  have hat := bls_at hi
  have hg : inL W l u v = l[v * W + u] := by
    unfold inL
    rw [show ((v : Int) * W + u).toNat = v * W + u by rw [← Int.natCast_mul, ← Int.natCast_add, Int.toNat_natCast], List.getElem?_eq_getElem hi]
    rfl
  rw [hg]
  rcases sp with sp | ⟨b, off, rfl, hc⟩
  · omega
  have hcell := fun w s => hc w s _ _ hat
  generalize l[v * W + u] = z at *
  have hvm : (v : Int) * (W : Int) = ((v * W : Nat) : Int) := by rw [Int.natCast_mul]
  generalize hN : W * H = N at *
  refine fn_of_run0 true Tryz.func21 rfl hmix rfl fun w0 => ?_
  conv => whnf
  repeat (first | (refine And.intro ?_ ?_; rotate_left; (intro g; exfalso; (simp at g <;> omega)); intro _; conv => whnf) | (refine And.intro ?_ ?_; (intro g; exfalso; (simp at g <;> omega)); intro _; conv => whnf))
  rw [hvm]
  generalize v * W = m at *
  refine ⟨(by (repeat' apply And.intro) <;> first | exact True.intro | (unfold rng; omega) | omega), LoadAt.cell (.bool z) rfl rfl (fun w hw => ?_) ?_⟩
  · rw [← hcell w hw]
    congr 1
  conv => whnf
  exact ⟨trivial, fin_pure rfl rfl⟩
theorem rHas {R : HP} {W H : Nat} {A : Option Addr} {c : Nat} {l : List Bool} (hs : SetAt R W H A l) (x y : Int) : PureR Tryz.prog R 21 [setV W H A (W * H) c, ceV x y] (.bool (decide (0 ≤ x) && decide (0 ≤ y) && gS W H l x y)) := by
  by_cases h : 0 ≤ x ∧ 0 ≤ y ∧ x < W ∧ y < H
  · obtain ⟨h1, h2, h3, h4⟩ := h
    obtain ⟨u, rfl⟩ : ∃ u : Nat, x = u := ⟨x.toNat, by omega⟩
    obtain ⟨v, rfl⟩ : ∃ v : Nat, y = v := ⟨y.toNat, by omega⟩
    have := rHasIn (c := c) hs (u := u) (v := v) (by omega) (by omega)
    unfold gS inQ
    rw [decide_eq_true h1, decide_eq_true h2, decide_eq_true h3, decide_eq_true h4]
    simp only [Bool.true_and]
    exact this
  · have e : (decide (0 ≤ x) && decide (0 ≤ y) && gS W H l x y) = false := by
      unfold gS inQ
      by_cases h1 : 0 ≤ x
      · by_cases h2 : 0 ≤ y
        · by_cases h3 : x < W
          · rw [decide_eq_false (show ¬ y < H from fun h4 => h ⟨h1, h2, h3, h4⟩)]; simp
          · rw [decide_eq_false h3]; simp
        · rw [decide_eq_false h2]; simp
      · rw [decide_eq_false h1]; simp
    rw [e]
    exact rHasOut (by omega)
/-- the root's side -/
theorem rSide {R : HP} {W H : Nat} {n : Nat} (hn : n ≤ 10) (hS : Side (max (W : Int) H) n) : PureR Tryz.prog R 43 [.int .i64 W, .int .i64 H] (.int .i64 (2 ^ n)) := by
  have hp : ∀ k, k ≤ n + 1 → (2 : Int) ^ k ≤ 2048 := fun k hk => by
    have : ∀ k, k ≤ 11 → (2 : Int) ^ k ≤ 2048 := by decide
    exact this k (by omega)
  refine fn_of_run0 true Tryz.func43 rfl hmix rfl fun w0 => ?_
  conv => whnf
  refine ⟨trivial, LoopAt.keep (α := Nat) [0, 1] (fun k => [(5, .v (.int .i64 (2 ^ k)))]) (fun k => k ≤ n) (fun k => n - k) 0 (Nat.zero_le _) rfl ⟨⟨rfl, rfl⟩, trivial⟩ ⟨⟨rfl, rfl⟩, ⟨rfl, rfl⟩, trivial⟩ trivial ?_⟩
  intro k hk
  have h1 := hp (k + 1) (by omega)
  have h2 := two_succ k
  have h3 := two_pos k
  by_cases hkn : k = n
  · subst hkn
    have hS := hS.1
    conv => whnf
    repeat (first | (refine And.intro ?_ ?_; rotate_left; (intro g; exfalso; (simp at g <;> omega)); intro _; conv => whnf) | (refine And.intro ?_ ?_; (intro g; exfalso; (simp at g <;> omega)); intro _; conv => whnf))
    exact ⟨trivial, fin_pure rfl rfl⟩
  · have hlt := hS.2 k (by omega)
    have hnx : 2 * (2 : Int) ^ k = 2 ^ (k + 1) := by omega
    by_cases hw : (2 : Int) ^ k < W
    · conv => whnf
      repeat (first | (refine And.intro ?_ ?_; rotate_left; (intro g; exfalso; (simp at g <;> omega)); intro _; conv => whnf) | (refine And.intro ?_ ?_; (intro g; exfalso; (simp at g <;> omega)); intro _; conv => whnf))
      rw [hnx]
      exact ⟨(by (repeat' apply And.intro) <;> first | exact True.intro | (unfold rng; omega) | omega), Next.keep (k + 1) (by omega) (by omega) ⟨⟨rfl, rfl⟩, trivial⟩ ⟨⟨rfl, rfl⟩, ⟨rfl, rfl⟩, trivial⟩ trivial rfl rfl rfl⟩
    · conv => whnf
      repeat (first | (refine And.intro ?_ ?_; rotate_left; (intro g; exfalso; (simp at g <;> omega)); intro _; conv => whnf) | (refine And.intro ?_ ?_; (intro g; exfalso; (simp at g <;> omega)); intro _; conv => whnf))
      rw [hnx]
      exact ⟨(by (repeat' apply And.intro) <;> first | exact True.intro | (unfold rng; omega) | omega), Next.keep (k + 1) (by omega) (by omega) ⟨⟨rfl, rfl⟩, trivial⟩ ⟨⟨rfl, rfl⟩, ⟨rfl, rfl⟩, trivial⟩ trivial rfl rfl rfl⟩
end Go.Proofs.YtojlgfkjnkjcmaaGreatDoor

/-
  The document's sets of cells: full, tree.
-/
namespace Go.Proofs.YtojlgfkjnkjcmaaGreatDoor
open Go.RowKit
open Sy
set_option linter.unusedVariables false
set_option linter.unusedSimpArgs false
set_option maxRecDepth 100000
set_option maxHeartbeats 4000000

theorem cnt_step (p : Int → Int) (x : Int) (k : Nat) : cnt p x (k + 1) = cnt p x k + p (x + k) := rfl
theorem cnt_bnd (p : Int → Int) (c x : Int) (hc : 0 ≤ c) (hp : ∀ u, 0 ≤ p u ∧ p u ≤ c) : ∀ k : Nat, 0 ≤ cnt p x k ∧ cnt p x k ≤ c * k
  | 0 => by simp [cnt]
  | k + 1 => by
    have h1 := cnt_bnd p c x hc hp k
    have h2 := hp (x + k)
    rw [cnt_step, show ((k + 1 : Nat) : Int) = (k : Int) + 1 by omega, Int.mul_add]
    omega
theorem row_bnd (g : Int → Int → Bool) (v x : Int) (k : Nat) : 0 ≤ cnt (fun u => b2i (g u v)) x k ∧ cnt (fun u => b2i (g u v)) x k ≤ k := by
  have := cnt_bnd (fun u => b2i (g u v)) 1 x (by omega) (fun u => by unfold b2i; split <;> omega) k
  rwa [Int.one_mul] at this
theorem rFull {R : HP} {W H : Nat} {A : Option Addr} {c : Nat} {l : List Bool} (hs : SetAt R W H A l) (x y : Int) (k : Nat) (hx : 0 ≤ x ∧ x ≤ 4096) (hy : 0 ≤ y ∧ y ≤ 4096) (hk : k ≤ 1024) :
    PureR Tryz.prog R 83 [setV W H A (W * H) c, .int .i64 x, .int .i64 y, .int .i64 (k : Int)] (.int .i64 (cnt2 (gS W H l) x y k k)) := by
  have hh : ∀ R', (∀ w, Sat R' w → Sat R w) → ∀ u v : Int, 0 ≤ u → 0 ≤ v → PureR Tryz.prog R' 21 [setV W H A (W * H) c, ceV u v] (.bool (gS W H l u v)) := fun R' h u v hu hv => by
    have := rHas (c := c) (hs.mono h) u v
    rw [decide_eq_true hu, decide_eq_true hv] at this
    simp only [Bool.true_and] at this
    exact this
  clear hs
  unfold cnt2
  generalize gS W H l = g at *
  generalize W * H = N at *
  have hrow := fun v j => row_bnd g v x j
  have hall := fun j => cnt_bnd (fun v => cnt (fun u => b2i (g u v)) x k) k y (by omega) (fun v => hrow v k) j
  refine fn_of_run0 false Tryz.func83 rfl hmix rfl fun w0 => ?_
  conv => whnf
  refine ⟨trivial, LoopAt.of (α := Nat) [1, 2, 3, 4] (fun i => [(9, .v (.int .i64 (cnt (fun v => cnt (fun u => b2i (g u v)) x k) y i))), (10, .v (.int .i64 (y + i)))]) (fun _ => [(0, 37, [.v (.int .i64 W), .v (.int .i64 H), .v (.slice A N c)])]) (fun _ => []) (fun i => i ≤ k) (fun i => k - i) 0 (Nat.zero_le _)
    (Le.of (Nat.le_of_ble_eq_true rfl) (Nat.zero_le _) ⟨⟨rfl, rfl⟩, ⟨by rw [show y + ((0 : Nat) : Int) = y by omega]; rfl, rfl⟩, ⟨rfl, rfl⟩, ⟨rfl, rfl⟩, ⟨rfl, rfl⟩, ⟨rfl, rfl⟩, trivial⟩ ⟨⟨rfl, rfl, rfl, rfl⟩, trivial⟩ fun h s => sub_same s) ?_⟩
  intro i hi
  have hai := hall i
  have hki : (k : Int) * i ≤ 1048576 := by
    have := Int.mul_le_mul (show (k : Int) ≤ 1024 by omega) (show (i : Int) ≤ 1024 by omega) (by omega) (by omega)
    omega
  conv => whnf
  refine ⟨fun h => ?_, fun h => ?_⟩
  · have h : i < k := by have := of_decide_eq_true h; omega
    have hnx : cnt (fun v => cnt (fun u => b2i (g u v)) x k) y (i + 1) = cnt (fun v => cnt (fun u => b2i (g u v)) x k) y i + cnt (fun u => b2i (g u (y + i))) x k := rfl
    conv => whnf
    refine ⟨(by (repeat' apply And.intro) <;> first | exact True.intro | (unfold rng; omega) | omega), LoopAt.of (α := Nat) [1, 2, 3, 4, 10] (fun j => [(9, .v (.int .i64 (cnt (fun v => cnt (fun u => b2i (g u v)) x k) y i + cnt (fun u => b2i (g u (y + i))) x j))), (11, .v (.int .i64 (x + j)))]) (fun _ => [(0, 37, [.v (.int .i64 W), .v (.int .i64 H), .v (.slice A N c)])]) (fun _ => []) (fun j => j ≤ k) (fun j => k - j) 0 (Nat.zero_le _)
      (Le.of (Nat.le_of_ble_eq_true rfl) (Nat.zero_le _) ⟨⟨by rw [show cnt (fun u => b2i (g u (y + i))) x 0 = 0 from rfl, Int.add_zero]; rfl, rfl⟩, ⟨by rw [show x + ((0 : Nat) : Int) = x by omega]; rfl, rfl⟩, ⟨rfl, rfl⟩, ⟨rfl, rfl⟩, ⟨rfl, rfl⟩, ⟨rfl, rfl⟩, ⟨rfl, rfl⟩, trivial⟩ ⟨⟨rfl, rfl, rfl, rfl⟩, trivial⟩ fun h s => sub_same s) ?_⟩
    intro j hj
    have hrj := hrow (y + i) j
    conv => whnf
    refine ⟨fun h2 => ?_, fun h2 => ?_⟩
    · have h2 : j < k := by have := of_decide_eq_true h2; omega
      have hnj : cnt (fun u => b2i (g u (y + i))) x (j + 1) = cnt (fun u => b2i (g u (y + i))) x j + b2i (g (x + j) (y + i)) := rfl
      have hcall := fun R' h => hh R' h (x + j) (y + i) (by omega) (by omega)
      conv => whnf
      refine ⟨(by (repeat' apply And.intro) <;> first | exact True.intro | (unfold rng; omega) | omega), CallAt.pure (fun R' hR' => hcall R' hR') ?_⟩
      cases hg : g (x + j) (y + i) with
      | true =>
        rw [hg] at hnj
        conv => whnf
        repeat (first | (refine ⟨fun _ => ?_, fun h => absurd h (by decide)⟩; conv => whnf) | (refine ⟨fun h => absurd h (by decide), fun _ => ?_⟩; conv => whnf))
        refine ⟨(by (repeat' apply And.intro) <;> first | exact True.intro | (unfold rng; omega) | omega), .mk (j + 1) (by omega) (by omega) (Le.of (Nat.le_of_ble_eq_true rfl) (Nat.zero_le _) ⟨⟨by rw [hnj, ← Int.add_assoc]; rfl, rfl⟩, ⟨by rw [show x + ((j + 1 : Nat) : Int) = x + j + 1 by omega]; rfl, rfl⟩, ⟨rfl, rfl⟩, ⟨rfl, rfl⟩, ⟨rfl, rfl⟩, ⟨rfl, rfl⟩, ⟨rfl, rfl⟩, trivial⟩ ⟨⟨rfl, rfl, rfl, rfl⟩, trivial⟩ fun h s => sub_same s)⟩
      | false =>
        rw [hg] at hnj
        conv => whnf
        repeat (first | (refine ⟨fun _ => ?_, fun h => absurd h (by decide)⟩; conv => whnf) | (refine ⟨fun h => absurd h (by decide), fun _ => ?_⟩; conv => whnf))
        refine ⟨(by (repeat' apply And.intro) <;> first | exact True.intro | (unfold rng; omega) | omega), .mk (j + 1) (by omega) (by omega) (Le.of (Nat.le_of_ble_eq_true rfl) (Nat.zero_le _) ⟨⟨by rw [hnj, show b2i false = 0 from rfl, Int.add_zero]; rfl, rfl⟩, ⟨by rw [show x + ((j + 1 : Nat) : Int) = x + j + 1 by omega]; rfl, rfl⟩, ⟨rfl, rfl⟩, ⟨rfl, rfl⟩, ⟨rfl, rfl⟩, ⟨rfl, rfl⟩, ⟨rfl, rfl⟩, trivial⟩ ⟨⟨rfl, rfl, rfl, rfl⟩, trivial⟩ fun h s => sub_same s)⟩
    · have h2 : j = k := by have := of_decide_eq_false h2; omega
      subst h2
      conv => whnf
      refine ⟨(by (repeat' apply And.intro) <;> first | exact True.intro | (unfold rng; omega) | omega), .mk (i + 1) (by omega) (by omega) (Le.of (Nat.le_of_ble_eq_true rfl) (Nat.zero_le _) ⟨⟨by rw [hnx]; rfl, rfl⟩, ⟨by rw [show y + ((i + 1 : Nat) : Int) = y + i + 1 by omega]; rfl, rfl⟩, ⟨rfl, rfl⟩, ⟨rfl, rfl⟩, ⟨rfl, rfl⟩, ⟨rfl, rfl⟩, trivial⟩ ⟨⟨rfl, rfl, rfl, rfl⟩, trivial⟩ fun h s => sub_same s)⟩
  · have h : i = k := by have := of_decide_eq_false h; omega
    subst h
    conv => whnf
    exact ⟨(by (repeat' apply And.intro) <;> first | exact True.intro | (unfold rng; omega) | omega), fin_pure rfl rfl⟩
end Go.Proofs.YtojlgfkjnkjcmaaGreatDoor

/-
  The document's sets of cells: the tree's signs and leaves.
-/
namespace Go.Proofs.YtojlgfkjnkjcmaaGreatDoor
open Go.RowKit
open Sy
set_option linter.unusedVariables false
set_option linter.unusedSimpArgs false
set_option maxRecDepth 100000
set_option maxHeartbeats 4000000

theorem pkQ_len (K : Nat → QT) : ∀ i, (pk K i).length ≤ (pk K (i + 1)).length := fun i => by simp [pk]
theorem print_le : ∀ {n : Nat} {t : QT}, fitsQ n t → (printQ t).length ≤ 2 * 4 ^ n - 1
  | 0, .leaf b, _ => by simp [printQ]
  | 0, .node _ _ _ _, h => h.elim
  | n + 1, .leaf b, _ => by
    have := Nat.pow_pos (n := n + 1) (show 0 < 4 by decide)
    simp [printQ]; omega
  | n + 1, .node a b c d, h => by
    have h1 := print_le h.1
    have h2 := print_le h.2.1
    have h3 := print_le h.2.2.1
    have h4 := print_le h.2.2.2
    have := Nat.pow_pos (n := n) (show 0 < 4 by decide)
    simp only [printQ, List.length_cons, List.length_append, Nat.pow_succ]
    omega
/-- a text and a list of leaves -/
abbrev treeP (t : QT) (L : List Rz) (r : Value) (hs : List HP) : Prop := ∃ A c, r = .tuple #[.string (bs (printQ t)), .slice A L.length c] ∧ hs = [rzH A c L]
structure TreeS where
  i : Nat
  A : Option Addr
  c : Nat
theorem lvs_len (K : Nat → List Rz) (i : Nat) : (lvs K (i + 1)).length = (lvs K i).length + (K i).length := by simp [lvs]
theorem rzs_one (l : List Rz) : ∀ u ∈ rzs l, u.oneCell' = true := by
  intro u hu
  obtain ⟨r, _, hr⟩ := List.mem_flatMap.1 hu
  simp only [rzC, List.mem_cons, List.not_mem_nil, or_false] at hr
  rcases hr with rfl | rfl | rfl | rfl <;> rfl
theorem rTreeStep {R : HP} {W H : Nat} {A : Option Addr} {c : Nat} {x y s h : Int} {T : Nat → QT} {K : Nat → List Rz} {n : Int} (hs : s = h + h) (h0 : 1 ≤ h ∧ h ≤ 512) (hx : 0 ≤ x ∧ x ≤ 4096) (hy : 0 ≤ y ∧ y ≤ 4096) (hn0 : n ≠ 0) (hn1 : n ≠ s * s) (hss : s * s ≤ 1048576 ∧ 0 ≤ s * s)
    (hfull : ∀ R' : HP, (∀ w, Sat R' w → Sat R w) → PureR Tryz.prog R' 83 [setV W H A (W * H) c, .int .i64 x, .int .i64 y, .int .i64 s] (.int .i64 n))
    (hlen : ∀ i, i < 4 → (lvs K (i + 1)).length ≤ 2000000) (hpl : ∀ i, i < 4 → (43 :: pk T (i + 1)).length ≤ 4000000)
    (ih : ∀ j, j < 4 → ∀ (R' : HP), (∀ w, Sat R' w → Sat R w) → FnR Tryz.prog R' 61 [setV W H A (W * H) c, .int .i64 (qx x h j), .int .i64 (qy y h j), .int .i64 h] [] (treeP (T j) (K j))) :
    FnR Tryz.prog R 61 [setV W H A (W * H) c, .int .i64 x, .int .i64 y, .int .i64 s] [] (treeP (.node (T 0) (T 1) (T 2) (T 3)) (lvs K 4)) := by
  have hd := tdiv_half hs (by omega)
  generalize W * H = N at *
  refine fn_of_run0 true Tryz.func61 rfl hmix rfl fun w0 => ?_
  conv => whnf
  refine ⟨trivial, CallAt.pure (fun R' hR' => hfull R' hR') ?_⟩
  conv => whnf
  refine iff_f (by simpa using hn0) ?_
  conv => whnf
  refine iff_f (by simpa using hn1) ?_
  conv => whnf
  refine ⟨?_, OpAt.lit [] 4 rfl rfl rfl rfl rfl (by decide) rfl rfl rfl (by simp) rfl (by decide) fun g => ?_⟩
  · rw [hd]
    have hwr : IntKind.i64.wrap h = h := by
      simp [IntKind.wrap, IntKind.bits, IntKind.signed]
      omega
    exact ⟨⟨trivial, by unfold rng; omega⟩, by decide, hwr⟩
  conv => whnf
  rw [hd]
  refine ⟨trivial, LoopAt.of (α := TreeS) [1, 2, 4, 11] (fun a => [(12, .v (.string (bs (43 :: pk T a.i)))), (13, .v (.slice a.A (lvs K a.i).length a.c)), (14, .v (.int .i64 (a.i : Int)))]) (fun _ => [(0, 37, [.v (.int .i64 W), .v (.int .i64 H), .v (.slice A N c)])]) (fun a => [rzH a.A a.c (lvs K a.i)]) (fun a => a.i ≤ 4) (fun a => 4 - a.i) ⟨0, some ⟨g, 0, none⟩, 0⟩ (Nat.zero_le _)
    (Le.of (Nat.le_of_ble_eq_true rfl) (Nat.zero_le _) ⟨⟨rfl, rfl⟩, ⟨rfl, rfl⟩, ⟨rfl, rfl⟩, ⟨rfl, rfl⟩, ⟨rfl, rfl⟩, ⟨rfl, rfl⟩, ⟨rfl, rfl⟩, trivial⟩ ⟨⟨rfl, rfl, rfl, rfl⟩, trivial⟩ fun h s => sub_same s) ?_⟩
  rintro ⟨i, A1, c1⟩ hi
  simp only at hi
  dsimp only
  rcases (show i = 0 ∨ i = 1 ∨ i = 2 ∨ i = 3 ∨ i = 4 by omega) with rfl | rfl | rfl | rfl | rfl
  · conv => whnf
    repeat (first | (refine ⟨fun _ => ?_, fun h => absurd h (by decide)⟩; conv => whnf) | (refine ⟨fun h => absurd h (by decide), fun _ => ?_⟩; conv => whnf))
    have hm2 : Int.tmod ((0 : Nat) : Int) 2 = 0 := rfl
    have hq2 : Int.tdiv ((0 : Nat) : Int) 2 = 0 := rfl
    rw [hm2, hq2]
    refine ⟨?_, CallAt.fn (pre := []) (post := treeP (T 0) (K 0)) _ (fun h s => s) (fun R' hR' => ?_) ?_⟩
    · repeat' apply And.intro
      all_goals first | exact True.intro | (unfold rng; omega) | omega | decide | (unfold rng; decide)
    · have := ih 0 (by omega) R' (fun w s => (hR' w s).rest)
      simp only [qx, qy] at this
      rw [show x + 0 * h = x from by omega, show y + 0 * h = y from by omega]
      exact this
    rintro r hs ⟨A2, c2, rfl, rfl⟩
    conv => whnf
    have hl2 := hlen 0 (by omega)
    rw [lvs_len] at hl2
    have htx : (bs (43 :: pk T 0) ++ bs (printQ (T 0)) : ByteArray) = bs (43 :: pk T (0 + 1)) := by rw [bs_append]; rfl
    have hsz : (bs (43 :: pk T 0)).size + (bs (printQ (T 0))).size ≤ 9223372036854775807 := by
      have := hpl 0 (by omega)
      rw [bs_size, bs_size]
      simp only [pk, List.length_append, List.length_cons] at this ⊢
      omega
    rw [htx]
    refine ⟨⟨trivial, hsz⟩, OpAt.append (.slice A1 (lvs K 0).length c1) (lvs K 0).length 4 32 (rzs (lvs K 0)) (rzs (K 0)) A2 (K 0).length c2 _ rfl (fun h s => sepL_pull 1 s) rfl rfl rfl rfl rfl rfl rfl rfl rfl (by decide) (fun w hw => rowH_reads rfl (Sat.left hw)) (rzs_one _) (by simp only [maxLen]; omega) (by omega) fun A' c' => ?_⟩
    conv => whnf
    have e1 : (lvs K 0).length + (K 0).length = (lvs K (0 + 1)).length := (lvs_len K 0).symm
    rw [e1]
    refine ⟨⟨trivial, by unfold rng; decide⟩, .mk ⟨0 + 1, A', c'⟩ (by simp only; omega) (by simp only; omega) (Le.of (Nat.le_of_ble_eq_true rfl) (Nat.zero_le _) ⟨⟨rfl, rfl⟩, ⟨rfl, rfl⟩, ⟨rfl, rfl⟩, ⟨rfl, rfl⟩, ⟨rfl, rfl⟩, ⟨rfl, rfl⟩, ⟨rfl, rfl⟩, trivial⟩ ⟨⟨rfl, rfl, rfl, rfl⟩, trivial⟩ fun h s => ?_)⟩
    obtain ⟨h', e, s'⟩ := sub_head s
    refine ⟨h', e, ?_⟩
    rw [← rzs_append] at s'
    exact s'
  · conv => whnf
    repeat (first | (refine ⟨fun _ => ?_, fun h => absurd h (by decide)⟩; conv => whnf) | (refine ⟨fun h => absurd h (by decide), fun _ => ?_⟩; conv => whnf))
    have hm2 : Int.tmod ((1 : Nat) : Int) 2 = 1 := rfl
    have hq2 : Int.tdiv ((1 : Nat) : Int) 2 = 0 := rfl
    rw [hm2, hq2]
    refine ⟨?_, CallAt.fn (pre := []) (post := treeP (T 1) (K 1)) _ (fun h s => s) (fun R' hR' => ?_) ?_⟩
    · repeat' apply And.intro
      all_goals first | exact True.intro | (unfold rng; omega) | omega | decide | (unfold rng; decide)
    · have := ih 1 (by omega) R' (fun w s => (hR' w s).rest)
      simp only [qx, qy] at this
      rw [show x + 1 * h = (x + h) from by omega, show y + 0 * h = y from by omega]
      exact this
    rintro r hs ⟨A2, c2, rfl, rfl⟩
    conv => whnf
    have hl2 := hlen 1 (by omega)
    rw [lvs_len] at hl2
    have htx : (bs (43 :: pk T 1) ++ bs (printQ (T 1)) : ByteArray) = bs (43 :: pk T (1 + 1)) := by rw [bs_append]; rfl
    have hsz : (bs (43 :: pk T 1)).size + (bs (printQ (T 1))).size ≤ 9223372036854775807 := by
      have := hpl 1 (by omega)
      rw [bs_size, bs_size]
      simp only [pk, List.length_append, List.length_cons] at this ⊢
      omega
    rw [htx]
    refine ⟨⟨trivial, hsz⟩, OpAt.append (.slice A1 (lvs K 1).length c1) (lvs K 1).length 4 32 (rzs (lvs K 1)) (rzs (K 1)) A2 (K 1).length c2 _ rfl (fun h s => sepL_pull 1 s) rfl rfl rfl rfl rfl rfl rfl rfl rfl (by decide) (fun w hw => rowH_reads rfl (Sat.left hw)) (rzs_one _) (by simp only [maxLen]; omega) (by omega) fun A' c' => ?_⟩
    conv => whnf
    have e1 : (lvs K 1).length + (K 1).length = (lvs K (1 + 1)).length := (lvs_len K 1).symm
    rw [e1]
    refine ⟨⟨trivial, by unfold rng; decide⟩, .mk ⟨1 + 1, A', c'⟩ (by simp only; omega) (by simp only; omega) (Le.of (Nat.le_of_ble_eq_true rfl) (Nat.zero_le _) ⟨⟨rfl, rfl⟩, ⟨rfl, rfl⟩, ⟨rfl, rfl⟩, ⟨rfl, rfl⟩, ⟨rfl, rfl⟩, ⟨rfl, rfl⟩, ⟨rfl, rfl⟩, trivial⟩ ⟨⟨rfl, rfl, rfl, rfl⟩, trivial⟩ fun h s => ?_)⟩
    obtain ⟨h', e, s'⟩ := sub_head s
    refine ⟨h', e, ?_⟩
    rw [← rzs_append] at s'
    exact s'
  · conv => whnf
    repeat (first | (refine ⟨fun _ => ?_, fun h => absurd h (by decide)⟩; conv => whnf) | (refine ⟨fun h => absurd h (by decide), fun _ => ?_⟩; conv => whnf))
    have hm2 : Int.tmod ((2 : Nat) : Int) 2 = 0 := rfl
    have hq2 : Int.tdiv ((2 : Nat) : Int) 2 = 1 := rfl
    rw [hm2, hq2]
    refine ⟨?_, CallAt.fn (pre := []) (post := treeP (T 2) (K 2)) _ (fun h s => s) (fun R' hR' => ?_) ?_⟩
    · repeat' apply And.intro
      all_goals first | exact True.intro | (unfold rng; omega) | omega | decide | (unfold rng; decide)
    · have := ih 2 (by omega) R' (fun w s => (hR' w s).rest)
      simp only [qx, qy] at this
      rw [show x + 0 * h = x from by omega, show y + 1 * h = (y + h) from by omega]
      exact this
    rintro r hs ⟨A2, c2, rfl, rfl⟩
    conv => whnf
    have hl2 := hlen 2 (by omega)
    rw [lvs_len] at hl2
    have htx : (bs (43 :: pk T 2) ++ bs (printQ (T 2)) : ByteArray) = bs (43 :: pk T (2 + 1)) := by rw [bs_append]; rfl
    have hsz : (bs (43 :: pk T 2)).size + (bs (printQ (T 2))).size ≤ 9223372036854775807 := by
      have := hpl 2 (by omega)
      rw [bs_size, bs_size]
      simp only [pk, List.length_append, List.length_cons] at this ⊢
      omega
    rw [htx]
    refine ⟨⟨trivial, hsz⟩, OpAt.append (.slice A1 (lvs K 2).length c1) (lvs K 2).length 4 32 (rzs (lvs K 2)) (rzs (K 2)) A2 (K 2).length c2 _ rfl (fun h s => sepL_pull 1 s) rfl rfl rfl rfl rfl rfl rfl rfl rfl (by decide) (fun w hw => rowH_reads rfl (Sat.left hw)) (rzs_one _) (by simp only [maxLen]; omega) (by omega) fun A' c' => ?_⟩
    conv => whnf
    have e1 : (lvs K 2).length + (K 2).length = (lvs K (2 + 1)).length := (lvs_len K 2).symm
    rw [e1]
    refine ⟨⟨trivial, by unfold rng; decide⟩, .mk ⟨2 + 1, A', c'⟩ (by simp only; omega) (by simp only; omega) (Le.of (Nat.le_of_ble_eq_true rfl) (Nat.zero_le _) ⟨⟨rfl, rfl⟩, ⟨rfl, rfl⟩, ⟨rfl, rfl⟩, ⟨rfl, rfl⟩, ⟨rfl, rfl⟩, ⟨rfl, rfl⟩, ⟨rfl, rfl⟩, trivial⟩ ⟨⟨rfl, rfl, rfl, rfl⟩, trivial⟩ fun h s => ?_)⟩
    obtain ⟨h', e, s'⟩ := sub_head s
    refine ⟨h', e, ?_⟩
    rw [← rzs_append] at s'
    exact s'
  · conv => whnf
    repeat (first | (refine ⟨fun _ => ?_, fun h => absurd h (by decide)⟩; conv => whnf) | (refine ⟨fun h => absurd h (by decide), fun _ => ?_⟩; conv => whnf))
    have hm2 : Int.tmod ((3 : Nat) : Int) 2 = 1 := rfl
    have hq2 : Int.tdiv ((3 : Nat) : Int) 2 = 1 := rfl
    rw [hm2, hq2]
    refine ⟨?_, CallAt.fn (pre := []) (post := treeP (T 3) (K 3)) _ (fun h s => s) (fun R' hR' => ?_) ?_⟩
    · repeat' apply And.intro
      all_goals first | exact True.intro | (unfold rng; omega) | omega | decide | (unfold rng; decide)
    · have := ih 3 (by omega) R' (fun w s => (hR' w s).rest)
      simp only [qx, qy] at this
      rw [show x + 1 * h = (x + h) from by omega, show y + 1 * h = (y + h) from by omega]
      exact this
    rintro r hs ⟨A2, c2, rfl, rfl⟩
    conv => whnf
    have hl2 := hlen 3 (by omega)
    rw [lvs_len] at hl2
    have htx : (bs (43 :: pk T 3) ++ bs (printQ (T 3)) : ByteArray) = bs (43 :: pk T (3 + 1)) := by rw [bs_append]; rfl
    have hsz : (bs (43 :: pk T 3)).size + (bs (printQ (T 3))).size ≤ 9223372036854775807 := by
      have := hpl 3 (by omega)
      rw [bs_size, bs_size]
      simp only [pk, List.length_append, List.length_cons] at this ⊢
      omega
    rw [htx]
    refine ⟨⟨trivial, hsz⟩, OpAt.append (.slice A1 (lvs K 3).length c1) (lvs K 3).length 4 32 (rzs (lvs K 3)) (rzs (K 3)) A2 (K 3).length c2 _ rfl (fun h s => sepL_pull 1 s) rfl rfl rfl rfl rfl rfl rfl rfl rfl (by decide) (fun w hw => rowH_reads rfl (Sat.left hw)) (rzs_one _) (by simp only [maxLen]; omega) (by omega) fun A' c' => ?_⟩
    conv => whnf
    have e1 : (lvs K 3).length + (K 3).length = (lvs K (3 + 1)).length := (lvs_len K 3).symm
    rw [e1]
    refine ⟨⟨trivial, by unfold rng; decide⟩, .mk ⟨3 + 1, A', c'⟩ (by simp only; omega) (by simp only; omega) (Le.of (Nat.le_of_ble_eq_true rfl) (Nat.zero_le _) ⟨⟨rfl, rfl⟩, ⟨rfl, rfl⟩, ⟨rfl, rfl⟩, ⟨rfl, rfl⟩, ⟨rfl, rfl⟩, ⟨rfl, rfl⟩, ⟨rfl, rfl⟩, trivial⟩ ⟨⟨rfl, rfl, rfl, rfl⟩, trivial⟩ fun h s => ?_)⟩
    obtain ⟨h', e, s'⟩ := sub_head s
    refine ⟨h', e, ?_⟩
    rw [← rzs_append] at s'
    exact s'
  · conv => whnf
    repeat (first | (refine ⟨fun _ => ?_, fun h => absurd h (by decide)⟩; conv => whnf) | (refine ⟨fun h => absurd h (by decide), fun _ => ?_⟩; conv => whnf))
    exact ⟨trivial, .mk _ (fun w s => s) ⟨A1, c1, rfl, rfl⟩⟩
theorem rTreeNo {R : HP} {W H : Nat} {A : Option Addr} {c : Nat} {x y s : Int} (hfull : ∀ R' : HP, (∀ w, Sat R' w → Sat R w) → PureR Tryz.prog R' 83 [setV W H A (W * H) c, .int .i64 x, .int .i64 y, .int .i64 s] (.int .i64 0)) :
    FnR Tryz.prog R 61 [setV W H A (W * H) c, .int .i64 x, .int .i64 y, .int .i64 s] [] (treeP (.leaf false) []) := by
  generalize W * H = N at *
  refine fn_of_run0 true Tryz.func61 rfl hmix rfl fun w0 => ?_
  conv => whnf
  refine ⟨trivial, CallAt.pure (fun R' hR' => hfull R' hR') ?_⟩
  conv => whnf
  refine iff_t rfl ?_
  conv => whnf
  exact ⟨trivial, .mk [rzH none 0 []] (fun w ⟨h, h1, s⟩ => ⟨h, h1, row_nil _ _ s⟩) ⟨none, 0, rfl, rfl⟩⟩
theorem rTreeAll {R : HP} {W H : Nat} {A : Option Addr} {c : Nat} {x y s : Int} (hx : 0 ≤ x ∧ x ≤ 4096) (hy : 0 ≤ y ∧ y ≤ 4096) (h0 : 1 ≤ s ∧ s ≤ 4096) (hss : s * s ≤ 1048576 ∧ 1 ≤ s * s) (hfull : ∀ R' : HP, (∀ w, Sat R' w → Sat R w) → PureR Tryz.prog R' 83 [setV W H A (W * H) c, .int .i64 x, .int .i64 y, .int .i64 s] (.int .i64 (s * s))) :
    FnR Tryz.prog R 61 [setV W H A (W * H) c, .int .i64 x, .int .i64 y, .int .i64 s] [] (treeP (.leaf true) [⟨x, y, x + s - 1, y + s - 1⟩]) := by
  generalize W * H = N at *
  generalize hq : s * s = q at *
  refine fn_of_run0 true Tryz.func61 rfl hmix rfl fun w0 => ?_
  conv => whnf
  refine ⟨trivial, CallAt.pure (fun R' hR' => hfull R' hR') ?_⟩
  conv => whnf
  refine iff_f (by simp; omega) ?_
  conv => whnf
  rw [hq]
  refine iff_t (by simp) ?_
  conv => whnf
  refine ⟨(by (repeat' apply And.intro) <;> first | exact True.intro | (unfold rng; omega) | omega), OpAt.lit [.agg #[.int .i64 x, .int .i64 y, .int .i64 (x + s - 1), .int .i64 (y + s - 1)]] 4 rfl rfl rfl rfl rfl (by decide) rfl rfl rfl (by simp [Value.cells]) rfl (by decide) fun g => ?_⟩
  conv => whnf
  exact ⟨trivial, .mk _ (fun w s => s) ⟨some ⟨g, 0, none⟩, 1, rfl, rfl⟩⟩
theorem pk_le {T : Nat → QT} {n : Nat} (h : ∀ j, fitsQ n (T j)) : ∀ i, (pk T i).length ≤ i * (2 * 4 ^ n)
  | 0 => by simp [pk]
  | i + 1 => by
    have h1 := pk_le h i
    have h2 := print_le (h i)
    simp only [pk, List.length_append, Nat.add_mul, Nat.one_mul]
    generalize 2 * 4 ^ n = q at *
    omega
theorem rTree {R0 : HP} {W H : Nat} {A : Option Addr} {c : Nat} {l : List Bool} (hs : SetAt R0 W H A l) : ∀ (n : Nat) (x y : Int), n ≤ 10 → 0 ≤ x → x + 2 ^ n ≤ 2048 → 0 ≤ y → y + 2 ^ n ≤ 2048 → ∀ R, (∀ w, Sat R w → Sat R0 w) →
    FnR Tryz.prog R 61 [setV W H A (W * H) c, .int .i64 x, .int .i64 y, .int .i64 (2 ^ n)] [] (treeP (canon (gS W H l) n x y) (leavesQ n (canon (gS W H l) n x y) x y)) := by
  intro n
  induction n with
  | zero =>
    intro x y hn x0 x1 y0 y1 R hR
    have hf := fun R' (h : ∀ w, Sat R' w → Sat R w) => rFull (R := R') (c := c) (hs.mono fun w s => hR w (h w s)) x y 1 (by omega) (by omega) (by omega)
    rcases h1 : canon (gS W H l) 0 x y with z | ⟨a, b, d, e⟩
    · have hc := cnt2_all (canon_leaf.1 h1)
      rw [leavesQ_leaf]
      rw [show (2 ^ 0 : Nat) = 1 from rfl] at hc
      rw [hc] at hf
      cases z with
      | false => exact rTreeNo hf
      | true => exact rTreeAll (by omega) (by omega) (by decide) (by decide) hf
    · obtain ⟨m, e, _⟩ := canon_node h1
      omega
  | succ n ih =>
    intro x y hn x0 x1 y0 y1 R hR
    have h2 := two_succ n
    have hp := two_pos n
    have hc1 : ((2 ^ (n + 1) : Nat) : Int) = 2 ^ (n + 1) := pow_cast _
    have hle : (2 : Int) ^ (n + 1) ≤ 1024 := by
      have : ∀ k, k ≤ 10 → (2 : Int) ^ k ≤ 1024 := by decide
      exact this (n + 1) hn
    have hf := fun R' (h : ∀ w, Sat R' w → Sat R w) => rFull (R := R') (c := c) (hs.mono fun w s => hR w (h w s)) x y (2 ^ (n + 1)) (by omega) (by omega) (by omega)
    rw [hc1] at hf
    have hss : (2 : Int) ^ (n + 1) * 2 ^ (n + 1) ≤ 1048576 ∧ (1 : Int) ≤ 2 ^ (n + 1) * 2 ^ (n + 1) := by
      have a := Int.mul_le_mul hle hle (by omega) (by omega)
      have b := Int.mul_le_mul (show (1 : Int) ≤ 2 ^ (n + 1) by omega) (show (1 : Int) ≤ 2 ^ (n + 1) by omega) (by omega) (by omega)
      omega
    rcases h1 : canon (gS W H l) (n + 1) x y with z | ⟨a, b, d, e⟩
    · have hc := cnt2_all (canon_leaf.1 h1)
      rw [hc] at hf
      rw [leavesQ_leaf]
      cases z with
      | false =>
        simp only [b2i, if_neg Bool.false_ne_true, Int.zero_mul] at hf
        exact rTreeNo hf
      | true =>
        simp only [b2i, if_pos, Int.one_mul] at hf
        exact rTreeAll (by omega) (by omega) (by omega) hss hf
    · obtain ⟨m, e', rfl, rfl, rfl, rfl⟩ := canon_node h1
      obtain rfl : m = n := by omega
      have h0 : cnt2 (gS W H l) x y (2 ^ (m + 1)) (2 ^ (m + 1)) ≠ 0 := fun c => by
        have := canon_leaf.2 (cnt2_zero.1 c)
        rw [h1] at this
        cases this
      have hF : cnt2 (gS W H l) x y (2 ^ (m + 1)) (2 ^ (m + 1)) ≠ 2 ^ (m + 1) * 2 ^ (m + 1) := fun c => by
        have := canon_leaf.2 (cnt2_full.1 c)
        rw [h1] at this
        cases this
      rw [leavesQ_node]
      have key := rTreeStep (R := R) (W := W) (H := H) (A := A) (c := c) (x := x) (y := y) (s := 2 ^ (m + 1)) (h := 2 ^ m) (T := fun j => canon (gS W H l) m (qx x (2 ^ m) j) (qy y (2 ^ m) j)) (K := fun j => leavesQ m (canon (gS W H l) m (qx x (2 ^ m) j) (qy y (2 ^ m) j)) (qx x (2 ^ m) j) (qy y (2 ^ m) j))
        h2 (by omega) (by omega) (by omega) h0 hF ⟨hss.1, by omega⟩ hf ?_ ?_ ?_
      · have e : ∀ K : Nat → List Rz, lvs K 4 = K 0 ++ K 1 ++ K 2 ++ K 3 := fun K => by simp [lvs]
        rw [e] at key
        exact key
      · intro i hi
        have hcap : ∀ j, (leavesQ m (canon (gS W H l) m (qx x (2 ^ m) j) (qy y (2 ^ m) j)) (qx x (2 ^ m) j) (qy y (2 ^ m) j)).length ≤ 262144 := fun j => by
          have h1 := @leaves_le (gS W H l) m (qx x (2 ^ m) j) (qy y (2 ^ m) j)
          rw [areas_canon] at h1
          have h2 := (@cnt2_le (gS W H l) (qx x (2 ^ m) j) (qy y (2 ^ m) j) (2 ^ m) (2 ^ m)).2
          have h3 : ∀ n, n ≤ 9 → ((2 ^ n : Nat) : Int) * ((2 ^ n : Nat) : Int) ≤ 262144 := by decide
          have h3 := h3 m (by omega)
          omega
        have hk : ∀ (K : Nat → List Rz) i, (∀ j, (K j).length ≤ 262144) → (lvs K i).length ≤ i * 262144 := fun K i hK => by
          induction i with
          | zero => simp [lvs]
          | succ i ih => have := hK i; rw [lvs_len]; omega
        have := hk (fun j => leavesQ m (canon (gS W H l) m (qx x (2 ^ m) j) (qy y (2 ^ m) j)) (qx x (2 ^ m) j) (qy y (2 ^ m) j)) (i + 1) hcap
        omega
      · intro i hi
        have := pk_le (T := fun j => canon (gS W H l) m (qx x (2 ^ m) j) (qy y (2 ^ m) j)) (n := m) (fun j => canon_fits) (i + 1)
        have h3 : ∀ n, n ≤ 9 → 2 * 4 ^ n ≤ 524288 := by decide
        have h3 := h3 m (by omega)
        have h4 : (i + 1) * (2 * 4 ^ m) ≤ 4 * 524288 := Nat.mul_le_mul (by omega) h3
        simp only [List.length_cons]
        omega
      · intro j hj R' hR'
        refine ih _ _ (by omega) ?_ ?_ ?_ ?_ R' fun w s => hR w (hR' w s)
        all_goals rcases (show j = 0 ∨ j = 1 ∨ j = 2 ∨ j = 3 by omega) with rfl | rfl | rfl | rfl <;> simp only [qx, qy] <;> omega
end Go.Proofs.YtojlgfkjnkjcmaaGreatDoor

/-
  The document's sets of cells: Print, Leaves, Of.
-/
namespace Go.Proofs.YtojlgfkjnkjcmaaGreatDoor
open Go.RowKit
open Sy
set_option linter.unusedVariables false
set_option linter.unusedSimpArgs false
set_option maxRecDepth 100000
set_option maxHeartbeats 4000000

theorem rPrintQ {R : HP} {W H : Nat} {A : Option Addr} {c : Nat} {l : List Bool} (hs : SetAt R W H A l) {n : Nat} (hn : n ≤ 10) (hS : Side (max (W : Int) H) n) :
    PureR Tryz.prog R 35 [setV W H A (W * H) c] (.string (bs (textQ W H (canon (gS W H l) n 0 0)))) := by
  have hp : (2 : Int) ^ n ≤ 2048 := by
    have : ∀ n, n ≤ 10 → (2 : Int) ^ n ≤ 2048 := by decide
    exact this n hn
  have hsd := fun R' => rSide (R := R') hn hS
  have htr := rTree (c := c) hs n 0 0 hn (by omega) (by omega) (by omega) (by omega)
  have hW := hs.w2
  have hH := hs.h2
  have hpW := fun R' => sRefPrint (R := R') (W : Int) (by omega) (by omega)
  have hpH := fun R' => sRefPrint (R := R') (H : Int) (by omega) (by omega)
  have hlW := Lib.itoa_length_le (W : Int) (by omega) (by omega)
  have hlH := Lib.itoa_length_le (H : Int) (by omega) (by omega)
  have hlt := print_le (canon_fits (g := gS W H l) (n := n) (x := 0) (y := 0))
  have h4 : ∀ n, n ≤ 10 → 2 * 4 ^ n ≤ 2097152 := by decide
  have h4 := h4 n hn
  unfold textQ
  generalize canon (gS W H l) n 0 0 = t at *
  generalize leavesQ n t 0 0 = L at *
  clear hs hS
  generalize W * H = N at *
  generalize (2 : Int) ^ n = s at *
  generalize Lib.itoa (W : Int) = sw at *
  generalize Lib.itoa (H : Int) = sh at *
  refine fn_of_run0 true Tryz.func35 rfl hmix rfl fun w0 => ?_
  conv => whnf
  refine ⟨trivial, RegAt.groups0 [([.T 0, .T 1, .T 2, .T 3, .T 4, .H 5], 6), ([.H 6], 7), ([.T 7, .T 8, .T 9, .T 10], 11), ([.T 11], 12)] hmix (by kernel_rfl) ?_⟩
  conv => whnf
  refine ⟨trivial, CallAt.pure (fun R' hR' => hsd R') ?_⟩
  conv => whnf
  refine ⟨trivial, ⟨⟨rfl, rfl⟩, fun h s => sub_same s⟩, ?_⟩
  conv => whnf
  refine ⟨trivial, CallAt.fn (pre := []) (post := treeP t L) _ (fun h s => s) (fun R' hR' => htr R' fun w s => (hR' w s).rest) ?_⟩
  rintro r hs ⟨A2, c2, rfl, rfl⟩
  conv => whnf
  refine ⟨trivial, ?_⟩
  conv => whnf
  refine ⟨trivial, RegAt.quiet hmix (by kernel_rfl) ?_⟩
  conv => whnf
  refine ⟨trivial, CallQ.pure (fun R' hR' => hpW R') ?_⟩
  conv => whnf
  refine ⟨?_, CallQ.pure (fun R' hR' => hpH R') ?_⟩
  · repeat' apply And.intro
    all_goals first | exact True.intro | (simp only [show (⟨#[32]⟩ : ByteArray) = bs [32] from rfl, bs_append, bs_size, List.length_append, List.length_cons, List.length_nil]; omega)
  conv => whnf
  refine ⟨?_, ?_⟩
  · repeat' apply And.intro
    all_goals first | exact True.intro | (simp only [show (⟨#[32]⟩ : ByteArray) = bs [32] from rfl, bs_append, bs_size, List.length_append, List.length_cons, List.length_nil]; omega)
  conv => whnf
  exact ⟨trivial, fin_drop (by simp only [show (⟨#[32]⟩ : ByteArray) = bs [32] from rfl, bs_append]; rfl)⟩
theorem rLeavesQ {R : HP} {W H : Nat} {A : Option Addr} {c : Nat} {l : List Bool} (hs : SetAt R W H A l) {n : Nat} (hn : n ≤ 10) (hS : Side (max (W : Int) H) n) :
    FnR Tryz.prog R 39 [setV W H A (W * H) c] [] fun r hs => ∃ A c, r = .slice A (leavesQ n (canon (gS W H l) n 0 0) 0 0).length c ∧ hs = [rzH A c (leavesQ n (canon (gS W H l) n 0 0) 0 0)] := by
  have hp : (2 : Int) ^ n ≤ 2048 := by
    have : ∀ n, n ≤ 10 → (2 : Int) ^ n ≤ 2048 := by decide
    exact this n hn
  have hsd := fun R' => rSide (R := R') hn hS
  have htr := rTree (c := c) hs n 0 0 hn (by omega) (by omega) (by omega) (by omega)
  generalize canon (gS W H l) n 0 0 = t at *
  generalize leavesQ n t 0 0 = L at *
  clear hs hS
  generalize W * H = N at *
  generalize (2 : Int) ^ n = s at *
  refine fn_of_run0 true Tryz.func39 rfl hmix rfl fun w0 => ?_
  conv => whnf
  refine ⟨trivial, RegAt.groups0 [([.T 0, .T 1, .T 2, .T 3, .T 4, .H 5], 6), ([.H 6], 7), ([.T 7, .T 8, .T 9, .T 10], 11), ([.T 11], 12)] hmix (by kernel_rfl) ?_⟩
  conv => whnf
  refine ⟨trivial, CallAt.pure (fun R' hR' => hsd R') ?_⟩
  conv => whnf
  refine ⟨trivial, ⟨⟨rfl, rfl⟩, fun h s => sub_same s⟩, ?_⟩
  conv => whnf
  refine ⟨trivial, CallAt.fn (pre := []) (post := treeP t L) _ (fun h s => s) (fun R' hR' => htr R' fun w s => (hR' w s).rest) ?_⟩
  rintro r hs ⟨A2, c2, rfl, rfl⟩
  conv => whnf
  refine ⟨trivial, ?_⟩
  conv => whnf
  exact ⟨trivial, .mk _ (fun w s => s) ⟨A2, c2, rfl, rfl⟩⟩
/-- which values are no less -/
def ovl (l : List Int) (t : Int) : List Bool := l.map fun v => decide (t ≤ v)
theorem ovl_len (l : List Int) (t : Int) : (ovl l t).length = l.length := List.length_map _
theorem bls_append (a b : List Bool) : bls (a ++ b) = bls a ++ bls b := List.map_append
structure OfS where
  i : Nat
  A : Option Addr
  c : Nat
theorem rOfQ {R : HP} {W H : Int} {A : Option Addr} {n c0 : Nat} {l : List Int} (t : Int) (ha : Vs R A n l) (hn : n ≤ 1048576) :
    FnR Tryz.prog R 10 [.agg #[.int .i64 W, .int .i64 H, .slice A n c0], .int .i64 t] [] fun r hs => ∃ A' c', r = .agg #[.int .i64 W, .int .i64 H, .slice A' n c'] ∧ hs = [rowH (.slice A' n c') n 4 1 (bls (ovl l t))] := by
  refine FnR.of_sat fun w0 s0 => ?_
  obtain ⟨hl, sa⟩ := ha.spot s0.rest
  refine fn_of_run0 true Tryz.func10 rfl hmix rfl fun w0 => ?_
  conv => whnf
  refine ⟨trivial, LoopAt.of (α := OfS) [1, 2, 4, 5] (fun a => [(6, .v (.int .i64 (a.i : Int)))]) (fun a => [(2, 37, [.v (.int .i64 W), .v (.int .i64 H), .v (.slice a.A a.i a.c)]), (1, 37, [.v (.int .i64 0), .v (.int .i64 0), .v (.slice none 0 0)]), (0, 25, [.v (.int .i64 W), .v (.int .i64 H), .v (.slice A n c0)])]) (fun a => [rowH (.slice a.A a.i a.c) a.i 4 1 (bls (ovl (l.take a.i) t))]) (fun a => a.i ≤ n) (fun a => n - a.i) ⟨0, none, 0⟩ (Nat.zero_le _)
    (Le.of (Nat.le_of_ble_eq_true rfl) (Nat.zero_le _) ⟨⟨rfl, rfl⟩, ⟨rfl, rfl⟩, ⟨rfl, rfl⟩, ⟨rfl, rfl⟩, ⟨rfl, rfl⟩, trivial⟩ ⟨⟨rfl, rfl, rfl, rfl⟩, ⟨rfl, rfl, rfl, rfl⟩, ⟨rfl, rfl, rfl, rfl⟩, trivial⟩ fun h s => sub_same (row_nil _ _ s)) ?_⟩
  rintro ⟨i, A', c'⟩ hi
  simp only at hi
  dsimp only
  conv => whnf
  refine ⟨fun h => ?_, fun h => ?_⟩
  · have hin : i < n := by have := of_decide_eq_true h; omega
    obtain ⟨b, off, rfl, hc⟩ : ∃ b off, A = some ⟨b, off, none⟩ ∧ ∀ w, Sat R w → ∀ (k : Nat) (hk : k < l.length), w.cell? ⟨b, off + k, none⟩ = some (.int .i64 l[k]) := by
      rcases sa with e | e
      · omega
      · exact e
    have hc := fun w s => hc w s i (by omega)
    have htk : bls (ovl (l.take (i + 1)) t) = bls (ovl (l.take i) t) ++ [.bool (decide (t ≤ l[i]))] := by
      rw [List.take_succ_eq_append_getElem (by omega)]
      simp only [bls, ovl, List.map_append]
      rfl
    generalize l[i]'(by omega) = v at *
    conv => whnf
    refine ⟨trivial, RegAt.groups [([.T 0, .T 1, .T 2, .T 3, .T 4, .T 5, .T 6, .T 7, .T 8, .H 9], 10), ([.H 10], 11), ([.T 11], 12), ([.H 12], 13)] hmix (by kernel_rfl) ?_⟩
    conv => whnf
    refine ⟨(by (repeat' apply And.intro) <;> first | exact True.intro | (unfold rng; omega) | omega), LoadAt.cell (.int .i64 v) rfl rfl (fun w hw => ?_) ?_⟩
    · have := hc w hw.rest
      simpa using this
    conv => whnf
    refine ⟨trivial, OpAt.lit [.bool (decide (t ≤ v))] 1 rfl rfl rfl rfl rfl (by decide) rfl rfl rfl (by simp [Value.cells]) rfl (by decide) fun g => ?_⟩
    conv => whnf
    refine ⟨trivial, ⟨⟨rfl, rfl⟩, fun h s => sub_tail s⟩, ?_⟩
    conv => whnf
    refine ⟨trivial, OpAt.append (.slice A' i c') i 1 1 (bls (ovl (l.take i) t)) [.bool (decide (t ≤ v))] (some ⟨g, 0, none⟩) 1 1 _ rfl (fun h s => sepL_pull 1 s) rfl rfl rfl rfl rfl rfl rfl rfl rfl (by decide) (fun w hw => rowH_reads rfl (Sat.left hw)) (by simp [Value.oneCell']) (by simp only [maxLen]; omega) (by omega) fun A2 c2 => ?_⟩
    conv => whnf
    refine ⟨trivial, ?_⟩
    conv => whnf
    refine ⟨(by (repeat' apply And.intro) <;> first | exact True.intro | (unfold rng; omega) | omega), .mk ⟨i + 1, A2, c2⟩ (by simp only; omega) (by simp only; omega) (Le.of (Nat.le_of_ble_eq_true rfl) (Nat.zero_le _) ⟨⟨rfl, rfl⟩, ⟨rfl, rfl⟩, ⟨rfl, rfl⟩, ⟨rfl, rfl⟩, ⟨rfl, rfl⟩, trivial⟩ ⟨⟨rfl, rfl, rfl, rfl⟩, ⟨rfl, rfl, rfl, rfl⟩, ⟨rfl, rfl, rfl, rfl⟩, trivial⟩ fun h s => ?_)⟩
    obtain ⟨h', e, s'⟩ := sub_head s
    refine ⟨h', e, ?_⟩
    show sepL [rowH (.slice A2 (i + 1) c2) (i + 1) 4 1 (bls (ovl (l.take (i + 1)) t))] R h'
    rw [htk]
    exact s'
  · have hin : i = n := by have := of_decide_eq_false h; omega
    subst hin
    rw [List.take_of_length_le (by omega)]
    conv => whnf
    exact ⟨trivial, .mk _ (fun w s => s) ⟨A', c', rfl, rfl⟩⟩
end Go.Proofs.YtojlgfkjnkjcmaaGreatDoor

