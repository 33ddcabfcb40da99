/-
  Texts of the proofs, one behind the other: AuditW, AuditC, AuditChk, AuditOpen, AuditA.
-/
import Derived.Test.YtlplbgbnojibmaaPartM
import Derived.Test.YtlplbgbnojibmaaPartI
/-
  audit.Where, the document's Where and Same.
-/
namespace Go.Proofs.Ytlplbgbnojibmaa
open Go.RowKit
open Sy
set_option linter.unusedVariables false
set_option linter.unusedSimpArgs false
set_option maxRecDepth 100000
set_option maxHeartbeats 4000000

/-- a finding: its kind, its cell -/
structure Fd where
  k : Int
  x : Int
  y : Int
  deriving DecidableEq
def fcel (l : List Fd) : List Value := l.flatMap fun f => [.int .i64 f.k, .int .i64 f.x, .int .i64 f.y]
theorem fcel_at : ∀ {l : List Fd} {i : Nat} (h : i < l.length), (fcel l)[i * 3]? = some (.int .i64 l[i].k) ∧ (fcel l)[i * 3 + 1]? = some (.int .i64 l[i].x) ∧ (fcel l)[i * 3 + 2]? = some (.int .i64 l[i].y)
  | f :: l, 0, _ => ⟨rfl, rfl, rfl⟩
  | f :: l, i + 1, h => by
    have := fcel_at (l := l) (i := i) (by simpa using h)
    have e : fcel (f :: l) = .int .i64 f.k :: .int .i64 f.x :: .int .i64 f.y :: fcel l := rfl
    rw [e, show (i + 1) * 3 = i * 3 + 3 by omega]
    simpa using this
theorem fcel_len (l : List Fd) : (fcel l).length = l.length * 3 := by
  induction l with
  | nil => rfl
  | cons f l ih =>
    have e : fcel (f :: l) = .int .i64 f.k :: .int .i64 f.x :: .int .i64 f.y :: fcel l := rfl
    rw [e]; simp [ih]; omega
theorem fcel_append (a b : List Fd) : fcel (a ++ b) = fcel a ++ fcel b := by simp [fcel]
theorem fcel_one (l : List Fd) : ∀ u ∈ fcel l, u.oneCell' = true := by
  intro u hu
  unfold fcel at hu
  obtain ⟨f, _, hf⟩ := List.mem_flatMap.1 hu
  simp at hf
  rcases hf with e | e | e <;> subst e <;> rfl
def spot (x y : Int) : Q4 := ⟨x, y, x, y⟩
def wstep (kind : Int) (r : Q4) (f : Fd) : Q4 := if f.k = kind ∧ (spot f.x f.y).ok then hull r (spot f.x f.y) else r
def q1000 : Q4 := ⟨1, 0, 0, 0⟩
def wfold (kind : Int) (l : List Fd) : Q4 := l.foldl (wstep kind) q1000
theorem wfold_succ (kind : Int) (l : List Fd) {i : Nat} (h : i < l.length) : wfold kind (l.take (i + 1)) = wstep kind (wfold kind (l.take i)) l[i] := by
  unfold wfold
  rw [List.take_succ_eq_append_getElem h, List.foldl_append]
  rfl
def whereR (kind : Int) (l : List Fd) : Q4 := if (wfold kind l).ok then wfold kind l else ⟨0, 0, 0, 0⟩
theorem q1000_not : ¬ q1000.ok := by decide
theorem hull_q {c : Q4} (h : c.ok) : hull q1000 c = c := by
  unfold hull
  rw [if_neg (fun d => d.2 h), if_pos q1000_not]
theorem hull_ok {a b : Q4} (ha : a.ok) (hb : b.ok) : (hull a b).ok := by
  unfold hull
  rw [if_neg (fun d => d.2 hb), if_neg (fun d => d ha), if_neg (fun d => d hb)]
  obtain ⟨a1, a2, a3, a4, a5, a6⟩ := ha
  obtain ⟨b1, b2, b3, b4, b5, b6⟩ := hb
  refine ⟨?_, ?_, ?_, ?_, ?_, ?_⟩ <;> simp only <;> omega
theorem wfold_inv (kind : Int) (l : List Fd) : (wfold kind l).ok ∨ wfold kind l = q1000 := by
  have : ∀ n, n ≤ l.length → ((wfold kind (l.take n)).ok ∨ wfold kind (l.take n) = q1000) := by
    intro n
    induction n with
    | zero => intro _; exact .inr (by simp [wfold])
    | succ n ih =>
      intro hn
      rw [wfold_succ kind l (by omega)]
      unfold wstep
      split
      · rename_i h
        rcases ih (by omega) with h1 | h1
        · exact .inl (hull_ok h1 h.2)
        · rw [h1, hull_q h.2]; exact .inl h.2
      · exact ih (by omega)
  have h := this l.length (Nat.le_refl _)
  rwa [List.take_length] at h

theorem rSpot (x y : Int) (R : HP) : PureR Try.prog R 56 [cellV x y] (spot x y).v := by
  refine fn_of_run0 false Try.func56 rfl hmix rfl fun w0 => ?_
  conv => whnf
  exact ⟨trivial, fin_drop rfl⟩
theorem sWhere {R : HP} {A : Option Addr} {n c : Nat} {l : List Fd} {kind : Int} (hn : n ≤ 4611686018427387904) (ha : Sl R A n 3 (fcel l)) : PureR Try.prog R 13 [.slice A n c, .int .i64 kind] (.tuple #[(whereR kind l).v, .bool (decide (wfold kind l).ok)]) := by
  refine PureR.of_sat fun w hs => ?_
  obtain ⟨hl, sa⟩ := ha.spot (by omega) hs
  rw [fcel_len] at hl
  have hl' : l.length = n := by omega
  clear hs
  refine fn_of_run0 false Try.func13 rfl hmix rfl fun w0 => ?_
  conv => whnf
  refine ⟨trivial, LoopAt.of (α := Nat) [0, 1, 4, 5, 6, 11, 12] (fun i => [(13, .v (.int .i64 (i : Int)))]) (fun i => [(1, 25, [.v (.int .i64 (wfold kind (l.take i)).x0), .v (.int .i64 (wfold kind (l.take i)).y0), .v (.int .i64 (wfold kind (l.take i)).x1), .v (.int .i64 (wfold kind (l.take i)).y1)]), (0, 25, [.v (.int .i64 0), .v (.int .i64 0), .v (.int .i64 0), .v (.int .i64 0)])]) (fun i => []) (fun i => i ≤ n) (fun i => n - i) 0 (Nat.zero_le _)
    (Le.of (Nat.le_of_ble_eq_true rfl) (Nat.zero_le _) ⟨⟨rfl, rfl⟩, ⟨rfl, rfl⟩, ⟨rfl, rfl⟩, ⟨rfl, rfl⟩, ⟨rfl, rfl⟩, ⟨rfl, rfl⟩, ⟨rfl, rfl⟩, ⟨rfl, rfl⟩, trivial⟩ ⟨⟨by simp [wfold, q1000]; rfl, rfl, rfl, rfl⟩, ⟨rfl, rfl, rfl, rfl⟩, trivial⟩ fun h s => sub_same s) ?_⟩
  intro i hi
  conv => whnf
  refine ⟨fun h => ?_, fun h => ?_⟩
  · have hi2 : i < n := by simpa using h
    obtain ⟨b, off, rfl, sc⟩ : ∃ b off, A = some ⟨b, off, none⟩ ∧ ∀ w, Sat R w → ∀ (j : Nat) u, (fcel l)[j]? = some u → w.cell? ⟨b, off + j, none⟩ = some u := by
      rcases sa with sa | sa
      · omega
      · exact sa
    obtain ⟨f1, f2, f3⟩ := fcel_at (l := l) (i := i) (by omega)
    have hstep := wfold_succ kind l (i := i) (by omega)
    generalize l[i]'(by omega) = f at *
    generalize wfold kind (l.take i) = r at *
    conv => whnf
    refine ⟨⟨trivial, by omega⟩, LoadAt.agg [.int .i64 f.k, .int .i64 f.x, .int .i64 f.y] rfl rfl rfl (fun w hw j v hj => ?_) ?_⟩
    · rw [Int.toNat_natCast, Nat.add_assoc]
      have hw := sub_all hw
      rcases j with _ | _ | _ | j
      · simp at hj; rw [← hj]; exact sc w hw _ _ f1
      · simp at hj; rw [← hj]; exact sc w hw _ _ f2
      · simp at hj; rw [← hj]; exact sc w hw _ _ f3
      · simp at hj
    have hno : ¬ (f.k = kind ∧ (spot f.x f.y).ok) → wfold kind (l.take (i + 1)) = r := fun h => by rw [hstep]; unfold wstep; rw [if_neg h]
    have hyes : f.k = kind → (spot f.x f.y).ok → wfold kind (l.take (i + 1)) = hull r (spot f.x f.y) := fun h h' => by rw [hstep]; unfold wstep; rw [if_pos ⟨h, h'⟩]
    conv => whnf
    refine ⟨fun h1 => ?_, fun h1 => ?_⟩
    · have g1 : f.k = kind := of_decide_eq_true h1
      conv => whnf
      refine ⟨trivial, CallAt.pure (fun R' hR' => pRight (spot f.x f.y) R') ?_⟩
      conv => whnf
      refine ⟨fun h2 => ?_, fun h2 => ?_⟩
      · have g2 := of_decide_eq_true h2
        conv => whnf
        refine ⟨trivial, CallAt.pure (fun R' hR' => pHull r (spot f.x f.y) R') ?_⟩
        conv => whnf
        refine ⟨⟨trivial, by unfold rng; omega⟩, .mk (i + 1) (by omega) (by omega) (Le.of (Nat.le_of_ble_eq_true rfl) (Nat.zero_le _) ⟨⟨rfl, rfl⟩, ⟨rfl, rfl⟩, ⟨rfl, rfl⟩, ⟨rfl, rfl⟩, ⟨rfl, rfl⟩, ⟨rfl, rfl⟩, ⟨rfl, rfl⟩, ⟨rfl, rfl⟩, trivial⟩ ⟨⟨?_, rfl, rfl, rfl⟩, ⟨rfl, rfl, rfl, rfl⟩, trivial⟩ fun h s => sub_same s)⟩
        rw [hyes g1 g2]
        rfl
      · have g2 := of_decide_eq_false h2
        conv => whnf
        refine ⟨⟨trivial, by unfold rng; omega⟩, .mk (i + 1) (by omega) (by omega) (Le.of (Nat.le_of_ble_eq_true rfl) (Nat.zero_le _) ⟨⟨rfl, rfl⟩, ⟨rfl, rfl⟩, ⟨rfl, rfl⟩, ⟨rfl, rfl⟩, ⟨rfl, rfl⟩, ⟨rfl, rfl⟩, ⟨rfl, rfl⟩, ⟨rfl, rfl⟩, trivial⟩ ⟨⟨?_, rfl, rfl, rfl⟩, ⟨rfl, rfl, rfl, rfl⟩, trivial⟩ fun h s => sub_same s)⟩
        rw [hno fun c => g2 c.2]
        rfl
    · have g1 : ¬ f.k = kind := of_decide_eq_false h1
      conv => whnf
      refine ⟨⟨trivial, by unfold rng; omega⟩, .mk (i + 1) (by omega) (by omega) (Le.of (Nat.le_of_ble_eq_true rfl) (Nat.zero_le _) ⟨⟨rfl, rfl⟩, ⟨rfl, rfl⟩, ⟨rfl, rfl⟩, ⟨rfl, rfl⟩, ⟨rfl, rfl⟩, ⟨rfl, rfl⟩, ⟨rfl, rfl⟩, ⟨rfl, rfl⟩, trivial⟩ ⟨⟨?_, rfl, rfl, rfl⟩, ⟨rfl, rfl, rfl, rfl⟩, trivial⟩ fun h s => sub_same s)⟩
      rw [hno fun c => g1 c.1]
      rfl
  · have hi2 : i = n := by simp at h; omega
    subst hi2
    rw [← hl', List.take_length]
    unfold whereR
    generalize wfold kind l = r at *
    conv => whnf
    refine ⟨trivial, CallAt.pure (fun R' hR' => pRight r R') ?_⟩
    conv => whnf
    refine ⟨fun h2 => ?_, fun h2 => ?_⟩
    · have g2 : ¬ r.ok := by simpa using h2
      rw [if_neg g2, decide_eq_false g2]
      conv => whnf
      exact ⟨trivial, fin_drop rfl⟩
    · have g2 : r.ok := by simpa using h2
      rw [if_pos g2, decide_eq_true g2]
      conv => whnf
      exact ⟨trivial, fin_drop rfl⟩
theorem rWhere {R : HP} {A : Option Addr} {n c : Nat} {l : List Fd} {kind : Int} (hn : n ≤ 4611686018427387904) (ha : Sl R A n 3 (fcel l)) : PureR Try.prog R 14 [.slice A n c, .int .i64 kind] (.tuple #[(whereR kind l).v, .bool (decide (wfold kind l).ok)]) := by
  refine PureR.of_sat fun w hs => ?_
  obtain ⟨hl, sa⟩ := ha.spot (by omega) hs
  rw [fcel_len] at hl
  have hl' : l.length = n := by omega
  clear hs
  have e0 : whereR kind (l.take 0) = ⟨0, 0, 0, 0⟩ := by unfold whereR; rw [if_neg]; exact q1000_not
  have e1 : decide (wfold kind (l.take 0)).ok = false := rfl
  refine fn_of_run0 false Try.func14 rfl hmix rfl fun w0 => ?_
  conv => whnf
  refine ⟨trivial, LoopAt.of (α := Nat) [0, 1, 4, 6] (fun i => [(7, .k (decide (wfold kind (l.take i)).ok)), (8, .v (.int .i64 (i : Int)))]) (fun i => [(1, 25, [.v (.int .i64 (whereR kind (l.take i)).x0), .v (.int .i64 (whereR kind (l.take i)).y0), .v (.int .i64 (whereR kind (l.take i)).x1), .v (.int .i64 (whereR kind (l.take i)).y1)]), (0, 25, [.v (.int .i64 0), .v (.int .i64 0), .v (.int .i64 0), .v (.int .i64 0)])]) (fun i => []) (fun i => i ≤ n) (fun i => n - i) 0 (Nat.zero_le _)
    (Le.of (Nat.le_of_ble_eq_true rfl) (Nat.zero_le _) ?_ ⟨⟨by rw [e0]; rfl, rfl, rfl, rfl⟩, ⟨rfl, rfl, rfl, rfl⟩, trivial⟩ fun h s => sub_same s) ?_⟩
  · refine ⟨⟨?_, rfl⟩, ⟨rfl, rfl⟩, ⟨rfl, rfl⟩, ⟨rfl, rfl⟩, ⟨rfl, rfl⟩, ⟨rfl, rfl⟩, trivial⟩
    rw [e1]
    rfl
  intro i hi
  conv => whnf
  refine ⟨fun h => ?_, fun h => ?_⟩
  · have hi2 : i < n := by simpa using h
    obtain ⟨b, off, rfl, sc⟩ : ∃ b off, A = some ⟨b, off, none⟩ ∧ ∀ w, Sat R w → ∀ (j : Nat) u, (fcel l)[j]? = some u → w.cell? ⟨b, off + j, none⟩ = some u := by
      rcases sa with sa | sa
      · omega
      · exact sa
    obtain ⟨f1, f2, f3⟩ := fcel_at (l := l) (i := i) (by omega)
    have hstep := wfold_succ kind l (i := i) (by omega)
    have hinv := wfold_inv kind (l.take i)
    have hw : whereR kind (l.take i) = (if (wfold kind (l.take i)).ok then wfold kind (l.take i) else ⟨0, 0, 0, 0⟩) := rfl
    have hw' : whereR kind (l.take (i + 1)) = (if (wfold kind (l.take (i + 1))).ok then wfold kind (l.take (i + 1)) else ⟨0, 0, 0, 0⟩) := rfl
    generalize l[i]'(by omega) = f at *
    generalize wfold kind (l.take i) = r at *
    generalize whereR kind (l.take i) = q at *
    conv => whnf
    refine ⟨⟨trivial, by omega⟩, LoadAt.agg [.int .i64 f.x, .int .i64 f.y] rfl rfl rfl (fun w hw j v hj => ?_) ?_⟩
    · rw [Int.toNat_natCast, Nat.add_assoc, Nat.add_assoc]
      have hw := sub_all hw
      rcases j with _ | _ | j
      · simp at hj; rw [← hj]; exact sc w hw _ _ f2
      · simp at hj; rw [← hj]; exact sc w hw _ _ f3
      · simp at hj
    by_cases hr : r.ok
    · rw [if_pos hr] at hw
      subst hw
      rw [decide_eq_true hr]
      conv => whnf
      refine ⟨trivial, CallAt.pure (fun R' hR' => rSpot f.x f.y R') ?_⟩
      conv => whnf
      refine ⟨⟨trivial, by omega⟩, LoadAt.cell (.int .i64 f.k) rfl rfl (fun w hw => by
        rw [Int.toNat_natCast, Nat.add_assoc]
        exact sc w (sub_all hw) _ _ f1) ?_⟩
      conv => whnf
      refine ⟨fun h1 => ?_, fun h1 => ?_⟩
      · have g1 : f.k = kind := by simpa using h1
        conv => whnf
        refine ⟨trivial, CallAt.pure (fun R' hR' => rRight (spot f.x f.y) R') ?_⟩
        conv => whnf
        refine ⟨fun h2 => ?_, fun h2 => ?_⟩
        · have g2 : ¬ (spot f.x f.y).ok := by simpa using h2
          have e : wfold kind (l.take (i + 1)) = q := by rw [hstep]; unfold wstep; rw [if_neg fun c => g2 c.2]
          rw [e, if_pos hr] at hw'
          conv => whnf
          refine ⟨⟨trivial, by unfold rng; omega⟩, .mk (i + 1) (by omega) (by omega) (Le.of (Nat.le_of_ble_eq_true rfl) (Nat.zero_le _) ⟨⟨?_, rfl⟩, ⟨rfl, rfl⟩, ⟨rfl, rfl⟩, ⟨rfl, rfl⟩, ⟨rfl, rfl⟩, ⟨rfl, rfl⟩, trivial⟩ ⟨⟨?_, rfl, rfl, rfl⟩, ⟨rfl, rfl, rfl, rfl⟩, trivial⟩ fun h s => sub_same s)⟩
          · rw [e, decide_eq_true hr]; rfl
          · rw [hw']; rfl
        · have g2 : (spot f.x f.y).ok := by simpa using h2
          have e : wfold kind (l.take (i + 1)) = hull q (spot f.x f.y) := by rw [hstep]; unfold wstep; rw [if_pos ⟨g1, g2⟩]
          have e2 := hull_ok hr g2
          rw [e, if_pos e2] at hw'
          conv => whnf
          refine ⟨trivial, CallAt.pure (fun R' hR' => rHull q (spot f.x f.y) R') ?_⟩
          conv => whnf
          refine ⟨⟨trivial, by unfold rng; omega⟩, .mk (i + 1) (by omega) (by omega) (Le.of (Nat.le_of_ble_eq_true rfl) (Nat.zero_le _) ⟨⟨?_, rfl⟩, ⟨rfl, rfl⟩, ⟨rfl, rfl⟩, ⟨rfl, rfl⟩, ⟨rfl, rfl⟩, ⟨rfl, rfl⟩, trivial⟩ ⟨⟨?_, rfl, rfl, rfl⟩, ⟨rfl, rfl, rfl, rfl⟩, trivial⟩ fun h s => sub_same s)⟩
          · rw [e, decide_eq_true e2]; rfl
          · rw [hw']; rfl
      · have g1 : ¬ f.k = kind := by simpa using h1
        have e : wfold kind (l.take (i + 1)) = q := by rw [hstep]; unfold wstep; rw [if_neg fun c => g1 c.1]
        rw [e, if_pos hr] at hw'
        conv => whnf
        refine ⟨⟨trivial, by unfold rng; omega⟩, .mk (i + 1) (by omega) (by omega) (Le.of (Nat.le_of_ble_eq_true rfl) (Nat.zero_le _) ⟨⟨?_, rfl⟩, ⟨rfl, rfl⟩, ⟨rfl, rfl⟩, ⟨rfl, rfl⟩, ⟨rfl, rfl⟩, ⟨rfl, rfl⟩, trivial⟩ ⟨⟨?_, rfl, rfl, rfl⟩, ⟨rfl, rfl, rfl, rfl⟩, trivial⟩ fun h s => sub_same s)⟩
        · rw [e, decide_eq_true hr]; rfl
        · rw [hw']; rfl
    · rw [if_neg hr] at hw
      have hrq : r = q1000 := hinv.resolve_left hr
      subst hw
      subst hrq
      rw [decide_eq_false hr]
      conv => whnf
      refine ⟨trivial, CallAt.pure (fun R' hR' => rSpot f.x f.y R') ?_⟩
      conv => whnf
      refine ⟨⟨trivial, by omega⟩, LoadAt.cell (.int .i64 f.k) rfl rfl (fun w hw => by
        rw [Int.toNat_natCast, Nat.add_assoc]
        exact sc w (sub_all hw) _ _ f1) ?_⟩
      conv => whnf
      refine ⟨fun h1 => ?_, fun h1 => ?_⟩
      · have g1 : f.k = kind := by simpa using h1
        conv => whnf
        refine ⟨trivial, CallAt.pure (fun R' hR' => rRight (spot f.x f.y) R') ?_⟩
        conv => whnf
        refine ⟨fun h2 => ?_, fun h2 => ?_⟩
        · have g2 : ¬ (spot f.x f.y).ok := by simpa using h2
          have e : wfold kind (l.take (i + 1)) = q1000 := by rw [hstep]; unfold wstep; rw [if_neg fun c => g2 c.2]
          rw [e, if_neg hr] at hw'
          conv => whnf
          refine ⟨⟨trivial, by unfold rng; omega⟩, .mk (i + 1) (by omega) (by omega) (Le.of (Nat.le_of_ble_eq_true rfl) (Nat.zero_le _) ⟨⟨?_, rfl⟩, ⟨rfl, rfl⟩, ⟨rfl, rfl⟩, ⟨rfl, rfl⟩, ⟨rfl, rfl⟩, ⟨rfl, rfl⟩, trivial⟩ ⟨⟨?_, rfl, rfl, rfl⟩, ⟨rfl, rfl, rfl, rfl⟩, trivial⟩ fun h s => sub_same s)⟩
          · rw [e, decide_eq_false hr]; rfl
          · rw [hw']; rfl
        · have g2 : (spot f.x f.y).ok := by simpa using h2
          have e : wfold kind (l.take (i + 1)) = spot f.x f.y := by rw [hstep]; unfold wstep; rw [if_pos ⟨g1, g2⟩, hull_q g2]
          rw [e, if_pos g2] at hw'
          conv => whnf
          refine ⟨⟨trivial, by unfold rng; omega⟩, .mk (i + 1) (by omega) (by omega) (Le.of (Nat.le_of_ble_eq_true rfl) (Nat.zero_le _) ⟨⟨?_, rfl⟩, ⟨rfl, rfl⟩, ⟨rfl, rfl⟩, ⟨rfl, rfl⟩, ⟨rfl, rfl⟩, ⟨rfl, rfl⟩, trivial⟩ ⟨⟨?_, rfl, rfl, rfl⟩, ⟨rfl, rfl, rfl, rfl⟩, trivial⟩ fun h s => sub_same s)⟩
          · rw [e, decide_eq_true g2]; rfl
          · rw [hw']; rfl
      · have g1 : ¬ f.k = kind := by simpa using h1
        have e : wfold kind (l.take (i + 1)) = q1000 := by rw [hstep]; unfold wstep; rw [if_neg fun c => g1 c.1]
        rw [e, if_neg hr] at hw'
        conv => whnf
        refine ⟨⟨trivial, by unfold rng; omega⟩, .mk (i + 1) (by omega) (by omega) (Le.of (Nat.le_of_ble_eq_true rfl) (Nat.zero_le _) ⟨⟨?_, rfl⟩, ⟨rfl, rfl⟩, ⟨rfl, rfl⟩, ⟨rfl, rfl⟩, ⟨rfl, rfl⟩, ⟨rfl, rfl⟩, trivial⟩ ⟨⟨?_, rfl, rfl, rfl⟩, ⟨rfl, rfl, rfl, rfl⟩, trivial⟩ fun h s => sub_same s)⟩
        · rw [e, decide_eq_false hr]; rfl
        · rw [hw']; rfl
  · have hi2 : i = n := by simp at h; omega
    subst hi2
    rw [← hl', List.take_length]
    by_cases hr : (wfold kind l).ok
    · rw [decide_eq_true hr]
      conv => whnf
      exact ⟨trivial, fin_drop rfl⟩
    · rw [decide_eq_false hr]
      conv => whnf
      exact ⟨trivial, fin_drop rfl⟩
theorem fd_eq (f g : Fd) (w : World) : (Op.equalIn 10000 105 (.agg #[.int .i64 f.k, .int .i64 f.x, .int .i64 f.y]) (.agg #[.int .i64 g.k, .int .i64 g.x, .int .i64 g.y])).run Try.prog w = .ok (decide (f = g)) w :=
  (eq_agg 4 (by rfl) (by decide) (r := (f.k == g.k && (((f.x == g.x) && ((f.y == g.y) && true)) && true))) (by kernel_rfl) w).trans (by
    congr 1
    obtain ⟨a, b, c⟩ := f
    obtain ⟨d, e, i⟩ := g
    rw [Bool.eq_iff_iff]
    simp)
theorem rSame {R : HP} {A B : Option Addr} {n m c d : Nat} {l l' : List Fd} (hn : n ≤ 4611686018427387904) (ha : Sl R A n 3 (fcel l)) (hb : Sl R B m 3 (fcel l')) : PureR Try.prog R 26 [.slice A n c, .slice B m d] (.bool (decide (l = l'))) := by
  refine PureR.of_sat fun w hs => ?_
  obtain ⟨hl, sa⟩ := ha.spot (by omega) hs
  obtain ⟨hl', sb⟩ := hb.spot (by omega) hs
  rw [fcel_len] at hl hl'
  have e1 : l.length = n := by omega
  have e2 : l'.length = m := by omega
  clear hs hl hl'
  refine fn_of_run0 false Try.func26 rfl hmix rfl fun w0 => ?_
  conv => whnf
  refine ⟨fun h => ?_, fun h => ?_⟩
  · have g : ¬ n = m := by simp at h; omega
    rw [decide_eq_false (fun e : l = l' => g (by rw [← e1, ← e2, e]))]
    conv => whnf
    exact ⟨trivial, fin_drop rfl⟩
  · have g : n = m := by simp at h; omega
    subst g
    conv => whnf
    refine ⟨trivial, LoopAt.keep (α := Nat) [0, 1] (fun i => [(5, .v (.int .i64 (i : Int)))]) (fun i => i ≤ n ∧ l.take i = l'.take i) (fun i => n - i) 0 ⟨Nat.zero_le _, rfl⟩ rfl ⟨⟨rfl, rfl⟩, trivial⟩ ⟨⟨rfl, rfl⟩, ⟨rfl, rfl⟩, trivial⟩ trivial ?_⟩
    rintro i ⟨hi, he⟩
    conv => whnf
    refine ⟨fun h => ?_, fun h => ?_⟩
    · have hi2 : i < n := by simpa using h
      rcases sa with sa | ⟨b, off, rfl, sa⟩
      · omega
      rcases sb with sb | ⟨b', off', rfl, sb⟩
      · omega
      obtain ⟨f1, f2, f3⟩ := fcel_at (l := l) (i := i) (by omega)
      obtain ⟨k1, k2, k3⟩ := fcel_at (l := l') (i := i) (by omega)
      have hsucc : l.take (i + 1) = l'.take (i + 1) ↔ l[i]'(by omega) = l'[i]'(by omega) := by
        rw [List.take_succ_eq_append_getElem (show i < l.length by omega), List.take_succ_eq_append_getElem (show i < l'.length by omega), he]
        simp only [List.append_cancel_left_eq, List.cons.injEq, and_true]
      have hne : l[i]'(by omega) ≠ l'[i]'(by omega) → l ≠ l' := fun h e => h (by subst e; rfl)
      generalize l[i]'(by omega) = f at *
      generalize l'[i]'(by omega) = f' at *
      conv => whnf
      refine ⟨trivial, RegAt.quiet hmix (by kernel_rfl) ?_⟩
      conv => whnf
      refine ⟨⟨trivial, by omega⟩, LoadAt.agg [.int .i64 f.k, .int .i64 f.x, .int .i64 f.y] rfl rfl rfl (fun w hw j v hj => ?_) ?_⟩
      · rw [Int.toNat_natCast, Nat.add_assoc]
        have hw := sub_all hw
        rcases j with _ | _ | _ | j
        · simp at hj; rw [← hj]; exact sa w hw _ _ f1
        · simp at hj; rw [← hj]; exact sa w hw _ _ f2
        · simp at hj; rw [← hj]; exact sa w hw _ _ f3
        · simp at hj
      conv => whnf
      refine ⟨⟨trivial, by omega⟩, LoadAt.agg [.int .i64 f'.k, .int .i64 f'.x, .int .i64 f'.y] rfl rfl rfl (fun w hw j v hj => ?_) ?_⟩
      · rw [Int.toNat_natCast, Nat.add_assoc]
        have hw := sub_all hw
        rcases j with _ | _ | _ | j
        · simp at hj; rw [← hj]; exact sb w hw _ _ k1
        · simp at hj; rw [← hj]; exact sb w hw _ _ k2
        · simp at hj; rw [← hj]; exact sb w hw _ _ k3
        · simp at hj
      conv => whnf
      refine ⟨trivial, RunQ.aggNe rfl rfl rfl rfl (by kernel_rfl) (fd_eq f f') ?_⟩
      conv => whnf
      refine ⟨trivial, ?_⟩
      conv => whnf
      refine ⟨fun h2 => ?_, fun h2 => ?_⟩
      · have g2 : f ≠ f' := by simpa using h2
        rw [decide_eq_false (hne g2)]
        conv => whnf
        exact ⟨trivial, fin_drop rfl⟩
      · have g2 : f = f' := by simpa using h2
        conv => whnf
        exact ⟨⟨trivial, by unfold rng; omega⟩, Next.keep (i + 1) ⟨by omega, hsucc.2 g2⟩ (by omega) ⟨⟨rfl, rfl⟩, trivial⟩ ⟨⟨rfl, rfl⟩, ⟨rfl, rfl⟩, trivial⟩ trivial rfl rfl rfl⟩
    · have hi2 : i = n := by simp at h; omega
      subst hi2
      have : l = l' := by
        rw [← List.take_length (l := l), ← List.take_length (l := l'), e1, e2, he]
      rw [decide_eq_true this]
      conv => whnf
      exact ⟨trivial, fin_drop rfl⟩
end Go.Proofs.Ytlplbgbnojibmaa

/-
  audit.check.
-/
namespace Go.Proofs.Ytlplbgbnojibmaa
open Go.RowKit
open Sy
set_option linter.unusedVariables false
set_option linter.unusedSimpArgs false
set_option maxRecDepth 100000
set_option maxHeartbeats 4000000

theorem sACheck {R : HP} {gb pb fb W H W1 H1 W2 H2 N : Nat} {f : Nat → Nat → Int} {F : Nat → Nat → Int × Int} {g : Nat → Int} (h1 : 1 ≤ W1) (h2 : 1 ≤ H1) (hg : ∀ w, Sat R w → GridAt w gb W H f) (hp : ∀ w, Sat R w → Sat (pyrH pb W1 H1 F) w) (hf : ∀ w, Sat R w → Sat (fenS fb W2 H2 N g) w) :
    PureR Try.prog R 76 [.pointer (some ⟨gb, 0, none⟩), .pointer (some ⟨pb, 0, none⟩), .pointer (some ⟨fb, 0, none⟩)] (.int .i64 (if (W1 = W ∧ H1 = H) ∧ W2 = W ∧ H2 = H then 0 else 3)) := by
  refine fn_of_run0 false Try.func76 rfl hmix rfl fun w0 => ?_
  conv => whnf
  refine ⟨trivial, CallAt.pure (fun R' hR' => gSize_p fun w s => hg w (hR' w s)) ?_⟩
  conv => whnf
  refine ⟨trivial, OpAt.val (.iface 49 (.pointer (some ⟨pb, 0, none⟩))) rfl rfl (fun w _ => by rfl) ?_⟩
  conv => whnf
  refine ⟨trivial, OpAt.val (.iface 52 (.pointer (some ⟨fb, 0, none⟩))) rfl rfl (fun w _ => by rfl) ?_⟩
  conv => whnf
  refine ⟨trivial, OpAt.val (.agg #[.iface 49 (.pointer (some ⟨pb, 0, none⟩)), .iface 52 (.pointer (some ⟨fb, 0, none⟩))]) rfl rfl (fun w _ => by kernel_rfl) ?_⟩
  conv => whnf
  refine ⟨trivial, LoopAt.keep (α := Nat) [0, 1, 2, 7, 8, 32] (fun i => [(33, .v (.int .i64 (i : Int)))]) (fun i => i ≤ 2 ∧ (1 ≤ i → W1 = W ∧ H1 = H) ∧ (2 ≤ i → W2 = W ∧ H2 = H)) (fun i => 2 - i) 0 ⟨by omega, fun h => absurd h (by omega), fun h => absurd h (by omega)⟩ rfl ⟨⟨rfl, rfl⟩, trivial⟩ ⟨⟨rfl, rfl⟩, ⟨rfl, rfl⟩, ⟨rfl, rfl⟩, ⟨rfl, rfl⟩, ⟨rfl, rfl⟩, ⟨rfl, rfl⟩, trivial⟩ trivial ?_⟩
  rintro i ⟨hi, hi1, hi2⟩
  rcases (show i = 0 ∨ i = 1 ∨ i = 2 by omega) with rfl | rfl | rfl
  · conv => whnf
    refine iff_t rfl ?_
    conv => whnf
    refine ⟨trivial, OpAt.val (.iface 49 (.pointer (some ⟨pb, 0, none⟩))) rfl rfl (fun w _ => by kernel_rfl) ?_⟩
    conv => whnf
    refine ⟨trivial, OpAt.enterP 83 [.pointer (some ⟨pb, 0, none⟩)] (.tuple #[.int .i64 W1, .int .i64 H1]) rfl rfl (fun w => by kernel_rfl) (fun R' hR' => sPSize h1 h2 fun w s => hp w (hR' w s)) ?_⟩
    conv => whnf
    refine ⟨fun g1 => ?_, fun g1 => ?_⟩
    · have g1 : W1 = W := by simp at g1; omega
      conv => whnf
      refine ⟨fun g2 => ?_, fun g2 => ?_⟩
      · have g2 : ¬ H1 = H := by simp at g2; omega
        rw [if_neg (by omega)]
        conv => whnf
        exact ⟨trivial, fin_pure rfl rfl⟩
      · have g2 : H1 = H := by simp at g2; omega
        conv => whnf
        exact ⟨⟨trivial, by unfold rng; omega⟩, Next.keep 1 ⟨by omega, fun _ => ⟨g1, g2⟩, fun h => absurd h (by omega)⟩ (by omega) ⟨⟨rfl, rfl⟩, trivial⟩ ⟨⟨rfl, rfl⟩, ⟨rfl, rfl⟩, ⟨rfl, rfl⟩, ⟨rfl, rfl⟩, ⟨rfl, rfl⟩, ⟨rfl, rfl⟩, trivial⟩ trivial rfl rfl rfl⟩
    · have g1 : ¬ W1 = W := by simp at g1; omega
      rw [if_neg (by omega)]
      conv => whnf
      exact ⟨trivial, fin_pure rfl rfl⟩
  · conv => whnf
    refine iff_t rfl ?_
    conv => whnf
    refine ⟨trivial, OpAt.val (.iface 52 (.pointer (some ⟨fb, 0, none⟩))) rfl rfl (fun w _ => by kernel_rfl) ?_⟩
    conv => whnf
    refine ⟨trivial, OpAt.enterP 191 [.pointer (some ⟨fb, 0, none⟩)] (.tuple #[.int .i64 W2, .int .i64 H2]) rfl rfl (fun w => by kernel_rfl) (fun R' hR' => sFSize fun w s => hf w (hR' w s)) ?_⟩
    conv => whnf
    refine ⟨fun g1 => ?_, fun g1 => ?_⟩
    · have g1 : W2 = W := by simp at g1; omega
      conv => whnf
      refine ⟨fun g2 => ?_, fun g2 => ?_⟩
      · have g2 : ¬ H2 = H := by simp at g2; omega
        rw [if_neg (by omega)]
        conv => whnf
        exact ⟨trivial, fin_pure rfl rfl⟩
      · have g2 : H2 = H := by simp at g2; omega
        conv => whnf
        exact ⟨⟨trivial, by unfold rng; omega⟩, Next.keep 2 ⟨by omega, fun _ => hi1 (by omega), fun _ => ⟨g1, g2⟩⟩ (by omega) ⟨⟨rfl, rfl⟩, trivial⟩ ⟨⟨rfl, rfl⟩, ⟨rfl, rfl⟩, ⟨rfl, rfl⟩, ⟨rfl, rfl⟩, ⟨rfl, rfl⟩, ⟨rfl, rfl⟩, trivial⟩ trivial rfl rfl rfl⟩
    · have g1 : ¬ W2 = W := by simp at g1; omega
      rw [if_neg (by omega)]
      conv => whnf
      exact ⟨trivial, fin_pure rfl rfl⟩
  · rw [if_pos ⟨hi1 (by omega), hi2 (by omega)⟩]
    conv => whnf
    refine iff_f rfl ?_
    conv => whnf
    exact ⟨trivial, fin_pure rfl rfl⟩
end Go.Proofs.Ytlplbgbnojibmaa

/-
  audit.Check, the document's Check.
-/
namespace Go.Proofs.Ytlplbgbnojibmaa
open Go.RowKit
open Sy
set_option linter.unusedVariables false
set_option linter.unusedSimpArgs false
set_option maxRecDepth 100000
set_option maxHeartbeats 4000000

def fdf (kind : Int) (W : Nat) (f u : Nat → Nat → Int) (n : Nat) : List Fd := (List.range n).flatMap fun i => if u (i % W) (i / W) = f (i % W) (i / W) then [] else [⟨kind, (i % W : Nat), (i / W : Nat)⟩]
theorem fdf_zero (kind : Int) (W : Nat) (f u : Nat → Nat → Int) : fdf kind W f u 0 = [] := rfl
theorem fdf_succ (kind : Int) (W : Nat) (f u : Nat → Nat → Int) (n : Nat) : fdf kind W f u (n + 1) = fdf kind W f u n ++ (if u (n % W) (n / W) = f (n % W) (n / W) then [] else [⟨kind, (n % W : Nat), (n / W : Nat)⟩]) := by
  unfold fdf
  rw [List.range_succ, List.flatMap_append]
  simp
theorem fdf_yes {kind : Int} {W : Nat} {f u : Nat → Nat → Int} {n : Nat} (h : u (n % W) (n / W) = f (n % W) (n / W)) : fdf kind W f u (n + 1) = fdf kind W f u n := by rw [fdf_succ, if_pos h, List.append_nil]
theorem fdf_no {kind : Int} {W : Nat} {f u : Nat → Nat → Int} {n : Nat} (h : ¬ u (n % W) (n / W) = f (n % W) (n / W)) : fdf kind W f u (n + 1) = fdf kind W f u n ++ [⟨kind, (n % W : Nat), (n / W : Nat)⟩] := by rw [fdf_succ, if_neg h]
theorem fdf_le (kind : Int) (W : Nat) (f u : Nat → Nat → Int) (n : Nat) : (fdf kind W f u n).length ≤ n := by
  induction n with
  | zero => simp [fdf_zero]
  | succ n ih => rw [fdf_succ, List.length_append]; split <;> simp <;> omega
theorem gv_ix {W i : Nat} {l : List Int} : gv W l (i % W) (i / W) = l.getD i 0 := by
  unfold gv
  have e : i / W * W + i % W = i := by have := Nat.div_add_mod i W; rw [Nat.mul_comm] at this; exact this
  rw [e]
abbrev fdV (f : Fd) : Value := .agg #[.int .i64 f.k, .int .i64 f.x, .int .i64 f.y]
abbrev fdRow (A : Option Addr) (n c : Nat) (l : List Fd) : HP := rowH (.slice A n c) n 105 3 (fcel l)
theorem nil_nil_row (A B : Option Addr) : True := trivial
theorem rChk {R : HP} {W H : Nat} {A B C : Option Addr} {n c c2 c3 : Nat} {l m o : List Int} (hn : W * H = n) (hW : 1 ≤ W ∧ W ≤ 1024) (hH : 1 ≤ H ∧ H ≤ 1024) (ha : Vs R A n l) (hb : Vs R B n m) (hc : Vs R C n o) :
    FnR Try.prog R 24 [modV W H A n c, modV W H B n c2, modV W H C n c3] [] fun r hs => ∃ D k d, r = .slice D k d ∧ k = (fdf 1 W (gv W l) (gv W m) n ++ fdf 2 W (gv W l) (gv W o) n).length ∧ hs = [fdRow D k d (fdf 1 W (gv W l) (gv W m) n ++ fdf 2 W (gv W l) (gv W o) n)] := by
  refine FnR.of_sat fun w hs => ?_
  obtain ⟨e1, sa⟩ := ha.spot hs.rest
  obtain ⟨e2, sb⟩ := hb.spot hs.rest
  obtain ⟨e3, sc⟩ := hc.spot hs.rest
  clear hs
  have hWH : W * H ≤ 1024 * 1024 := Nat.mul_le_mul hW.2 hH.2
  have z1 : (W : Int) * (H : Int) = (n : Int) := by rw [← hn]; simp
  have hmd : ∀ i, i < n → i % W < W ∧ i / W < H := fun i hi => ⟨Nat.mod_lt _ (by omega), Nat.div_lt_of_lt_mul (by rw [hn]; exact hi)⟩
  have hp1 := fun i => fdf_le 1 W (gv W l) (gv W m) i
  have hp2 := fun i => fdf_le 2 W (gv W l) (gv W o) i
  refine fn_of_run0 false Try.func24 rfl hmix rfl fun w0 => ?_
  conv => whnf
  refine ⟨trivial, OpAt.lit [] 3 rfl rfl rfl rfl rfl (by decide) rfl rfl rfl (by simp) rfl (by decide) fun g => ?_⟩
  conv => whnf
  refine ⟨trivial, LoopAt.of (α := Nat × Option Addr × Nat) [3, 4, 5] (fun a => [(7, .v (.slice a.2.1 (fdf 1 W (gv W l) (gv W m) a.1).length a.2.2)), (8, .v (.int .i64 (a.1 : Int)))]) (fun a => [(2, 43, [.v (.int .i64 W), .v (.int .i64 H), .v (.slice C n c3)]), (1, 43, [.v (.int .i64 W), .v (.int .i64 H), .v (.slice B n c2)]), (0, 43, [.v (.int .i64 W), .v (.int .i64 H), .v (.slice A n c)])])
    (fun a => [fdRow a.2.1 (fdf 1 W (gv W l) (gv W m) a.1).length a.2.2 (fdf 1 W (gv W l) (gv W m) a.1)]) (fun a => a.1 ≤ n) (fun a => n - a.1) (0, some ⟨g, 0, none⟩, 0) (Nat.zero_le _)
    (Le.of (Nat.le_of_ble_eq_true rfl) (Nat.zero_le _) ⟨⟨rfl, rfl⟩, ⟨rfl, rfl⟩, ⟨rfl, rfl⟩, ⟨rfl, rfl⟩, ⟨rfl, rfl⟩, trivial⟩ ⟨⟨rfl, rfl, rfl, rfl⟩, ⟨rfl, rfl, rfl, rfl⟩, ⟨rfl, rfl, rfl, rfl⟩, trivial⟩ fun h s => sub_same s) ?_⟩
  rintro ⟨i, D, d⟩ hi
  simp only at hi
  conv => whnf
  rw [z1]
  refine ⟨fun h => ?_, fun h => ?_⟩
  · have hi2 : i < n := by simp at h; omega
    rcases sa with sa | ⟨ba, oa, rfl, sa⟩
    · omega
    rcases sb with sb | ⟨bb, ob, rfl, sb⟩
    · omega
    have q1 := sa
    have q2 := sb
    have k1 : l[i]'(by omega) = gv W l (i % W) (i / W) := by rw [gv_ix, getD_at (by omega)]
    have k2 : m[i]'(by omega) = gv W m (i % W) (i / W) := by rw [gv_ix, getD_at (by omega)]
    have l1 : ∀ w, Sat R w → w.cell? ⟨ba, oa + i, none⟩ = some (.int .i64 (gv W l (i % W) (i / W))) := fun w s => by rw [← k1]; exact sa w s i (by omega)
    have l2 : ∀ w, Sat R w → w.cell? ⟨bb, ob + i, none⟩ = some (.int .i64 (gv W m (i % W) (i / W))) := fun w s => by rw [← k2]; exact sb w s i (by omega)
    have hy := @fdf_yes 1 W (gv W l) (gv W m) i
    have hno := @fdf_no 1 W (gv W l) (gv W m) i
    have hp := hp1 i
    have c1 : (i : Int) % (W : Int) = ((i % W : Nat) : Int) := by simp
    have c2 : (i : Int) / (W : Int) = ((i / W : Nat) : Int) := by simp
    obtain ⟨m1, m2⟩ := hmd i hi2
    generalize fdf 1 W (gv W l) (gv W m) i = P at *
    generalize gv W l (i % W) (i / W) = va at *
    generalize gv W m (i % W) (i / W) = vb at *
    conv => whnf
    refine ⟨(by (repeat' apply And.intro) <;> first | exact True.intro | (unfold rng; omega) | omega), RegAt.quiet hmix (by kernel_rfl) ?_⟩
    conv => whnf
    refine ⟨⟨trivial, by omega⟩, LoadAt.cell (.int .i64 vb) rfl rfl (fun w hw => by rw [Int.toNat_natCast]; exact l2 w (sub_all hw)) ?_⟩
    conv => whnf
    refine ⟨⟨trivial, by omega⟩, LoadAt.cell (.int .i64 va) rfl rfl (fun w hw => by rw [Int.toNat_natCast]; exact l1 w (sub_all hw)) ?_⟩
    conv => whnf
    refine ⟨trivial, ?_⟩
    conv => whnf
    refine ⟨fun h3 => ?_, fun h3 => ?_⟩
    · have h3 : ¬ vb = va := by simpa using h3
      have e := hno h3
      conv => whnf
      refine ⟨trivial, RegAt.groups0 [([.T 0, .T 1, .T 2, .T 3, .T 4, .T 5, .T 6, .T 7, .T 8, .T 9, .T 10, .H 11], 12), ([.H 12], 13), ([.T 13], 14)] hmix (by kernel_rfl) ?_⟩
      conv => whnf
      rw [c1, c2]
      generalize i % W = x at *
      generalize i / W = y at *
      refine ⟨?_, OpAt.lit [fdV ⟨1, x, y⟩] 3 rfl rfl rfl rfl rfl (by decide) rfl rfl rfl (by simp [Value.cells]) rfl (by decide) fun g3 => ?_⟩
      · exact (by (repeat' apply And.intro) <;> first | exact True.intro | (unfold rng; omega) | omega)
      conv => whnf
      refine ⟨trivial, ⟨⟨rfl, rfl⟩, fun h s => sub_nil s⟩, ?_⟩
      conv => whnf
      refine ⟨trivial, OpAt.append (.slice D P.length d) P.length 3 24 (fcel P) (fcel [⟨1, x, y⟩]) (some ⟨g3, 0, none⟩) 1 1 _ rfl (fun h s => sepL_pull 1 s) rfl rfl rfl rfl rfl rfl rfl rfl rfl (by decide) (fun w hw => rowH_reads rfl (Sat.left hw)) (fcel_one _) (by simp only [maxLen]; omega) (by omega) fun D' d' => ?_⟩
      conv => whnf
      refine ⟨trivial, ?_⟩
      conv => whnf
      refine ⟨⟨trivial, by unfold rng; omega⟩, .mk (i + 1, D', d') hi2 (by simp only; omega) (Le.of (Nat.le_of_ble_eq_true rfl) (Nat.zero_le _) ⟨⟨?_, rfl⟩, ⟨rfl, rfl⟩, ⟨rfl, rfl⟩, ⟨rfl, rfl⟩, ⟨rfl, rfl⟩, trivial⟩ ⟨⟨rfl, rfl, rfl, rfl⟩, ⟨rfl, rfl, rfl, rfl⟩, ⟨rfl, rfl, rfl, rfl⟩, trivial⟩ fun h s => ?_)⟩
      · show _ = some (SV.v (.slice D' (fdf 1 W (gv W l) (gv W m) (i + 1)).length d'))
        rw [e, List.length_append]; rfl
      · obtain ⟨h', e1, s'⟩ := sub_drop1 s
        refine ⟨h', e1, ?_⟩
        show sepL [fdRow D' (fdf 1 W (gv W l) (gv W m) (i + 1)).length d' (fdf 1 W (gv W l) (gv W m) (i + 1))] _ h'
        rw [e, List.length_append]
        unfold fdRow
        rw [fcel_append]
        exact s'
    · have h3 : vb = va := by simpa using h3
      have e := hy h3
      conv => whnf
      refine ⟨⟨trivial, by unfold rng; omega⟩, .mk (i + 1, D, d) hi2 (by simp only; omega) (Le.of (Nat.le_of_ble_eq_true rfl) (Nat.zero_le _) ⟨⟨?_, rfl⟩, ⟨rfl, rfl⟩, ⟨rfl, rfl⟩, ⟨rfl, rfl⟩, ⟨rfl, rfl⟩, trivial⟩ ⟨⟨rfl, rfl, rfl, rfl⟩, ⟨rfl, rfl, rfl, rfl⟩, ⟨rfl, rfl, rfl, rfl⟩, trivial⟩ fun h s => ?_)⟩
      · show _ = some (SV.v (.slice D (fdf 1 W (gv W l) (gv W m) (i + 1)).length d))
        rw [e]; rfl
      · show ∃ h', _ ∧ sepL [fdRow D (fdf 1 W (gv W l) (gv W m) (i + 1)).length d (fdf 1 W (gv W l) (gv W m) (i + 1))] _ h'
        rw [e]
        exact sub_same s
  · have hi2 : i = n := by simp at h; omega
    subst hi2
    have hp := hp1 i
    generalize hP : fdf 1 W (gv W l) (gv W m) i = P at *
    have eP : P = P ++ fdf 2 W (gv W l) (gv W o) 0 := by rw [fdf_zero, List.append_nil]
    conv => whnf
    refine ⟨(by (repeat' apply And.intro) <;> first | exact True.intro | (unfold rng; omega) | omega), LoopAt.of (α := Nat × Option Addr × Nat) [3, 5] (fun a => [(7, .v (.slice a.2.1 (P ++ fdf 2 W (gv W l) (gv W o) a.1).length a.2.2)), (9, .v (.int .i64 (a.1 : Int)))]) (fun a => [(2, 43, [.v (.int .i64 W), .v (.int .i64 H), .v (.slice C i c3)]), (1, 43, [.v (.int .i64 W), .v (.int .i64 H), .v (.slice B i c2)]), (0, 43, [.v (.int .i64 W), .v (.int .i64 H), .v (.slice A i c)])])
      (fun a => [fdRow a.2.1 (P ++ fdf 2 W (gv W l) (gv W o) a.1).length a.2.2 (P ++ fdf 2 W (gv W l) (gv W o) a.1)]) (fun a => a.1 ≤ i) (fun a => i - a.1) (0, D, d) (Nat.zero_le _)
      (Le.of (Nat.le_of_ble_eq_true rfl) (Nat.zero_le _) ⟨⟨by simp only [← eP]; rfl, rfl⟩, ⟨rfl, rfl⟩, ⟨rfl, rfl⟩, ⟨rfl, rfl⟩, trivial⟩ ⟨⟨rfl, rfl, rfl, rfl⟩, ⟨rfl, rfl, rfl, rfl⟩, ⟨rfl, rfl, rfl, rfl⟩, trivial⟩ fun h s => sub_same (by simp only [← eP]; exact s)) ?_⟩
    rintro ⟨j, D, d⟩ hj
    simp only at hj
    conv => whnf
    rw [z1]
    refine ⟨fun h => ?_, fun h => ?_⟩
    · have hi2 : j < i := by simp at h; omega
      rcases sa with sa | ⟨ba, oa, rfl, sa⟩
      · omega
      rcases sc with sc | ⟨bb, ob, rfl, sc⟩
      · omega
      have k1 : l[j]'(by omega) = gv W l (j % W) (j / W) := by rw [gv_ix, getD_at (by omega)]
      have k2 : o[j]'(by omega) = gv W o (j % W) (j / W) := by rw [gv_ix, getD_at (by omega)]
      have l1 : ∀ w, Sat R w → w.cell? ⟨ba, oa + j, none⟩ = some (.int .i64 (gv W l (j % W) (j / W))) := fun w s => by rw [← k1]; exact sa w s j (by omega)
      have l2 : ∀ w, Sat R w → w.cell? ⟨bb, ob + j, none⟩ = some (.int .i64 (gv W o (j % W) (j / W))) := fun w s => by rw [← k2]; exact sc w s j (by omega)
      have hy := @fdf_yes 2 W (gv W l) (gv W o) j
      have hno := @fdf_no 2 W (gv W l) (gv W o) j
      have hp' := hp2 j
      have c1 : (j : Int) % (W : Int) = ((j % W : Nat) : Int) := by simp
      have c2 : (j : Int) / (W : Int) = ((j / W : Nat) : Int) := by simp
      obtain ⟨m1, m2⟩ := hmd j hi2
      generalize fdf 2 W (gv W l) (gv W o) j = P2 at *
      generalize gv W l (j % W) (j / W) = va at *
      generalize gv W o (j % W) (j / W) = vb at *
      have hlen : (P ++ P2).length = P.length + P2.length := List.length_append
      obtain ⟨Q, hQ⟩ : ∃ Q, P ++ P2 = Q := ⟨_, rfl⟩
      rw [hQ] at hlen
      simp only [hQ]
      conv => whnf
      refine ⟨(by (repeat' apply And.intro) <;> first | exact True.intro | (unfold rng; omega) | omega), RegAt.quiet hmix (by kernel_rfl) ?_⟩
      conv => whnf
      refine ⟨⟨trivial, by omega⟩, LoadAt.cell (.int .i64 vb) rfl rfl (fun w hw => by rw [Int.toNat_natCast]; exact l2 w (sub_all hw)) ?_⟩
      conv => whnf
      refine ⟨⟨trivial, by omega⟩, LoadAt.cell (.int .i64 va) rfl rfl (fun w hw => by rw [Int.toNat_natCast]; exact l1 w (sub_all hw)) ?_⟩
      conv => whnf
      refine ⟨trivial, ?_⟩
      conv => whnf
      refine ⟨fun h3 => ?_, fun h3 => ?_⟩
      · have h3 : ¬ vb = va := by simpa using h3
        have e := hno h3
        conv => whnf
        refine ⟨trivial, RegAt.groups0 [([.T 0, .T 1, .T 2, .T 3, .T 4, .T 5, .T 6, .T 7, .T 8, .T 9, .T 10, .H 11], 12), ([.H 12], 13), ([.T 13], 14)] hmix (by kernel_rfl) ?_⟩
        conv => whnf
        rw [c1, c2]
        generalize j % W = x at *
        generalize j / W = y at *
        refine ⟨?_, OpAt.lit [fdV ⟨2, x, y⟩] 3 rfl rfl rfl rfl rfl (by decide) rfl rfl rfl (by simp [Value.cells]) rfl (by decide) fun g3 => ?_⟩
        · exact (by (repeat' apply And.intro) <;> first | exact True.intro | (unfold rng; omega) | omega)
        conv => whnf
        refine ⟨trivial, ⟨⟨rfl, rfl⟩, fun h s => sub_nil s⟩, ?_⟩
        conv => whnf
        refine ⟨trivial, OpAt.append (.slice D Q.length d) Q.length 3 24 (fcel Q) (fcel [⟨2, x, y⟩]) (some ⟨g3, 0, none⟩) 1 1 _ rfl (fun h s => sepL_pull 1 s) rfl rfl rfl rfl rfl rfl rfl rfl rfl (by decide) (fun w hw => rowH_reads rfl (Sat.left hw)) (fcel_one _) (by simp only [maxLen]; omega) (by omega) fun D' d' => ?_⟩
        conv => whnf
        refine ⟨trivial, ?_⟩
        conv => whnf
        refine ⟨⟨trivial, by unfold rng; omega⟩, .mk (j + 1, D', d') hi2 (by simp only; omega) (Le.of (Nat.le_of_ble_eq_true rfl) (Nat.zero_le _) ⟨⟨?_, rfl⟩, ⟨rfl, rfl⟩, ⟨rfl, rfl⟩, ⟨rfl, rfl⟩, trivial⟩ ⟨⟨rfl, rfl, rfl, rfl⟩, ⟨rfl, rfl, rfl, rfl⟩, ⟨rfl, rfl, rfl, rfl⟩, trivial⟩ fun h s => ?_)⟩
        · show _ = some (SV.v (.slice D' (P ++ fdf 2 W (gv W l) (gv W o) (j + 1)).length d'))
          rw [e, ← List.append_assoc, hQ, List.length_append]; rfl
        · obtain ⟨h', e1, s'⟩ := sub_drop1 s
          refine ⟨h', e1, ?_⟩
          show sepL [fdRow D' (P ++ fdf 2 W (gv W l) (gv W o) (j + 1)).length d' (P ++ fdf 2 W (gv W l) (gv W o) (j + 1))] _ h'
          rw [e, ← List.append_assoc, hQ, List.length_append]
          unfold fdRow
          rw [fcel_append]
          exact s'
      · have h3 : vb = va := by simpa using h3
        have e := hy h3
        conv => whnf
        refine ⟨⟨trivial, by unfold rng; omega⟩, .mk (j + 1, D, d) hi2 (by simp only; omega) (Le.of (Nat.le_of_ble_eq_true rfl) (Nat.zero_le _) ⟨⟨?_, rfl⟩, ⟨rfl, rfl⟩, ⟨rfl, rfl⟩, ⟨rfl, rfl⟩, trivial⟩ ⟨⟨rfl, rfl, rfl, rfl⟩, ⟨rfl, rfl, rfl, rfl⟩, ⟨rfl, rfl, rfl, rfl⟩, trivial⟩ fun h s => ?_)⟩
        · show _ = some (SV.v (.slice D (P ++ fdf 2 W (gv W l) (gv W o) (j + 1)).length d))
          rw [e, hQ]; rfl
        · show ∃ h', _ ∧ sepL [fdRow D (P ++ fdf 2 W (gv W l) (gv W o) (j + 1)).length d (P ++ fdf 2 W (gv W l) (gv W o) (j + 1))] _ h'
          rw [e, hQ]
          exact sub_same s
    · have hi2 : j = i := by simp at h; omega
      subst hi2
      generalize P ++ fdf 2 W (gv W l) (gv W o) j = Q at *
      conv => whnf
      exact ⟨(by (repeat' apply And.intro) <;> first | exact True.intro | (unfold rng; omega) | omega), .mk _ (fun w s => s) ⟨D, _, d, rfl, rfl, rfl⟩⟩

theorem pNthAll {W H i : Nat} (hW : 1 ≤ W ∧ W ≤ 1024) (hH : 1 ≤ H ∧ H ≤ 1024) (hi : i < W * H) (R : HP) : PureR Try.prog R 77 [rectV 0 0 ((W : Int) - 1) ((H : Int) - 1), .int .i64 i] (.tuple #[cellV (i % W : Nat) (i / W : Nat), .bool true]) := by
  have e1 : ((W : Int) - 1) = ((W - 1 : Nat) : Int) := by omega
  have e2 : ((H : Int) - 1) = ((H - 1 : Nat) : Int) := by omega
  have e3 : W - 1 - 0 + 1 = W := by omega
  have e4 : H - 1 - 0 + 1 = H := by omega
  have := sNth 0 0 (W - 1) (H - 1) i (Nat.zero_le _) (by omega) (Nat.zero_le _) (by omega) (by rw [e3, e4]; exact hi) R
  rw [e3] at this
  simp only [Nat.zero_add] at this
  rw [e1, e2]
  exact this
theorem Pf_bot {W H x y : Nat} {u : Nat → Nat → Int} (hx : x < W) (hy : y < H) : Pf W H u 0 (y * halfN W 0 + x) = (u x y, u x y) := by
  have hW : 1 ≤ W := by omega
  unfold Pf
  rw [halfN_zero hW]
  have e1 : (y * W + x) % W = x := by rw [Nat.mul_comm, Nat.mul_add_mod, Nat.mod_eq_of_lt hx]
  have e2 : (y * W + x) / W = y := by rw [Nat.mul_comm, Nat.mul_add_div (by omega), Nat.div_eq_of_lt hx]; omega
  rw [e1, e2, lv_zero (fun _ => rfl) hx hy, lv_zero (fun _ => rfl) hx hy]
theorem pAt0 {R : HP} {pb W H x y : Nat} {u : Nat → Nat → Int} (hW : W ≤ 1024) (hH : H ≤ 1024) (hx : x < W) (hy : y < H) (hR : ∀ w, Sat R w → Sat (pyrH pb W H (Pf W H u)) w) :
    PureR Try.prog R 78 [.pointer (some ⟨pb, 0, none⟩), .int .i64 0, cellV x y] (.tuple #[rngV (u x y) (u x y), .int .i64 0]) := by
  have hl := levN_pos W H
  have := sPAt (k := 0) (x := (x : Int)) (y := (y : Int)) ⟨by omega, hW⟩ ⟨by omega, hH⟩ hR hl (v := (u x y, u x y)) (e := 0) (.inl ⟨x, y, rfl, rfl, by rw [halfN_zero (by omega)]; exact hx, by rw [halfN_zero (by omega)]; exact hy, (Pf_bot hx hy).symm, rfl⟩)
  exact this
theorem sChk {R : HP} {gb pb fb W H : Nat} {f u t : Nat → Nat → Int} (ht : Far W H t) (hg : ∀ w, Sat R w → GridAt w gb W H f) (hp : ∀ w, Sat R w → Sat (pyrH pb W H (Pf W H u)) w) (hf : ∀ w, Sat R w → Sat (fenH fb W H t) w) :
    FnR Try.prog R 25 [.pointer (some ⟨gb, 0, none⟩), .pointer (some ⟨pb, 0, none⟩), .pointer (some ⟨fb, 0, none⟩)] [] fun r hs => ∃ D k d, r = .tuple #[.slice D k d, .int .i64 0] ∧ k = (fdf 1 W f u (W * H) ++ fdf 2 W f t (W * H)).length ∧ hs = [fdRow D k d (fdf 1 W f u (W * H) ++ fdf 2 W f t (W * H))] := by
  refine FnR.of_sat fun w hs => ?_
  obtain ⟨w1, w2, h1, h2⟩ := (hg w hs.rest).size
  clear hs
  have hWH : W * H ≤ 1024 * 1024 := Nat.mul_le_mul w2 h2
  have hmd : ∀ i, i < W * H → i % W < W ∧ i / W < H := fun i hi => ⟨Nat.mod_lt _ (by omega), Nat.div_lt_of_lt_mul hi⟩
  have hchk := fun (R' : HP) (hR' : ∀ w, Sat R' w → Sat R w) => sACheck (R := R') (f := f) (F := Pf W H u) (g := fenG W H t) w1 h1 (fun w s => hg w (hR' w s)) (fun w s => hp w (hR' w s)) (fun w s => hf w (hR' w s))
  simp only [and_self, if_true] at hchk
  have hval := fun (R' : HP) (hR' : ∀ w, Sat R' w → Sat R w) => gValAll2 (R := R') fun w s => hg w (hR' w s)
  have hvs := fun i (hi : i < W * H) => vRows_ix (f := f) w1 hi
  have hnth := fun i (hi : i < W * H) R' => pNthAll ⟨w1, w2⟩ ⟨h1, h2⟩ hi R'
  have hat := fun i (hi : i < W * H) (R' : HP) (hR' : ∀ w, Sat R' w → Sat R w) => pAt0 (R := R') w2 h2 (hmd i hi).1 (hmd i hi).2 (fun w s => hp w (hR' w s))
  have hfat := fun i (hi : i < W * H) (R' : HP) (hR' : ∀ w, Sat R' w → Sat R w) => sFAt (R := R') ht w2 h2 (hmd i hi).1 (hmd i hi).2 (fun w s => hf w (hR' w s))
  have hy1 := fun i => @fdf_yes 1 W f u i
  have hn1 := fun i => @fdf_no 1 W f u i
  have hy2 := fun i => @fdf_yes 2 W f t i
  have hn2 := fun i => @fdf_no 2 W f t i
  have hp1 := fun i => fdf_le 1 W f u i
  have hp2 := fun i => fdf_le 2 W f t i
  have z1 := fdf_zero 1 W f u
  have z2 := fdf_zero 2 W f t
  generalize fdf 1 W f u = P1 at *
  generalize fdf 2 W f t = P2 at *
  generalize (vRows f 0 W 0 H) = V at *
  generalize W * H = M at *
  refine fn_of_run0 false Try.func25 rfl hmix rfl fun w0 => ?_
  conv => whnf
  refine ⟨trivial, CallAt.pure (fun R' hR' => hchk R' hR') ?_⟩
  conv => whnf
  refine iff_f (by decide) ?_
  conv => whnf
  refine ⟨trivial, CallAt.pure (fun R' hR' => gAll_p fun w s => hg w (hR' w s)) ?_⟩
  conv => whnf
  refine ⟨trivial, CallAt.fn (pre := []) [] (fun h s => s) (fun R' hR' => hval R' hR') ?_⟩
  rintro r hs ⟨vb, vc, rfl, rfl⟩
  conv => whnf
  refine ⟨trivial, LoopAt.heap (α := Nat × Option Addr × Nat × Option Addr × Nat) [0, 1, 2, 35, 36] (fun a => [(9, .v (.slice a.2.1 (P1 a.1).length a.2.2.1)), (10, .v (.slice a.2.2.2.1 (P2 a.1).length a.2.2.2.2)), (37, .v (.int .i64 (a.1 : Int)))])
    (fun a => [fdRow a.2.1 (P1 a.1).length a.2.2.1 (P1 a.1), fdRow a.2.2.2.1 (P2 a.1).length a.2.2.2.2 (P2 a.1), rowH (.slice (some ⟨vb, 0, none⟩) M vc) M 2 1 (ints V)]) (fun a => a.1 ≤ M) (fun a => M - a.1) (0, none, 0, none, 0) (Nat.zero_le _) rfl ⟨⟨by simp only [z1]; rfl, rfl⟩, ⟨by simp only [z2]; rfl, rfl⟩, ⟨rfl, rfl⟩, trivial⟩ ⟨⟨rfl, rfl⟩, ⟨rfl, rfl⟩, ⟨rfl, rfl⟩, ⟨rfl, rfl⟩, ⟨rfl, rfl⟩, trivial⟩ trivial (fun h s => sub_same ?_) ?_⟩
  · simp only [z1, z2]
    exact row_nil (R := sepL [rowH (.slice none 0 0) 0 105 3 [], rowH (.slice (some ⟨vb, 0, none⟩) M vc) M 2 1 (ints V)] R) _ _ (row_nil (R := sepL [rowH (.slice (some ⟨vb, 0, none⟩) M vc) M 2 1 (ints V)] R) _ _ s)
  rintro ⟨i, A, c, B, d⟩ hi
  simp only at hi
  conv => whnf
  refine ⟨fun h => ?_, fun h => ?_⟩
  · have hi2 : i < M := by simp at h; omega
    have hv := hvs i hi2
    have n1 := hnth i hi2
    have a1 := hat i hi2
    have f1 := hfat i hi2
    have y1 := hy1 i
    have o1 := hn1 i
    have y2 := hy2 i
    have o2 := hn2 i
    have b1 := hp1 i
    have b2 := hp2 i
    generalize f (i % W) (i / W) = vf at *
    generalize u (i % W) (i / W) = vu at *
    generalize t (i % W) (i / W) = vt at *
    generalize i % W = x at *
    generalize i / W = y at *
    conv => whnf
    refine ⟨⟨trivial, by omega⟩, LoadAt.cell (.int .i64 vf) rfl rfl (fun w hw => by
      have := row_at (hw.in_ 2 rfl) (by omega) hv
      rw [Int.toNat_natCast]; simpa using this) ?_⟩
    conv => whnf
    refine ⟨trivial, CallAt.pure (fun R' hR' => gAll_p fun w s => hg w (hR' w s).rest) ?_⟩
    conv => whnf
    refine ⟨trivial, CallAt.pure (fun R' hR' => n1 R') ?_⟩
    conv => whnf
    refine ⟨trivial, CallAt.pure (fun R' hR' => a1 R' fun w s => (hR' w s).rest) ?_⟩
    conv => whnf
    refine ⟨fun g1 => ?_, fun g1 => ?_⟩
    · have g1 : vu = vf := by simpa using g1
      have e1 := y1 g1
      conv => whnf
      refine iff_f (by simp [g1]) ?_
      conv => whnf
      refine ⟨trivial, CallAt.pure (fun R' hR' => f1 R' fun w s => (hR' w s).rest) ?_⟩
      conv => whnf
      refine ⟨fun g2 => ?_, fun g2 => ?_⟩
      · have g2 : ¬ vt = vf := by simpa using g2
        have e2 := o2 g2
        conv => whnf
        refine ⟨trivial, OpAt.lit [fdV ⟨2, x, y⟩] 3 rfl rfl rfl rfl rfl (by decide) rfl rfl rfl (by simp [Value.cells]) rfl (by decide) fun g3 => ?_⟩
        conv => whnf
        refine ⟨trivial, OpAt.append (.slice B (P2 i).length d) (P2 i).length 3 24 (fcel (P2 i)) (fcel [⟨2, x, y⟩]) (some ⟨g3, 0, none⟩) 1 1 _ rfl (fun h s => sepL_pull 2 s) rfl rfl rfl rfl rfl rfl rfl rfl rfl (by decide) (fun w hw => rowH_reads rfl (Sat.left hw)) (fcel_one _) (by simp only [maxLen]; omega) (by omega) fun B' d' => ?_⟩
        conv => whnf
        refine ⟨⟨trivial, by unfold rng; omega⟩, Next.heap (i + 1, A, c, B', d') hi2 (by simp only; omega) ⟨⟨?_, rfl⟩, ⟨?_, rfl⟩, ⟨rfl, rfl⟩, trivial⟩ ⟨⟨rfl, rfl⟩, ⟨rfl, rfl⟩, ⟨rfl, rfl⟩, ⟨rfl, rfl⟩, ⟨rfl, rfl⟩, trivial⟩ trivial rfl rfl fun h s => ?_⟩
        · show _ = some (SV.v (.slice A (P1 (i + 1)).length c))
          rw [e1]; rfl
        · show _ = some (SV.v (.slice B' (P2 (i + 1)).length d'))
          rw [e2, List.length_append]; rfl
        · obtain ⟨h', e, s'⟩ := sub_drop1 s
          refine ⟨h', e, ?_⟩
          show sepL [fdRow A (P1 (i + 1)).length c (P1 (i + 1)), fdRow B' (P2 (i + 1)).length d' (P2 (i + 1)), _] _ h'
          rw [e1, e2, List.length_append]
          unfold fdRow
          rw [fcel_append]
          exact sepL_pull 1 s'
      · have g2 : vt = vf := by simpa using g2
        have e2 := y2 g2
        conv => whnf
        refine ⟨⟨trivial, by unfold rng; omega⟩, Next.heap (i + 1, A, c, B, d) hi2 (by simp only; omega) ⟨⟨?_, rfl⟩, ⟨?_, rfl⟩, ⟨rfl, rfl⟩, trivial⟩ ⟨⟨rfl, rfl⟩, ⟨rfl, rfl⟩, ⟨rfl, rfl⟩, ⟨rfl, rfl⟩, ⟨rfl, rfl⟩, trivial⟩ trivial rfl rfl fun h s => ?_⟩
        · show _ = some (SV.v (.slice A (P1 (i + 1)).length c))
          rw [e1]; rfl
        · show _ = some (SV.v (.slice B (P2 (i + 1)).length d))
          rw [e2]; rfl
        · show ∃ h', _ ∧ sepL [fdRow A (P1 (i + 1)).length c (P1 (i + 1)), fdRow B (P2 (i + 1)).length d (P2 (i + 1)), _] _ h'
          rw [e1, e2]
          exact sub_same s
    · have g1 : ¬ vu = vf := by simpa using g1
      have e1 := o1 g1
      conv => whnf
      refine ⟨trivial, OpAt.lit [fdV ⟨1, x, y⟩] 3 rfl rfl rfl rfl rfl (by decide) rfl rfl rfl (by simp [Value.cells]) rfl (by decide) fun g4 => ?_⟩
      conv => whnf
      refine ⟨trivial, OpAt.append (.slice A (P1 i).length c) (P1 i).length 3 24 (fcel (P1 i)) (fcel [⟨1, x, y⟩]) (some ⟨g4, 0, none⟩) 1 1 _ rfl (fun h s => sepL_pull 1 s) rfl rfl rfl rfl rfl rfl rfl rfl rfl (by decide) (fun w hw => rowH_reads rfl (Sat.left hw)) (fcel_one _) (by simp only [maxLen]; omega) (by omega) fun A' c' => ?_⟩
      conv => whnf
      refine ⟨trivial, CallAt.pure (fun R' hR' => f1 R' fun w s => (hR' w s).rest) ?_⟩
      conv => whnf
      refine ⟨fun g2 => ?_, fun g2 => ?_⟩
      · have g2 : ¬ vt = vf := by simpa using g2
        have e2 := o2 g2
        conv => whnf
        refine ⟨trivial, OpAt.lit [fdV ⟨2, x, y⟩] 3 rfl rfl rfl rfl rfl (by decide) rfl rfl rfl (by simp [Value.cells]) rfl (by decide) fun g3 => ?_⟩
        conv => whnf
        refine ⟨trivial, OpAt.append (.slice B (P2 i).length d) (P2 i).length 3 24 (fcel (P2 i)) (fcel [⟨2, x, y⟩]) (some ⟨g3, 0, none⟩) 1 1 _ rfl (fun h s => sepL_pull 3 s) rfl rfl rfl rfl rfl rfl rfl rfl rfl (by decide) (fun w hw => rowH_reads rfl (Sat.left hw)) (fcel_one _) (by simp only [maxLen]; omega) (by omega) fun B' d' => ?_⟩
        conv => whnf
        refine ⟨⟨trivial, by unfold rng; omega⟩, Next.heap (i + 1, A', c', B', d') hi2 (by simp only; omega) ⟨⟨?_, rfl⟩, ⟨?_, rfl⟩, ⟨rfl, rfl⟩, trivial⟩ ⟨⟨rfl, rfl⟩, ⟨rfl, rfl⟩, ⟨rfl, rfl⟩, ⟨rfl, rfl⟩, ⟨rfl, rfl⟩, trivial⟩ trivial rfl rfl fun h s => ?_⟩
        · show _ = some (SV.v (.slice A' (P1 (i + 1)).length c'))
          rw [e1, List.length_append]; rfl
        · show _ = some (SV.v (.slice B' (P2 (i + 1)).length d'))
          rw [e2, List.length_append]; rfl
        · obtain ⟨h', e, s'⟩ := sub_drop1 s
          obtain ⟨h2, e', s2⟩ := sub_tail (sepL_pull 2 s')
          refine ⟨h2, fun i o x => e i o (e' i o x), ?_⟩
          show sepL [fdRow A' (P1 (i + 1)).length c' (P1 (i + 1)), fdRow B' (P2 (i + 1)).length d' (P2 (i + 1)), _] _ h2
          rw [e1, e2, List.length_append, List.length_append]
          unfold fdRow
          rw [fcel_append, fcel_append]
          exact sepL_pull 1 s2
      · have g2 : vt = vf := by simpa using g2
        have e2 := y2 g2
        conv => whnf
        refine ⟨⟨trivial, by unfold rng; omega⟩, Next.heap (i + 1, A', c', B, d) hi2 (by simp only; omega) ⟨⟨?_, rfl⟩, ⟨?_, rfl⟩, ⟨rfl, rfl⟩, trivial⟩ ⟨⟨rfl, rfl⟩, ⟨rfl, rfl⟩, ⟨rfl, rfl⟩, ⟨rfl, rfl⟩, ⟨rfl, rfl⟩, trivial⟩ trivial rfl rfl fun h s => ?_⟩
        · show _ = some (SV.v (.slice A' (P1 (i + 1)).length c'))
          rw [e1, List.length_append]; rfl
        · show _ = some (SV.v (.slice B (P2 (i + 1)).length d))
          rw [e2]; rfl
        · obtain ⟨h', e, s'⟩ := sub_drop1 s
          refine ⟨h', e, ?_⟩
          show sepL [fdRow A' (P1 (i + 1)).length c' (P1 (i + 1)), fdRow B (P2 (i + 1)).length d (P2 (i + 1)), _] _ h'
          rw [e1, e2, List.length_append]
          unfold fdRow
          rw [fcel_append]
          exact s'
  · have hi2 : i = M := by simp at h; omega
    subst hi2
    have b1 := hp1 i
    have b2 := hp2 i
    have hlen : (P1 i ++ P2 i).length = (P1 i).length + (P2 i).length := List.length_append
    have hcel := fcel_append (P1 i) (P2 i)
    generalize P1 i = L1 at *
    generalize P2 i = L2 at *
    generalize L1 ++ L2 = L at *
    conv => whnf
    refine ⟨trivial, OpAt.append (.slice A L1.length c) L1.length 3 24 (fcel L1) (fcel L2) B L2.length d _ rfl (fun h s => s) rfl rfl rfl rfl rfl rfl rfl rfl rfl (by decide) (fun w hw => rowH_reads rfl (Sat.left hw)) (fcel_one _) (by simp only [maxLen]; omega) (by omega) fun D k => ?_⟩
    conv => whnf
    refine ⟨trivial, .mk [fdRow D L.length k L] (fun w ⟨h, hs, s⟩ => ?_) ⟨D, _, k, ?_, rfl, rfl⟩⟩
    · obtain ⟨h1, e1, s1⟩ := sub_drop1 s
      obtain ⟨h2, e2, s2⟩ := sub_drop1 s1
      refine ⟨h2, (hs.mono e1).mono e2, ?_⟩
      unfold fdRow
      rw [hlen, hcel]
      exact s2
    · rw [hlen]; rfl
end Go.Proofs.Ytlplbgbnojibmaa

/-
  Findings among the arguments.
-/
namespace Go.Proofs.Ytlplbgbnojibmaa
open Go.ChangeShapes Go.WideShapes Go.ChangeAt Go.RowKit Go.Joins Sy
set_option linter.unusedVariables false
set_option linter.unusedSimpArgs false
set_option maxRecDepth 100000
set_option maxHeartbeats 4000000

theorem fd_leaf : ∀ j, j < 3 → leafK Try.prog 6 105 j = some .i64 := fun j hj => by rcases (show j = 0 ∨ j = 1 ∨ j = 2 by omega) with rfl | rfl | rfl <;> kernel_rfl
theorem open_findings {H : Type} {enc : TypeId × Value → H} {w : World} {base : Nat} {spare : Nat → Bool} {held : Bool} {a : Option Addr} {n c : Nat} {d : DataW H} {ps : List MemPlace} (h : DataW.Trod enc Try.prog w base spare held 22 (.slice a n c) d ps) :
    ∃ l, Reads w w.heap.size 3 a n (fcel l) ∧ n ≤ maxLen := by
  obtain ⟨fuel, h⟩ := h
  rcases open_flat 3 (fun _ => .i64) Try.underlying22 (by kernel_rfl) fd_leaf h with hcs | ⟨x, l, c, zs, hcs, hl, hm, hz⟩
  · simp [Value.cells] at hcs
    obtain ⟨rfl, rfl, rfl⟩ := hcs
    exact ⟨[], Reads.empty, by simp [maxLen]⟩
  · simp [Value.cells] at hcs
    obtain ⟨rfl, rfl, rfl⟩ := hcs
    refine ⟨(List.range n).map fun i => ⟨zs i 0, zs i 1, zs i 2⟩, reads_flat (by decide) hz (by rw [fcel_len]; simp) (fun i j hi hj => ?_), Nat.le_trans hl hm⟩
    obtain ⟨f1, f2, f3⟩ := fcel_at (l := (List.range n).map fun i => (⟨zs i 0, zs i 1, zs i 2⟩ : Fd)) (i := i) (by simpa using hi)
    simp only [List.getElem_map, List.getElem_range] at f1 f2 f3
    rcases (show j = 0 ∨ j = 1 ∨ j = 2 by omega) with rfl | rfl | rfl
    · exact f1
    · exact f2
    · exact f3
end Go.Proofs.Ytlplbgbnojibmaa

/-
  hachurelaw38.awake; AuditWhere.
-/
namespace Go.Proofs.Ytlplbgbnojibmaa
open Go.RowKit
open Sy
set_option linter.unusedVariables false
set_option linter.unusedSimpArgs false
set_option maxRecDepth 100000
set_option maxHeartbeats 4000000

theorem may_far {W H : Nat} {f : Nat → Nat → Int} (h : ∀ x y, x < W → y < H → MayV (f x y)) : Far W H f := fun i j hi hj => by have := h i j hi hj; unfold MayV at this; omega
theorem gv_may {W H : Nat} {l : List Int} (hl : l.length = W * H) (hm : ∀ v ∈ l, MayV v) : ∀ x y, x < W → y < H → MayV (gv W l x y) := fun x y hx hy => by
  have hi : y * W + x < l.length := by
    rw [hl]
    exact idx_lt hx hy
  unfold gv
  rw [getD_at hi]
  exact hm _ (List.getElem_mem _)
theorem sAwake38 (R : HP) : PureR Try.prog R 12 [] (.bool true) := by
  have hfar : Far 2 2 (gv 2 [1, 2, 3, 4]) := may_far (gv_may rfl (by simp [MayV]))
  have hL : fdf 1 2 (fillG ⟨((1 : Nat) : Int), ((0 : Nat) : Int), ((1 : Nat) : Int), ((0 : Nat) : Int)⟩ 9 (gv 2 [1, 2, 3, 4])) (gv 2 [1, 2, 3, 4]) (2 * 2) ++ fdf 2 2 (fillG ⟨((1 : Nat) : Int), ((0 : Nat) : Int), ((1 : Nat) : Int), ((0 : Nat) : Int)⟩ 9 (gv 2 [1, 2, 3, 4])) (gv 2 [1, 2, 3, 4]) (2 * 2) = [⟨1, 1, 0⟩, ⟨2, 1, 0⟩] := by decide
  have hchk := fun (gb pb fb : Nat) (R' : HP) h1 h2 h3 => sChk (R := R') (gb := gb) (pb := pb) (fb := fb) (W := 2) (H := 2) (f := fillG ⟨((1 : Nat) : Int), ((0 : Nat) : Int), ((1 : Nat) : Int), ((0 : Nat) : Int)⟩ 9 (gv 2 [1, 2, 3, 4])) (u := gv 2 [1, 2, 3, 4]) (t := gv 2 [1, 2, 3, 4]) hfar h1 h2 h3
  simp only [hL] at hchk
  refine fn_of_run0 false Try.func12 rfl hmix rfl fun w0 => ?_
  conv => whnf
  refine ⟨trivial, OpAt.lit [.int .i64 1, .int .i64 2, .int .i64 3, .int .i64 4] 1 rfl rfl rfl rfl rfl (by decide) rfl rfl rfl (by simp [Value.cells]) rfl (by decide) fun g => ?_⟩
  conv => whnf
  refine ⟨trivial, CallAt.fn (pre := []) _ (fun h s => s) (fun R' hR' => sFrom (W := 2) (H := 2) (l := [1, 2, 3, 4]) (Vs.row fun w s => (hR' w s).in_ 0 rfl) (by simp [MayV]) (by decide) (by decide) (by decide) (by decide) rfl) ?_⟩
  rintro r hs ⟨gb, rfl, rfl⟩
  conv => whnf
  refine ⟨trivial, CallAt.fn (pre := []) _ (fun h s => s) (fun R' hR' => sBuild (gridAt_rest 0 rfl hR')) ?_⟩
  rintro r hs ⟨pb, rfl, rfl⟩
  conv => whnf
  refine ⟨trivial, CallAt.fn (pre := []) _ (fun h s => s) (fun R' hR' => sFOf hfar (gridAt_rest 1 rfl hR')) ?_⟩
  rintro r hs ⟨fb, rfl, rfl⟩
  conv => whnf
  refine ⟨trivial, CallAt.fn (pre := [gridH gb 2 2 (gv 2 [1, 2, 3, 4])]) _ (fun h s => sepL_pull 2 s) (fun R' hR' => gSet_i 1 0 rfl rfl (by decide) (by decide) (by simp [MayV])) ?_⟩
  rintro r hs ⟨rfl, rfl⟩
  conv => whnf
  refine ⟨trivial, CallAt.fn (pre := []) _ (fun h s => s) (fun R' hR' => hchk gb pb fb R' (gridAt_rest 0 rfl hR') (fun w s => (hR' w s).in_ 2 rfl) (fun w s => (hR' w s).in_ 1 rfl)) ?_⟩
  rintro r hs ⟨D, k, d, rfl, rfl, rfl⟩
  conv => whnf
  iterate 4
    refine ⟨fun _ => ?_, fun h => absurd h (by decide)⟩
    conv => whnf
  refine ⟨trivial, OpAt.lit [fdV ⟨1, 1, 0⟩, fdV ⟨2, 1, 0⟩] 3 rfl rfl rfl rfl rfl (by decide) rfl rfl rfl (by simp [Value.cells]) rfl (by decide) fun g3 => ?_⟩
  conv => whnf
  refine ⟨trivial, CallAt.pure (fun R' hR' => rSame (l := [⟨1, 1, 0⟩, ⟨2, 1, 0⟩]) (l' := [⟨1, 1, 0⟩, ⟨2, 1, 0⟩]) (by decide) (Sl.row fun w s => (hR' w s).in_ 1 rfl) (Sl.row fun w s => (hR' w s).in_ 0 rfl)) ?_⟩
  conv => whnf
  exact ⟨trivial, .mk [] (fun w s => s.rest) ⟨rfl, rfl⟩⟩
theorem q4_eq (f g : Q4) (w : World) : (Op.equalIn 10000 25 f.v g.v).run Try.prog w = .ok (decide (f = g)) w :=
  (eq_agg 4 (by rfl) (by decide) (r := (f.x0 == g.x0 && (f.y0 == g.y0 && (f.x1 == g.x1 && (f.y1 == g.y1 && true))))) (by kernel_rfl) w).trans (by
    congr 1
    obtain ⟨a, b, c, d⟩ := f
    obtain ⟨e, i, j, k⟩ := g
    rw [Bool.eq_iff_iff]
    simp)
theorem AuditWhere_walk (A : Option Addr) (n c : Nat) (l : List Fd) (kind : Int) (w : World) (ha : Reads w w.heap.size 3 A n (fcel l)) (hn : n ≤ maxLen) (_ : -9223372036854775808 ≤ kind) (_ : kind ≤ 9223372036854775807) :
    Calls Try.prog 3 #[.slice A n c, .int .i64 kind] w fun e w' => e = .returned (.bool true) ∧ Below w.heap.size w w' := by
  refine PureR.below (args := [.slice A n c, .int .i64 kind]) ?_
  have hv := sl_of_reads (by omega) ha
  refine fn_of_run0 false Try.func3 rfl hmix rfl fun w0 => ?_
  conv => whnf
  refine ⟨trivial, CallAt.pure (fun R' hR' => sAwake38 R') ?_⟩
  conv => whnf
  refine iff_f (by decide) ?_
  conv => whnf
  refine ⟨fun h => ?_, fun h => ?_⟩
  · conv => whnf
    exact ⟨trivial, fin_pure rfl rfl⟩
  · have h : n ≤ 100 := by simp at h; omega
    generalize hb : decide (wfold kind l).ok = b
    conv => whnf
    refine ⟨trivial, CallAt.pure (v := .tuple #[(whereR kind l).v, .bool b]) (fun R' hR' => by rw [← hb]; exact sWhere (by omega) (hv.mono hR')) ?_⟩
    conv => whnf
    refine ⟨trivial, CallAt.pure (v := .tuple #[(whereR kind l).v, .bool b]) (fun R' hR' => by rw [← hb]; exact rWhere (by omega) (hv.mono hR')) ?_⟩
    generalize whereR kind l = q
    conv => whnf
    refine ⟨trivial, OpAt.aggEq rfl rfl rfl rfl (by kernel_rfl) (q4_eq q q) ?_⟩
    cases b
    · conv => whnf
      refine iff_t (decide_eq_true rfl) ?_
      conv => whnf
      exact ⟨trivial, fin_pure rfl rfl⟩
    · conv => whnf
      refine iff_t (decide_eq_true rfl) ?_
      conv => whnf
      exact ⟨trivial, fin_pure rfl rfl⟩
end Go.Proofs.Ytlplbgbnojibmaa

