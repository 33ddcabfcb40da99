/-
  The statement SnapStamps: for every input the call returns true. The texts: SnapI, SnapOpen, SnapJ, OpenBl, SnapStampsRow.
-/
import Derived.Test.YtjnglcjofajcnaaGreatPartT
import Derived.Test.YtjnglcjofajcnaaGreatPartM
import Derived.Test.YtjnglcjofajcnaaGreatPartJ
import Derived.Deep.Grids
import Derived.ProofKit
import Derived.OpenShut
import Derived.Lib.SmallJoins
/-
  Which one tells: the walk of SnapChooses.
-/
namespace Go.Proofs.YtjnglcjofajcnaaGreat
open Go.RowKit
open Sy
set_option linter.unusedVariables false
set_option linter.unusedSimpArgs false
set_option maxRecDepth 100000
set_option maxHeartbeats 4000000

theorem gdN {b : Bool} {A B : Prop} (h : b = false) (a : B) : (b = true → A) ∧ (b = (!true) → B) := ⟨(fun h' => by rw [h] at h'; cases h'), fun _ => a⟩
end Go.Proofs.YtjnglcjofajcnaaGreat

/-
  Acts among the arguments.
-/
namespace Go.Proofs.YtjnglcjofajcnaaGreat
open Go.ChangeShapes Go.WideShapes Go.ChangeAt Go.RowKit Go.Joins Sy
set_option linter.unusedVariables false
set_option linter.unusedSimpArgs false
set_option maxRecDepth 100000
set_option maxHeartbeats 4000000

structure Act where
  r : Q4
  v : Int
def Act.ok (a : Act) : Prop := True
def actL (a : Act) : List Value := [.int .i64 a.r.x0, .int .i64 a.r.y0, .int .i64 a.r.x1, .int .i64 a.r.y1, .int .i64 a.v]
def acel (l : List Act) : List Value := l.flatMap actL
theorem acel_len (l : List Act) : (acel l).length = l.length * 5 := by
  induction l with
  | nil => rfl
  | cons a l ih =>
    have e : acel (a :: l) = actL a ++ acel l := rfl
    rw [e, List.length_append, ih]
    simp [actL]; omega
theorem acel_at : ∀ {l : List Act} {i j : Nat} (h : i < l.length), j < 5 → (acel l)[i * 5 + j]? = (actL l[i])[j]?
  | a :: l, 0, j, _, hj => by
    have e : acel (a :: l) = actL a ++ acel l := rfl
    rw [e, List.getElem?_append_left (by simp [actL]; omega)]
    simp
  | a :: l, i + 1, j, h, hj => by
    have e : acel (a :: l) = actL a ++ acel l := rfl
    rw [e, List.getElem?_append_right (by simp [actL]; omega)]
    have : (i + 1) * 5 + j - (actL a).length = i * 5 + j := by simp [actL]; omega
    rw [this, acel_at (by simpa using h) hj]
    simp
theorem act_leaf : ∀ j, j < 5 → leafK Tryz.prog 6 55 j = some .i64 := fun j hj => by rcases (show j = 0 ∨ j = 1 ∨ j = 2 ∨ j = 3 ∨ j = 4 by omega) with rfl | rfl | rfl | rfl | rfl <;> kernel_rfl
theorem open_acts {H : Type} {enc : TypeId × Value → H} {w : World} {base : Nat} {spare : Nat → Bool} {held : Bool} {a : Option Addr} {n c : Nat} {d : DataW H} {ps : List MemPlace} (h : DataW.Trod enc Tryz.prog w base spare held 23 (.slice a n c) d ps) :
    ∃ l, Reads w w.heap.size 5 a n (acel l) ∧ n ≤ maxLen := by
  obtain ⟨fuel, h⟩ := h
  rcases open_flat 5 (fun _ => .i64) Tryz.underlying23 (by kernel_rfl) act_leaf h with hcs | ⟨x, l, c, zs, hcs, hl, hm, hz⟩
  · simp [Value.cells] at hcs
    obtain ⟨rfl, rfl, rfl⟩ := hcs
    exact ⟨[], Reads.empty, by simp [maxLen]⟩
  · simp [Value.cells] at hcs
    obtain ⟨rfl, rfl, rfl⟩ := hcs
    refine ⟨(List.range n).map fun i => ⟨⟨zs i 0, zs i 1, zs i 2, zs i 3⟩, zs i 4⟩, reads_flat (by decide) hz (by rw [acel_len]; simp) (fun i j hi hj => ?_), Nat.le_trans hl hm⟩
    rw [acel_at (by simpa using hi) hj]
    simp only [List.getElem_map, List.getElem_range]
    rcases (show j = 0 ∨ j = 1 ∨ j = 2 ∨ j = 3 ∨ j = 4 by omega) with rfl | rfl | rfl | rfl | rfl <;> rfl
end Go.Proofs.YtjnglcjofajcnaaGreat

/-
  A snapshot that may be there, and be of now: what is told is what the grid has.
-/
namespace Go.Proofs.YtjnglcjofajcnaaGreat
open Go.RowKit
open Sy
set_option linter.unusedVariables false
set_option linter.unusedSimpArgs false
set_option maxRecDepth 100000
set_option maxHeartbeats 4000000

def snV (o : Option (Nat × Int × List Int)) : Value := .pointer (o.map fun x => ⟨x.1, 0, none⟩)
noncomputable def snH (W H : Nat) (o : Option (Nat × Int × List Int)) : HP := match o with
  | none => emp
  | some x => snapQ x.1 x.2.1 W H (gv W x.2.2)
def snB (o : Option (Nat × Int × List Int)) (v : Int) : Bool := match o with
  | none => false
  | some x => decide (x.2.1 = v)
theorem tells_same {st v : Int} {W H : Nat} : tellsB st v W W H H = decide (st = v) := by
  unfold tellsB
  rw [decide_eq_true rfl, decide_eq_true rfl]
  simp
theorem sLvSumN {R : HP} {lb gb W H : Nat} (o : Option (Nat × Int × List Int)) (v : Int) {l : List Int} (r : Q4) (hf : Far W H (gv W l)) (hW : W ≤ 1024) (hH : H ≤ 1024) (ho : ∀ x, o = some x → Far W H (gv W x.2.2) ∧ (x.2.1 = v → x.2.2 = l)) (hl : ∀ w, Sat R w → Sat (liveH lb gb W H (gv W l)) w) (hg : ∀ w, Sat R w → GridAt w gb W H (gv W l)) (hs : ∀ w, Sat R w → Sat (snH W H o) w) :
    PureR Tryz.prog R 9 [.pointer (some ⟨lb, 0, none⟩), snV o, .int .i64 v, r.v] (.tuple #[.int .i64 (sumZ W H (gv W l) r).1, .bool (snB o v && decide ((sumZ W H (gv W l) r).2 = 0)), .int .i64 (sumZ W H (gv W l) r).2]) := by
  cases o with
  | none => exact sLvSum hf hW hH hl fun R2 k => sOldNo fun R3 k3 => sFreshNil v R3
  | some x =>
    obtain ⟨sb, st, l0⟩ := x
    obtain ⟨h1, h2⟩ := ho _ rfl
    have h := sLvSumQ v r hf hW hH h1 hW hH hl hg hs
    have e : toldS (tellsB st v W W H H) W H (gv W l) W H (gv W l0) r = sumZ W H (gv W l) r := by
      rw [tells_same]
      unfold toldS
      by_cases c : st = v
      · rw [if_pos (decide_eq_true c), show l0 = l from h2 c]
      · rw [if_neg (by rw [decide_eq_false c]; simp)]
    rw [e, tells_same] at h
    exact h
theorem sLvRangeN {R : HP} {lb gb W H : Nat} (o : Option (Nat × Int × List Int)) (v : Int) {l : List Int} (r : Q4) (hf : ∀ a b, a < W → b < H → MayV (gv W l a b)) (hW : 1 ≤ W ∧ W ≤ 1024) (hH : 1 ≤ H ∧ H ≤ 1024) (ho : ∀ x, o = some x → Far W H (gv W x.2.2) ∧ (x.2.1 = v → x.2.2 = l)) (hl : ∀ w, Sat R w → Sat (liveH lb gb W H (gv W l)) w) (hg : ∀ w, Sat R w → GridAt w gb W H (gv W l)) (hs : ∀ w, Sat R w → Sat (snH W H o) w) :
    PureR Tryz.prog R 11 [.pointer (some ⟨lb, 0, none⟩), snV o, .int .i64 v, r.v] (.tuple #[rngV (rngZ W H (gv W l) r).1.1 (rngZ W H (gv W l) r).1.2, .bool (snB o v && decide ((rngZ W H (gv W l) r).2 = 0)), .int .i64 (rngZ W H (gv W l) r).2]) := by
  cases o with
  | none => exact sLvRange hW hH hf hl fun R2 k => sOldNo fun R3 k3 => sFreshNil v R3
  | some x =>
    obtain ⟨sb, st, l0⟩ := x
    obtain ⟨h1, h2⟩ := ho _ rfl
    have h := sLvRangeQ v r hW hH hf hW.2 hH.2 hl hg hs
    have e : toldR (tellsB st v W W H H) W H (gv W l) W H (gv W l0) r = rngZ W H (gv W l) r := by
      rw [tells_same]
      unfold toldR
      by_cases c : st = v
      · rw [if_pos (decide_eq_true c), show l0 = l from h2 c]
      · rw [if_neg (by rw [decide_eq_false c]; simp)]
    rw [e, tells_same] at h
    exact h
theorem snH_emp {R : HP} {L : List HP} {W H : Nat} {h : Hl} (s : sepL L R h) : sepL (snH W H none :: L) R h := ⟨fun _ => none, h, fun i => .inl rfl, by funext i; simp [un], fun i => rfl, s⟩

structure StS where
  i : Nat
  A : Option Addr
  c : Nat
  l : List Int
  v : Int
  o : Option (Nat × Int × List Int)
theorem SnapStamps_walk (W H : Int) (A : Option Addr) (n c : Nat) (l : List Int) (A2 : Option Addr) (n2 c2 : Nat) (la : List Act) (A3 : Option Addr) (n3 c3 : Nat) (tk : List Bool) (x0 y0 x1 y1 : Int) (w : World) (_ : -9223372036854775808 ≤ W) (_ : W ≤ 9223372036854775807) (_ : -9223372036854775808 ≤ H) (_ : H ≤ 9223372036854775807) (ha : Reads w w.heap.size 1 A n (ints l)) (hn : n ≤ maxLen)
    (ha2 : Reads w w.heap.size 5 A2 n2 (acel la)) (hn2 : n2 ≤ maxLen) (ha3 : Reads w w.heap.size 1 A3 n3 (tk.map Value.bool)) (hn3 : n3 ≤ maxLen) (_ : -9223372036854775808 ≤ x0) (_ : x0 ≤ 9223372036854775807) (_ : -9223372036854775808 ≤ y0) (_ : y0 ≤ 9223372036854775807) (_ : -9223372036854775808 ≤ x1) (_ : x1 ≤ 9223372036854775807) (_ : -9223372036854775808 ≤ y1) (_ : y1 ≤ 9223372036854775807) :
    Calls Tryz.prog 3 #[.int .i64 W, .int .i64 H, .slice A n c, .slice A2 n2 c2, .slice A3 n3 c3, .agg #[.int .i64 x0, .int .i64 y0, .int .i64 x1, .int .i64 y1]] w fun e w' => e = .returned (.bool true) ∧ Below w.heap.size w w' := by
  refine PureR.below (args := [.int .i64 W, .int .i64 H, .slice A n c, .slice A2 n2 c2, .slice A3 n3 c3, Q4.v ⟨x0, y0, x1, y1⟩]) ?_
  refine PureR.of_sat fun wS hsat => ?_
  generalize (⟨x0, y0, x1, y1⟩ : Q4) = rr
  have hv := vs_of_reads ha
  have hs2 := sl_of_reads (by decide) ha2
  have hs3 := sl_of_reads (by decide) ha3
  have hl : l.length = n := by have := ha.1; simpa [ints] using this
  have hla : la.length = n2 := by have := ha2.1; rw [acel_len] at this; omega
  have htk : tk.length = n3 := by have := ha3.1; simpa using this
  obtain ⟨-, sp⟩ := hs2.spot (by decide) hsat
  obtain ⟨-, sp3⟩ := hs3.spot (by decide) hsat
  clear hsat wS
  by_cases hok : LandOk W H 1000 n l
  · obtain ⟨W, H, rfl, rfl, w1, w2, h1, h2, hWH, hn0, hn1⟩ := land_nat hok (by decide)
    have hm := hok.2.2.2.2.2.2
    have hf0 := far_of_may (gv_may hWH hl hm)
    by_cases h30 : 30 < n2
    · refine fn_of_run0 false Tryz.func3 rfl hmix rfl fun w0 => ?_
      refine run_cut fun B hB => ?_
      conv => whnf
      (rw [hB]; clear hB B; refine run_cut fun B hB => ?_; conv => whnf)
      refine ⟨trivial, CallAt.pure (fun R' hR' => sAwake22 R') ?_⟩
      conv => whnf
      refine iff_f rfl ?_
      conv => whnf
      (rw [hB]; clear hB B; refine run_cut fun B hB => ?_; conv => whnf)
      refine ⟨trivial, CallAt.pure (fun R' hR' => sLandYes (hv.mono fun w s => hR' w s) (by decide) hn hok) ?_⟩
      conv => whnf
      (rw [hB]; clear hB B; refine run_cut fun B hB => ?_; conv => whnf)
      refine ⟨fun _ => ?_, fun h => absurd h (by decide)⟩
      conv => whnf
      refine iff_t (by simp; omega) ?_
      conv => whnf
      exact ⟨trivial, fin_pure rfl rfl⟩
    · refine fn_of_run0 false Tryz.func3 rfl hmix rfl fun w0 => ?_
      refine run_cut fun B hB => ?_
      conv => whnf
      (rw [hB]; clear hB B; refine run_cut fun B hB => ?_; conv => whnf)
      refine ⟨trivial, CallAt.pure (fun R' hR' => sAwake22 R') ?_⟩
      conv => whnf
      refine iff_f rfl ?_
      conv => whnf
      (rw [hB]; clear hB B; refine run_cut fun B hB => ?_; conv => whnf)
      refine ⟨trivial, CallAt.pure (fun R' hR' => sLandYes (hv.mono fun w s => hR' w s) (by decide) hn hok) ?_⟩
      conv => whnf
      (rw [hB]; clear hB B; refine run_cut fun B hB => ?_; conv => whnf)
      refine ⟨fun _ => ?_, fun h => absurd h (by decide)⟩
      conv => whnf
      refine iff_f (by simp; omega) ?_
      conv => whnf
      (rw [hB]; clear hB B; refine run_cut fun B hB => ?_; conv => whnf)
      refine ⟨trivial, CallAt.fn (pre := []) _ (fun h s => s) (fun R' hR' => sMadeV (hv.mono fun w s => hR' w s) w1 w2 h1 h2 hWH hm) ?_⟩
      rintro r hs ⟨gb, rfl, rfl⟩
      conv => whnf
      (rw [hB]; clear hB B; refine run_cut fun B hB => ?_; conv => whnf)
      refine ⟨trivial, CallAt.fn (pre := []) _ (fun h s => s) (fun R' hR' => sFollow hf0 (gridAt_rest 0 rfl hR')) ?_⟩
      rintro r hs ⟨lb, rfl, rfl⟩
      conv => whnf
      (rw [hB]; clear hB B; refine run_cut fun B hB => ?_; conv => whnf)
      repeat (first | (refine ⟨fun _ => ?_, fun h => absurd h (by decide)⟩; conv => whnf) | (refine ⟨fun h => absurd h (by decide), fun _ => ?_⟩; conv => whnf))
      (rw [hB]; clear hB B; refine run_cut fun B hB => ?_; conv => whnf)
      (rw [hB]; clear hB B; refine run_cut fun B hB => ?_; conv => whnf)
      (rw [hB]; clear hB B; refine run_cut fun B hB => ?_; conv => whnf)
      refine ⟨trivial, LoopAt.of (α := StS) [3, 4, 11, 13, 15, 16] (fun a => [(18, .v (.int .i64 a.v)), (19, .v (snV a.o)), (20, .v (.int .i64 (a.i : Int)))]) (fun a => [(1, 29, [.v (.int .i64 W), .v (.int .i64 H), .v (.slice a.A n a.c)]), (0, 26, [.v (.int .i64 rr.x0), .v (.int .i64 rr.y0), .v (.int .i64 rr.x1), .v (.int .i64 rr.y1)])])
        (fun a => [mqH (Vs (was w) a.A n a.l) a.A n a.c a.l, liveH lb gb W H (gv W a.l), gridH gb W H (gv W a.l), snH W H a.o]) (fun a => a.i ≤ n2 ∧ a.l.length = n ∧ (∀ u ∈ a.l, MayV u) ∧ 1 ≤ a.v ∧ a.v ≤ (a.i : Int) + 1 ∧ ∀ x, a.o = some x → x.2.2.length = n ∧ (∀ u ∈ x.2.2, MayV u) ∧ x.2.1 ≤ a.v ∧ (x.2.1 = a.v → x.2.2 = a.l)) (fun a => n2 - a.i) ⟨0, A, c, l, 1, none⟩ ⟨Nat.zero_le _, hl, hm, by simp, by simp, fun x hx => by cases hx⟩
        (Le.of (Nat.le_of_ble_eq_true rfl) (Nat.zero_le _) ⟨⟨rfl, rfl⟩, ⟨rfl, rfl⟩, ⟨rfl, rfl⟩, ⟨rfl, rfl⟩, ⟨rfl, rfl⟩, ⟨rfl, rfl⟩, ⟨rfl, rfl⟩, ⟨rfl, rfl⟩, ⟨rfl, rfl⟩, trivial⟩ ⟨⟨rfl, rfl, rfl, rfl⟩, ⟨rfl, rfl, rfl, rfl⟩, trivial⟩ fun h s => sub_same (mq_nil hv (sepL_perm (List.perm_middle (l₁ := [_, _]) (l₂ := [])).symm (snH_emp s)))) ?_⟩
      rintro ⟨i, A, c, l, v, o⟩ ⟨hi, hl, hm, hv1, hv2, ho⟩
      simp only at hi hl hm hv1 hv2 ho
      conv => whnf
      refine ⟨fun h5 => ?_, fun h5 => ?_⟩
      · have g5 : i < n2 := by simpa using h5
        rcases sp with h0 | ⟨b2, off2, rfl, sa⟩
        · omega
        have hcell : ∀ j u, j < 5 → (actL (la[i]'(by omega)))[j]? = some u → ∀ w', Sat (was w) w' → w'.cell? ⟨b2, off2 + (i * 5 + j), none⟩ = some u := fun j u hj hu w' s => sa w' s _ u (by rw [acel_at (by omega) hj]; exact hu)
        generalize la[i]'(by omega) = ac at *
        obtain ⟨r, va⟩ := ac
        have hR4 : ∀ (w' : World), Sat (was w) w' → ∀ j u, [Value.int .i64 r.x0, .int .i64 r.y0, .int .i64 r.x1, .int .i64 r.y1][j]? = some u → ∀ o, o = off2 + (i * 5 + j) → w'.cell? ⟨b2, o, none⟩ = some u := fun w' s j u hj o ho => by
          subst ho
          have h4 : j < 4 := (List.getElem?_eq_some_iff.1 hj).1
          refine hcell j u (by omega) ?_ w' s
          rcases (show j = 0 ∨ j = 1 ∨ j = 2 ∨ j = 3 by omega) with rfl | rfl | rfl | rfl <;> exact hj
        have hVv : ∀ (w' : World), Sat (was w) w' → ∀ o, o = off2 + (i * 5 + 4) → w'.cell? ⟨b2, o, none⟩ = some (.int .i64 va) := fun w' s o ho => by
          subst ho
          exact hcell 4 _ (by omega) rfl w' s
        have hfl := far_of_may (gv_may hWH hl hm)
        have hmv := gv_may hWH hl hm
        have hos : ∀ x, o = some x → Far W H (gv W x.2.2) ∧ (x.2.1 = v → x.2.2 = l) := fun x hx => ⟨far_of_may (gv_may hWH (ho x hx).1 (ho x hx).2.1), (ho x hx).2.2.2⟩
        conv => whnf
        refine ⟨fun h6 => ?_, fun h6 => ?_⟩
        · have g6 : i < n3 := by simpa using h6
          rcases sp3 with h0 | ⟨b3, off3, rfl, sb3⟩
          · omega
          have htc : ∀ w', Sat (was w) w' → ∀ o, o = off3 + i → w'.cell? ⟨b3, o, none⟩ = some (.bool (tk[i]'(by omega))) := fun w' s o ho => by
            subst ho
            exact sb3 w' s i _ (by rw [List.getElem?_map, List.getElem?_eq_getElem (by omega)]; rfl)
          generalize tk[i]'(by omega) = bt at *
          conv => whnf
          refine ⟨⟨trivial, by simp only; omega⟩, LoadAt.cell (.bool bt) rfl rfl (fun w' hw => htc w' hw.rest _ (by simp only [Int.toNat_natCast])) ?_⟩
          cases bt
          · conv => whnf
            refine iff_f rfl ?_
            conv => whnf
            refine ⟨trivial, CallAt.pure (fun R' hR' => sLvSumN o v rr hfl (by omega) (by omega) hos (fun w s => (hR' w s).in_ 1 rfl) (gridAt_rest 2 rfl hR') (fun w s => (hR' w s).in_ 3 rfl)) ?_⟩
            conv => whnf
            refine ⟨trivial, CallAt.pure (fun R' hR' => sR19Sum (mq_vs (R := was w) (fun w s => (hR' w s).in_ 0 rfl) (fun w s => (hR' w s).rest)) hWH (by omega) (by omega) hfl rr) ?_⟩
            conv => whnf
            refine ⟨trivial, CallAt.pure (fun R' hR' => sLvRangeN o v rr hmv (by omega) (by omega) hos (fun w s => (hR' w s).in_ 1 rfl) (gridAt_rest 2 rfl hR') (fun w s => (hR' w s).in_ 3 rfl)) ?_⟩
            conv => whnf
            refine ⟨trivial, CallAt.pure (fun R' hR' => sR21Range (mq_vs (R := was w) (fun w s => (hR' w s).in_ 0 rfl) (fun w s => (hR' w s).rest)) hWH (by omega) (by omega) rr) ?_⟩
            conv => whnf
            generalize sumZ W H (gv W l) rr = qs at *
            generalize rngZ W H (gv W l) rr = qr at *
            repeat (refine ⟨fun _ => ?_, fun h => absurd h (by simp)⟩; conv => whnf)
            refine ⟨trivial, OpAt.aggNe rfl rfl rfl rfl (by kernel_rfl) (fun w => rng_eq _ _ _ _ w) ?_⟩
            conv => whnf
            refine ⟨fun _ => ?_, fun h => absurd h (by simp)⟩
            conv => whnf
            refine iff_f (by simp) ?_
            conv => whnf
            refine ⟨trivial, RegAt.trees0 [((Tr.T 0 (Tr.T 1 (Tr.T 2 (Tr.T 3 (Tr.T 4 (Tr.T 5 (Tr.T 6 (Tr.T 7 (Tr.T 8 (Tr.T 9 (Tr.T 10 (Tr.C 11 (Tr.T 12 (Tr.T 13 (Tr.T 14 (Tr.H 15 (Tr.H 16 Tr.E))))) 15 (Tr.H 11 (Tr.T 12 (Tr.T 13 (Tr.T 14 (Tr.H 16 Tr.E))))))))))))))))), 17), ((Tr.T 17 Tr.E), 18)] hmix (by kernel_rfl) ?_⟩
            conv => whnf
            refine ⟨⟨trivial, by simp only; omega⟩, LoadAt.agg [.int .i64 r.x0, .int .i64 r.y0, .int .i64 r.x1, .int .i64 r.y1] rfl rfl rfl (fun w' hw j u hj => hR4 w' hw.rest j u hj _ (by simp only [Int.toNat_natCast]; omega)) ?_⟩
            conv => whnf
            refine ⟨⟨trivial, by simp only; omega⟩, LoadAt.cell (.int .i64 va) rfl rfl (fun w' hw => hVv w' hw.rest _ (by simp only [Int.toNat_natCast]; omega)) ?_⟩
            conv => whnf
            refine ⟨?_, ?_⟩
            · conv => whnf
              refine ⟨trivial, CallAt.fn (pre := [mqH (Vs (was w) A n l) A n c l]) _ (fun h s => sepL_pull 0 s) (fun R' hR' => sMFillAny (R0 := was w) r va (fun w s => (hR' w s).rest) hWH (by omega) (by omega)) ?_⟩
              rintro x hs ⟨A', c', rfl, rfl⟩
              conv => whnf
              refine ⟨trivial, ⟨⟨rfl, rfl⟩, fun h s => sub_nil s⟩, ?_⟩
              conv => whnf
              refine ⟨trivial, ⟨⟨rfl, rfl⟩, fun h s => sub_nil s⟩, ?_⟩
              conv => whnf
              refine ⟨trivial, ⟨⟨rfl, rfl⟩, fun h s => sub_nil s⟩, ?_⟩
              conv => whnf
              refine ⟨trivial, ?_⟩
              conv => whnf
              refine ⟨trivial, RegAt.groups0 [([.T 0, .T 1, .T 2, .T 3, .T 4, .T 5, .T 6, .T 7, .T 8, .T 9, .T 10, .T 12, .H 11], 13), ([.T 13], 14)] hmix (by kernel_rfl) ?_⟩
              conv => whnf
              refine ⟨⟨trivial, by simp only; omega⟩, LoadAt.agg [.int .i64 r.x0, .int .i64 r.y0, .int .i64 r.x1, .int .i64 r.y1] rfl rfl rfl (fun w' hw j u hj => hR4 w' hw.rest j u hj _ (by simp only [Int.toNat_natCast]; omega)) ?_⟩
              conv => whnf
              refine ⟨⟨trivial, by simp only; omega⟩, LoadAt.cell (.int .i64 va) rfl rfl (fun w' hw => hVv w' hw.rest _ (by simp only [Int.toNat_natCast]; omega)) ?_⟩
              conv => whnf
              refine ⟨trivial, CallAt.fn (pre := [gridH gb W H (gv W l)]) _ (fun h s => sepL_pull 2 s) (fun R' hR' => gFillAny r va hWH) ?_⟩
              rintro x hs ⟨rfl, rfl⟩
              conv => whnf
              refine ⟨trivial, ⟨⟨rfl, rfl⟩, fun h s => sub_nil s⟩, ?_⟩
              conv => whnf
              refine ⟨trivial, ?_⟩
              conv => whnf
              refine iff_f (by simp) ?_
              conv => whnf
              refine ⟨fun hc => ?_, fun hc => ?_⟩
              · conv => whnf
                refine ⟨⟨trivial, by simp only; omega⟩, LoadAt.agg [.int .i64 r.x0, .int .i64 r.y0, .int .i64 r.x1, .int .i64 r.y1] rfl rfl rfl (fun w' hw j u hj => hR4 w' hw.rest j u hj _ (by simp only [Int.toNat_natCast]; omega)) ?_⟩
                conv => whnf
                refine ⟨trivial, CallAt.fn (pre := [liveH lb gb W H (gv W l)]) _ (fun h s => sepL_pull 2 s) (fun R' hR' => sChangedAny r va hWH hl hm (gridAt_rest 0 rfl hR')) ?_⟩
                rintro x hs ⟨rfl, rfl⟩
                conv => whnf
                refine ⟨by refine ⟨⟨trivial, ?_⟩, ?_⟩ <;> (unfold rng; simp only; omega), .mk ⟨i + 1, A', c', nextL W H n r va l, v + 1, o⟩ ⟨by simp only; omega, nextL_len hl, nextL_may hl hm, by simp only; omega, by simp only; omega, fun x hx => ⟨(ho x hx).1, (ho x hx).2.1, by have := (ho x hx).2.2.1; simp only; omega, fun e => absurd e (by have := (ho x hx).2.2.1; simp only; omega)⟩⟩ (by simp only; omega) (Le.of (Nat.le_of_ble_eq_true rfl) (Nat.zero_le _) ⟨⟨rfl, rfl⟩, ⟨rfl, rfl⟩, ⟨rfl, rfl⟩, ⟨rfl, rfl⟩, ⟨rfl, rfl⟩, ⟨rfl, rfl⟩, ⟨rfl, rfl⟩, ⟨rfl, rfl⟩, ⟨rfl, rfl⟩, trivial⟩ ⟨⟨rfl, rfl, rfl, rfl⟩, ⟨rfl, rfl, rfl, rfl⟩, trivial⟩ fun h s => sub_same (sepL_pull 2 s))⟩
              · have hc : ¬ codeF W H r va = 0 := by simpa using hc
                have e2 : nextL W H n r va l = l := by unfold nextL; rw [if_neg hc]
                rw [e2]
                conv => whnf
                refine ⟨⟨trivial, by unfold rng; simp only; omega⟩, .mk ⟨i + 1, A', c', l, v, o⟩ ⟨by simp only; omega, hl, hm, hv1, by simp only; omega, ho⟩ (by simp only; omega) (Le.of (Nat.le_of_ble_eq_true rfl) (Nat.zero_le _) ⟨⟨rfl, rfl⟩, ⟨rfl, rfl⟩, ⟨rfl, rfl⟩, ⟨rfl, rfl⟩, ⟨rfl, rfl⟩, ⟨rfl, rfl⟩, ⟨rfl, rfl⟩, ⟨rfl, rfl⟩, ⟨rfl, rfl⟩, trivial⟩ ⟨⟨rfl, rfl, rfl, rfl⟩, ⟨rfl, rfl, rfl, rfl⟩, trivial⟩ fun h s => sub_same (sepL_pull 2 (sepL_pull 2 s)))⟩
            · conv => whnf
              refine ⟨trivial, ⟨⟨rfl, rfl⟩, fun h s => sub_nil s⟩, ?_⟩
              conv => whnf
              refine ⟨trivial, CallAt.fn (pre := [mqH (Vs (was w) A n l) A n c l]) _ (fun h s => sepL_pull 0 s) (fun R' hR' => sMFillAny (R0 := was w) r va (fun w s => (hR' w s).rest) hWH (by omega) (by omega)) ?_⟩
              rintro x hs ⟨A', c', rfl, rfl⟩
              conv => whnf
              refine ⟨trivial, ⟨⟨rfl, rfl⟩, fun h s => sub_nil s⟩, ?_⟩
              conv => whnf
              refine ⟨trivial, ⟨⟨rfl, rfl⟩, fun h s => sub_nil s⟩, ?_⟩
              conv => whnf
              refine ⟨trivial, ?_⟩
              conv => whnf
              refine ⟨trivial, RegAt.groups0 [([.T 0, .T 1, .T 2, .T 3, .T 4, .T 5, .T 6, .T 7, .T 8, .T 9, .T 10, .T 12, .H 11], 13), ([.T 13], 14)] hmix (by kernel_rfl) ?_⟩
              conv => whnf
              refine ⟨⟨trivial, by simp only; omega⟩, LoadAt.agg [.int .i64 r.x0, .int .i64 r.y0, .int .i64 r.x1, .int .i64 r.y1] rfl rfl rfl (fun w' hw j u hj => hR4 w' hw.rest j u hj _ (by simp only [Int.toNat_natCast]; omega)) ?_⟩
              conv => whnf
              refine ⟨⟨trivial, by simp only; omega⟩, LoadAt.cell (.int .i64 va) rfl rfl (fun w' hw => hVv w' hw.rest _ (by simp only [Int.toNat_natCast]; omega)) ?_⟩
              conv => whnf
              refine ⟨trivial, CallAt.fn (pre := [gridH gb W H (gv W l)]) _ (fun h s => sepL_pull 2 s) (fun R' hR' => gFillAny r va hWH) ?_⟩
              rintro x hs ⟨rfl, rfl⟩
              conv => whnf
              refine ⟨trivial, ⟨⟨rfl, rfl⟩, fun h s => sub_nil s⟩, ?_⟩
              conv => whnf
              refine ⟨trivial, ?_⟩
              conv => whnf
              refine iff_f (by simp) ?_
              conv => whnf
              refine ⟨fun hc => ?_, fun hc => ?_⟩
              · conv => whnf
                refine ⟨⟨trivial, by simp only; omega⟩, LoadAt.agg [.int .i64 r.x0, .int .i64 r.y0, .int .i64 r.x1, .int .i64 r.y1] rfl rfl rfl (fun w' hw j u hj => hR4 w' hw.rest j u hj _ (by simp only [Int.toNat_natCast]; omega)) ?_⟩
                conv => whnf
                refine ⟨trivial, CallAt.fn (pre := [liveH lb gb W H (gv W l)]) _ (fun h s => sepL_pull 2 s) (fun R' hR' => sChangedAny r va hWH hl hm (gridAt_rest 0 rfl hR')) ?_⟩
                rintro x hs ⟨rfl, rfl⟩
                conv => whnf
                refine ⟨by refine ⟨⟨trivial, ?_⟩, ?_⟩ <;> (unfold rng; simp only; omega), .mk ⟨i + 1, A', c', nextL W H n r va l, v + 1, o⟩ ⟨by simp only; omega, nextL_len hl, nextL_may hl hm, by simp only; omega, by simp only; omega, fun x hx => ⟨(ho x hx).1, (ho x hx).2.1, by have := (ho x hx).2.2.1; simp only; omega, fun e => absurd e (by have := (ho x hx).2.2.1; simp only; omega)⟩⟩ (by simp only; omega) (Le.of (Nat.le_of_ble_eq_true rfl) (Nat.zero_le _) ⟨⟨rfl, rfl⟩, ⟨rfl, rfl⟩, ⟨rfl, rfl⟩, ⟨rfl, rfl⟩, ⟨rfl, rfl⟩, ⟨rfl, rfl⟩, ⟨rfl, rfl⟩, ⟨rfl, rfl⟩, ⟨rfl, rfl⟩, trivial⟩ ⟨⟨rfl, rfl, rfl, rfl⟩, ⟨rfl, rfl, rfl, rfl⟩, trivial⟩ fun h s => sub_same (sepL_pull 2 s))⟩
              · have hc : ¬ codeF W H r va = 0 := by simpa using hc
                have e2 : nextL W H n r va l = l := by unfold nextL; rw [if_neg hc]
                rw [e2]
                conv => whnf
                refine ⟨⟨trivial, by unfold rng; simp only; omega⟩, .mk ⟨i + 1, A', c', l, v, o⟩ ⟨by simp only; omega, hl, hm, hv1, by simp only; omega, ho⟩ (by simp only; omega) (Le.of (Nat.le_of_ble_eq_true rfl) (Nat.zero_le _) ⟨⟨rfl, rfl⟩, ⟨rfl, rfl⟩, ⟨rfl, rfl⟩, ⟨rfl, rfl⟩, ⟨rfl, rfl⟩, ⟨rfl, rfl⟩, ⟨rfl, rfl⟩, ⟨rfl, rfl⟩, ⟨rfl, rfl⟩, trivial⟩ ⟨⟨rfl, rfl, rfl, rfl⟩, ⟨rfl, rfl, rfl, rfl⟩, trivial⟩ fun h s => sub_same (sepL_pull 2 (sepL_pull 2 s)))⟩
          · conv => whnf
            refine iff_t rfl ?_
            conv => whnf
            refine ⟨trivial, CallAt.fn (pre := []) _ (fun h s => s) (fun R' hR' => sTakeQ v hfl (gridAt_rest 2 rfl hR')) ?_⟩
            rintro r' hs ⟨sb, rfl, rfl⟩
            have hos2 : ∀ x, some (sb, v, l) = some x → Far W H (gv W x.2.2) ∧ (x.2.1 = v → x.2.2 = l) := fun x hx => by
              injection hx with hx
              subst hx
              exact ⟨hfl, fun _ => rfl⟩
            have ho2 : ∀ x, some (sb, v, l) = some x → x.2.2.length = n ∧ (∀ u ∈ x.2.2, MayV u) ∧ x.2.1 ≤ v ∧ (x.2.1 = v → x.2.2 = l) := fun x hx => by
              injection hx with hx
              subst hx
              exact ⟨hl, hm, Int.le_refl _, fun _ => rfl⟩
            conv => whnf
            repeat (first | (refine ⟨fun _ => ?_, fun h => absurd h (by decide)⟩; conv => whnf) | (refine ⟨fun h => absurd h (by decide), fun _ => ?_⟩; conv => whnf))
            refine ⟨trivial, CallAt.pure (fun R' hR' => sLvSumN (some (sb, v, l)) v rr hfl (by omega) (by omega) hos2 (fun w s => (hR' w s).in_ 2 rfl) (gridAt_rest 3 rfl hR') (fun w s => (hR' w s).in_ 0 rfl)) ?_⟩
            conv => whnf
            refine ⟨trivial, CallAt.pure (fun R' hR' => sR19Sum (mq_vs (R := was w) (fun w s => (hR' w s).in_ 1 rfl) (fun w s => (hR' w s).rest)) hWH (by omega) (by omega) hfl rr) ?_⟩
            conv => whnf
            refine ⟨trivial, CallAt.pure (fun R' hR' => sLvRangeN (some (sb, v, l)) v rr hmv (by omega) (by omega) hos2 (fun w s => (hR' w s).in_ 2 rfl) (gridAt_rest 3 rfl hR') (fun w s => (hR' w s).in_ 0 rfl)) ?_⟩
            conv => whnf
            refine ⟨trivial, CallAt.pure (fun R' hR' => sR21Range (mq_vs (R := was w) (fun w s => (hR' w s).in_ 1 rfl) (fun w s => (hR' w s).rest)) hWH (by omega) (by omega) rr) ?_⟩
            conv => whnf
            generalize sumZ W H (gv W l) rr = qs at *
            generalize rngZ W H (gv W l) rr = qr at *
            repeat (refine ⟨fun _ => ?_, fun h => absurd h (by simp)⟩; conv => whnf)
            refine ⟨trivial, OpAt.aggNe rfl rfl rfl rfl (by kernel_rfl) (fun w => rng_eq _ _ _ _ w) ?_⟩
            conv => whnf
            refine ⟨fun _ => ?_, fun h => absurd h (by simp)⟩
            conv => whnf
            refine iff_f (by simp) ?_
            conv => whnf
            refine ⟨trivial, RegAt.trees0 [((Tr.T 0 (Tr.T 1 (Tr.T 2 (Tr.T 3 (Tr.T 4 (Tr.T 5 (Tr.T 6 (Tr.T 7 (Tr.T 8 (Tr.T 9 (Tr.T 10 (Tr.C 11 (Tr.T 12 (Tr.T 13 (Tr.T 14 (Tr.H 15 (Tr.H 16 Tr.E))))) 15 (Tr.H 11 (Tr.T 12 (Tr.T 13 (Tr.T 14 (Tr.H 16 Tr.E))))))))))))))))), 17), ((Tr.T 17 Tr.E), 18)] hmix (by kernel_rfl) ?_⟩
            conv => whnf
            refine ⟨⟨trivial, by simp only; omega⟩, LoadAt.agg [.int .i64 r.x0, .int .i64 r.y0, .int .i64 r.x1, .int .i64 r.y1] rfl rfl rfl (fun w' hw j u hj => hR4 w' hw.rest j u hj _ (by simp only [Int.toNat_natCast]; omega)) ?_⟩
            conv => whnf
            refine ⟨⟨trivial, by simp only; omega⟩, LoadAt.cell (.int .i64 va) rfl rfl (fun w' hw => hVv w' hw.rest _ (by simp only [Int.toNat_natCast]; omega)) ?_⟩
            conv => whnf
            refine ⟨?_, ?_⟩
            · conv => whnf
              refine ⟨trivial, CallAt.fn (pre := [mqH (Vs (was w) A n l) A n c l]) _ (fun h s => sepL_pull 1 s) (fun R' hR' => sMFillAny (R0 := was w) r va (fun w s => (hR' w s).rest) hWH (by omega) (by omega)) ?_⟩
              rintro x hs ⟨A', c', rfl, rfl⟩
              conv => whnf
              refine ⟨trivial, ⟨⟨rfl, rfl⟩, fun h s => sub_nil s⟩, ?_⟩
              conv => whnf
              refine ⟨trivial, ⟨⟨rfl, rfl⟩, fun h s => sub_nil s⟩, ?_⟩
              conv => whnf
              refine ⟨trivial, ⟨⟨rfl, rfl⟩, fun h s => sub_nil s⟩, ?_⟩
              conv => whnf
              refine ⟨trivial, ?_⟩
              conv => whnf
              refine ⟨trivial, RegAt.groups0 [([.T 0, .T 1, .T 2, .T 3, .T 4, .T 5, .T 6, .T 7, .T 8, .T 9, .T 10, .T 12, .H 11], 13), ([.T 13], 14)] hmix (by kernel_rfl) ?_⟩
              conv => whnf
              refine ⟨⟨trivial, by simp only; omega⟩, LoadAt.agg [.int .i64 r.x0, .int .i64 r.y0, .int .i64 r.x1, .int .i64 r.y1] rfl rfl rfl (fun w' hw j u hj => hR4 w' hw.rest j u hj _ (by simp only [Int.toNat_natCast]; omega)) ?_⟩
              conv => whnf
              refine ⟨⟨trivial, by simp only; omega⟩, LoadAt.cell (.int .i64 va) rfl rfl (fun w' hw => hVv w' hw.rest _ (by simp only [Int.toNat_natCast]; omega)) ?_⟩
              conv => whnf
              refine ⟨trivial, CallAt.fn (pre := [gridH gb W H (gv W l)]) _ (fun h s => sepL_pull 3 s) (fun R' hR' => gFillAny r va hWH) ?_⟩
              rintro x hs ⟨rfl, rfl⟩
              conv => whnf
              refine ⟨trivial, ⟨⟨rfl, rfl⟩, fun h s => sub_nil s⟩, ?_⟩
              conv => whnf
              refine ⟨trivial, ?_⟩
              conv => whnf
              refine iff_f (by simp) ?_
              conv => whnf
              refine ⟨fun hc => ?_, fun hc => ?_⟩
              · conv => whnf
                refine ⟨⟨trivial, by simp only; omega⟩, LoadAt.agg [.int .i64 r.x0, .int .i64 r.y0, .int .i64 r.x1, .int .i64 r.y1] rfl rfl rfl (fun w' hw j u hj => hR4 w' hw.rest j u hj _ (by simp only [Int.toNat_natCast]; omega)) ?_⟩
                conv => whnf
                refine ⟨trivial, CallAt.fn (pre := [liveH lb gb W H (gv W l)]) _ (fun h s => sepL_pull 3 s) (fun R' hR' => sChangedAny r va hWH hl hm (gridAt_rest 0 rfl hR')) ?_⟩
                rintro x hs ⟨rfl, rfl⟩
                conv => whnf
                refine ⟨by refine ⟨⟨trivial, ?_⟩, ?_⟩ <;> (unfold rng; simp only; omega), .mk ⟨i + 1, A', c', nextL W H n r va l, v + 1, (some (sb, v, l))⟩ ⟨by simp only; omega, nextL_len hl, nextL_may hl hm, by simp only; omega, by simp only; omega, fun x hx => ⟨(ho2 x hx).1, (ho2 x hx).2.1, by have := (ho2 x hx).2.2.1; simp only; omega, fun e => absurd e (by have := (ho2 x hx).2.2.1; simp only; omega)⟩⟩ (by simp only; omega) (Le.of (Nat.le_of_ble_eq_true rfl) (Nat.zero_le _) ⟨⟨rfl, rfl⟩, ⟨rfl, rfl⟩, ⟨rfl, rfl⟩, ⟨rfl, rfl⟩, ⟨rfl, rfl⟩, ⟨rfl, rfl⟩, ⟨rfl, rfl⟩, ⟨rfl, rfl⟩, ⟨rfl, rfl⟩, trivial⟩ ⟨⟨rfl, rfl, rfl, rfl⟩, ⟨rfl, rfl, rfl, rfl⟩, trivial⟩ fun h s => sub_front (m := [_,_,_,_]) (r := [_]) (sepL_pull 2 s))⟩
              · have hc : ¬ codeF W H r va = 0 := by simpa using hc
                have e2 : nextL W H n r va l = l := by unfold nextL; rw [if_neg hc]
                rw [e2]
                conv => whnf
                refine ⟨⟨trivial, by unfold rng; simp only; omega⟩, .mk ⟨i + 1, A', c', l, v, (some (sb, v, l))⟩ ⟨by simp only; omega, hl, hm, hv1, by simp only; omega, ho2⟩ (by simp only; omega) (Le.of (Nat.le_of_ble_eq_true rfl) (Nat.zero_le _) ⟨⟨rfl, rfl⟩, ⟨rfl, rfl⟩, ⟨rfl, rfl⟩, ⟨rfl, rfl⟩, ⟨rfl, rfl⟩, ⟨rfl, rfl⟩, ⟨rfl, rfl⟩, ⟨rfl, rfl⟩, ⟨rfl, rfl⟩, trivial⟩ ⟨⟨rfl, rfl, rfl, rfl⟩, ⟨rfl, rfl, rfl, rfl⟩, trivial⟩ fun h s => sub_front (m := [_,_,_,_]) (r := [_]) (sepL_pull 2 (sepL_pull 3 s)))⟩
            · conv => whnf
              refine ⟨trivial, ⟨⟨rfl, rfl⟩, fun h s => sub_nil s⟩, ?_⟩
              conv => whnf
              refine ⟨trivial, CallAt.fn (pre := [mqH (Vs (was w) A n l) A n c l]) _ (fun h s => sepL_pull 1 s) (fun R' hR' => sMFillAny (R0 := was w) r va (fun w s => (hR' w s).rest) hWH (by omega) (by omega)) ?_⟩
              rintro x hs ⟨A', c', rfl, rfl⟩
              conv => whnf
              refine ⟨trivial, ⟨⟨rfl, rfl⟩, fun h s => sub_nil s⟩, ?_⟩
              conv => whnf
              refine ⟨trivial, ⟨⟨rfl, rfl⟩, fun h s => sub_nil s⟩, ?_⟩
              conv => whnf
              refine ⟨trivial, ?_⟩
              conv => whnf
              refine ⟨trivial, RegAt.groups0 [([.T 0, .T 1, .T 2, .T 3, .T 4, .T 5, .T 6, .T 7, .T 8, .T 9, .T 10, .T 12, .H 11], 13), ([.T 13], 14)] hmix (by kernel_rfl) ?_⟩
              conv => whnf
              refine ⟨⟨trivial, by simp only; omega⟩, LoadAt.agg [.int .i64 r.x0, .int .i64 r.y0, .int .i64 r.x1, .int .i64 r.y1] rfl rfl rfl (fun w' hw j u hj => hR4 w' hw.rest j u hj _ (by simp only [Int.toNat_natCast]; omega)) ?_⟩
              conv => whnf
              refine ⟨⟨trivial, by simp only; omega⟩, LoadAt.cell (.int .i64 va) rfl rfl (fun w' hw => hVv w' hw.rest _ (by simp only [Int.toNat_natCast]; omega)) ?_⟩
              conv => whnf
              refine ⟨trivial, CallAt.fn (pre := [gridH gb W H (gv W l)]) _ (fun h s => sepL_pull 3 s) (fun R' hR' => gFillAny r va hWH) ?_⟩
              rintro x hs ⟨rfl, rfl⟩
              conv => whnf
              refine ⟨trivial, ⟨⟨rfl, rfl⟩, fun h s => sub_nil s⟩, ?_⟩
              conv => whnf
              refine ⟨trivial, ?_⟩
              conv => whnf
              refine iff_f (by simp) ?_
              conv => whnf
              refine ⟨fun hc => ?_, fun hc => ?_⟩
              · conv => whnf
                refine ⟨⟨trivial, by simp only; omega⟩, LoadAt.agg [.int .i64 r.x0, .int .i64 r.y0, .int .i64 r.x1, .int .i64 r.y1] rfl rfl rfl (fun w' hw j u hj => hR4 w' hw.rest j u hj _ (by simp only [Int.toNat_natCast]; omega)) ?_⟩
                conv => whnf
                refine ⟨trivial, CallAt.fn (pre := [liveH lb gb W H (gv W l)]) _ (fun h s => sepL_pull 3 s) (fun R' hR' => sChangedAny r va hWH hl hm (gridAt_rest 0 rfl hR')) ?_⟩
                rintro x hs ⟨rfl, rfl⟩
                conv => whnf
                refine ⟨by refine ⟨⟨trivial, ?_⟩, ?_⟩ <;> (unfold rng; simp only; omega), .mk ⟨i + 1, A', c', nextL W H n r va l, v + 1, (some (sb, v, l))⟩ ⟨by simp only; omega, nextL_len hl, nextL_may hl hm, by simp only; omega, by simp only; omega, fun x hx => ⟨(ho2 x hx).1, (ho2 x hx).2.1, by have := (ho2 x hx).2.2.1; simp only; omega, fun e => absurd e (by have := (ho2 x hx).2.2.1; simp only; omega)⟩⟩ (by simp only; omega) (Le.of (Nat.le_of_ble_eq_true rfl) (Nat.zero_le _) ⟨⟨rfl, rfl⟩, ⟨rfl, rfl⟩, ⟨rfl, rfl⟩, ⟨rfl, rfl⟩, ⟨rfl, rfl⟩, ⟨rfl, rfl⟩, ⟨rfl, rfl⟩, ⟨rfl, rfl⟩, ⟨rfl, rfl⟩, trivial⟩ ⟨⟨rfl, rfl, rfl, rfl⟩, ⟨rfl, rfl, rfl, rfl⟩, trivial⟩ fun h s => sub_front (m := [_,_,_,_]) (r := [_]) (sepL_pull 2 s))⟩
              · have hc : ¬ codeF W H r va = 0 := by simpa using hc
                have e2 : nextL W H n r va l = l := by unfold nextL; rw [if_neg hc]
                rw [e2]
                conv => whnf
                refine ⟨⟨trivial, by unfold rng; simp only; omega⟩, .mk ⟨i + 1, A', c', l, v, (some (sb, v, l))⟩ ⟨by simp only; omega, hl, hm, hv1, by simp only; omega, ho2⟩ (by simp only; omega) (Le.of (Nat.le_of_ble_eq_true rfl) (Nat.zero_le _) ⟨⟨rfl, rfl⟩, ⟨rfl, rfl⟩, ⟨rfl, rfl⟩, ⟨rfl, rfl⟩, ⟨rfl, rfl⟩, ⟨rfl, rfl⟩, ⟨rfl, rfl⟩, ⟨rfl, rfl⟩, ⟨rfl, rfl⟩, trivial⟩ ⟨⟨rfl, rfl, rfl, rfl⟩, ⟨rfl, rfl, rfl, rfl⟩, trivial⟩ fun h s => sub_front (m := [_,_,_,_]) (r := [_]) (sepL_pull 2 (sepL_pull 3 s)))⟩
        · conv => whnf
          refine ⟨trivial, CallAt.pure (fun R' hR' => sLvSumN o v rr hfl (by omega) (by omega) hos (fun w s => (hR' w s).in_ 1 rfl) (gridAt_rest 2 rfl hR') (fun w s => (hR' w s).in_ 3 rfl)) ?_⟩
          conv => whnf
          refine ⟨trivial, CallAt.pure (fun R' hR' => sR19Sum (mq_vs (R := was w) (fun w s => (hR' w s).in_ 0 rfl) (fun w s => (hR' w s).rest)) hWH (by omega) (by omega) hfl rr) ?_⟩
          conv => whnf
          refine ⟨trivial, CallAt.pure (fun R' hR' => sLvRangeN o v rr hmv (by omega) (by omega) hos (fun w s => (hR' w s).in_ 1 rfl) (gridAt_rest 2 rfl hR') (fun w s => (hR' w s).in_ 3 rfl)) ?_⟩
          conv => whnf
          refine ⟨trivial, CallAt.pure (fun R' hR' => sR21Range (mq_vs (R := was w) (fun w s => (hR' w s).in_ 0 rfl) (fun w s => (hR' w s).rest)) hWH (by omega) (by omega) rr) ?_⟩
          conv => whnf
          generalize sumZ W H (gv W l) rr = qs at *
          generalize rngZ W H (gv W l) rr = qr at *
          repeat (refine ⟨fun _ => ?_, fun h => absurd h (by simp)⟩; conv => whnf)
          refine ⟨trivial, OpAt.aggNe rfl rfl rfl rfl (by kernel_rfl) (fun w => rng_eq _ _ _ _ w) ?_⟩
          conv => whnf
          refine ⟨fun _ => ?_, fun h => absurd h (by simp)⟩
          conv => whnf
          refine iff_f (by simp) ?_
          conv => whnf
          refine ⟨trivial, RegAt.trees0 [((Tr.T 0 (Tr.T 1 (Tr.T 2 (Tr.T 3 (Tr.T 4 (Tr.T 5 (Tr.T 6 (Tr.T 7 (Tr.T 8 (Tr.T 9 (Tr.T 10 (Tr.C 11 (Tr.T 12 (Tr.T 13 (Tr.T 14 (Tr.H 15 (Tr.H 16 Tr.E))))) 15 (Tr.H 11 (Tr.T 12 (Tr.T 13 (Tr.T 14 (Tr.H 16 Tr.E))))))))))))))))), 17), ((Tr.T 17 Tr.E), 18)] hmix (by kernel_rfl) ?_⟩
          conv => whnf
          refine ⟨⟨trivial, by simp only; omega⟩, LoadAt.agg [.int .i64 r.x0, .int .i64 r.y0, .int .i64 r.x1, .int .i64 r.y1] rfl rfl rfl (fun w' hw j u hj => hR4 w' hw.rest j u hj _ (by simp only [Int.toNat_natCast]; omega)) ?_⟩
          conv => whnf
          refine ⟨⟨trivial, by simp only; omega⟩, LoadAt.cell (.int .i64 va) rfl rfl (fun w' hw => hVv w' hw.rest _ (by simp only [Int.toNat_natCast]; omega)) ?_⟩
          conv => whnf
          refine ⟨?_, ?_⟩
          · conv => whnf
            refine ⟨trivial, CallAt.fn (pre := [mqH (Vs (was w) A n l) A n c l]) _ (fun h s => sepL_pull 0 s) (fun R' hR' => sMFillAny (R0 := was w) r va (fun w s => (hR' w s).rest) hWH (by omega) (by omega)) ?_⟩
            rintro x hs ⟨A', c', rfl, rfl⟩
            conv => whnf
            refine ⟨trivial, ⟨⟨rfl, rfl⟩, fun h s => sub_nil s⟩, ?_⟩
            conv => whnf
            refine ⟨trivial, ⟨⟨rfl, rfl⟩, fun h s => sub_nil s⟩, ?_⟩
            conv => whnf
            refine ⟨trivial, ⟨⟨rfl, rfl⟩, fun h s => sub_nil s⟩, ?_⟩
            conv => whnf
            refine ⟨trivial, ?_⟩
            conv => whnf
            refine ⟨trivial, RegAt.groups0 [([.T 0, .T 1, .T 2, .T 3, .T 4, .T 5, .T 6, .T 7, .T 8, .T 9, .T 10, .T 12, .H 11], 13), ([.T 13], 14)] hmix (by kernel_rfl) ?_⟩
            conv => whnf
            refine ⟨⟨trivial, by simp only; omega⟩, LoadAt.agg [.int .i64 r.x0, .int .i64 r.y0, .int .i64 r.x1, .int .i64 r.y1] rfl rfl rfl (fun w' hw j u hj => hR4 w' hw.rest j u hj _ (by simp only [Int.toNat_natCast]; omega)) ?_⟩
            conv => whnf
            refine ⟨⟨trivial, by simp only; omega⟩, LoadAt.cell (.int .i64 va) rfl rfl (fun w' hw => hVv w' hw.rest _ (by simp only [Int.toNat_natCast]; omega)) ?_⟩
            conv => whnf
            refine ⟨trivial, CallAt.fn (pre := [gridH gb W H (gv W l)]) _ (fun h s => sepL_pull 2 s) (fun R' hR' => gFillAny r va hWH) ?_⟩
            rintro x hs ⟨rfl, rfl⟩
            conv => whnf
            refine ⟨trivial, ⟨⟨rfl, rfl⟩, fun h s => sub_nil s⟩, ?_⟩
            conv => whnf
            refine ⟨trivial, ?_⟩
            conv => whnf
            refine iff_f (by simp) ?_
            conv => whnf
            refine ⟨fun hc => ?_, fun hc => ?_⟩
            · conv => whnf
              refine ⟨⟨trivial, by simp only; omega⟩, LoadAt.agg [.int .i64 r.x0, .int .i64 r.y0, .int .i64 r.x1, .int .i64 r.y1] rfl rfl rfl (fun w' hw j u hj => hR4 w' hw.rest j u hj _ (by simp only [Int.toNat_natCast]; omega)) ?_⟩
              conv => whnf
              refine ⟨trivial, CallAt.fn (pre := [liveH lb gb W H (gv W l)]) _ (fun h s => sepL_pull 2 s) (fun R' hR' => sChangedAny r va hWH hl hm (gridAt_rest 0 rfl hR')) ?_⟩
              rintro x hs ⟨rfl, rfl⟩
              conv => whnf
              refine ⟨by refine ⟨⟨trivial, ?_⟩, ?_⟩ <;> (unfold rng; simp only; omega), .mk ⟨i + 1, A', c', nextL W H n r va l, v + 1, o⟩ ⟨by simp only; omega, nextL_len hl, nextL_may hl hm, by simp only; omega, by simp only; omega, fun x hx => ⟨(ho x hx).1, (ho x hx).2.1, by have := (ho x hx).2.2.1; simp only; omega, fun e => absurd e (by have := (ho x hx).2.2.1; simp only; omega)⟩⟩ (by simp only; omega) (Le.of (Nat.le_of_ble_eq_true rfl) (Nat.zero_le _) ⟨⟨rfl, rfl⟩, ⟨rfl, rfl⟩, ⟨rfl, rfl⟩, ⟨rfl, rfl⟩, ⟨rfl, rfl⟩, ⟨rfl, rfl⟩, ⟨rfl, rfl⟩, ⟨rfl, rfl⟩, ⟨rfl, rfl⟩, trivial⟩ ⟨⟨rfl, rfl, rfl, rfl⟩, ⟨rfl, rfl, rfl, rfl⟩, trivial⟩ fun h s => sub_same (sepL_pull 2 s))⟩
            · have hc : ¬ codeF W H r va = 0 := by simpa using hc
              have e2 : nextL W H n r va l = l := by unfold nextL; rw [if_neg hc]
              rw [e2]
              conv => whnf
              refine ⟨⟨trivial, by unfold rng; simp only; omega⟩, .mk ⟨i + 1, A', c', l, v, o⟩ ⟨by simp only; omega, hl, hm, hv1, by simp only; omega, ho⟩ (by simp only; omega) (Le.of (Nat.le_of_ble_eq_true rfl) (Nat.zero_le _) ⟨⟨rfl, rfl⟩, ⟨rfl, rfl⟩, ⟨rfl, rfl⟩, ⟨rfl, rfl⟩, ⟨rfl, rfl⟩, ⟨rfl, rfl⟩, ⟨rfl, rfl⟩, ⟨rfl, rfl⟩, ⟨rfl, rfl⟩, trivial⟩ ⟨⟨rfl, rfl, rfl, rfl⟩, ⟨rfl, rfl, rfl, rfl⟩, trivial⟩ fun h s => sub_same (sepL_pull 2 (sepL_pull 2 s)))⟩
          · conv => whnf
            refine ⟨trivial, ⟨⟨rfl, rfl⟩, fun h s => sub_nil s⟩, ?_⟩
            conv => whnf
            refine ⟨trivial, CallAt.fn (pre := [mqH (Vs (was w) A n l) A n c l]) _ (fun h s => sepL_pull 0 s) (fun R' hR' => sMFillAny (R0 := was w) r va (fun w s => (hR' w s).rest) hWH (by omega) (by omega)) ?_⟩
            rintro x hs ⟨A', c', rfl, rfl⟩
            conv => whnf
            refine ⟨trivial, ⟨⟨rfl, rfl⟩, fun h s => sub_nil s⟩, ?_⟩
            conv => whnf
            refine ⟨trivial, ⟨⟨rfl, rfl⟩, fun h s => sub_nil s⟩, ?_⟩
            conv => whnf
            refine ⟨trivial, ?_⟩
            conv => whnf
            refine ⟨trivial, RegAt.groups0 [([.T 0, .T 1, .T 2, .T 3, .T 4, .T 5, .T 6, .T 7, .T 8, .T 9, .T 10, .T 12, .H 11], 13), ([.T 13], 14)] hmix (by kernel_rfl) ?_⟩
            conv => whnf
            refine ⟨⟨trivial, by simp only; omega⟩, LoadAt.agg [.int .i64 r.x0, .int .i64 r.y0, .int .i64 r.x1, .int .i64 r.y1] rfl rfl rfl (fun w' hw j u hj => hR4 w' hw.rest j u hj _ (by simp only [Int.toNat_natCast]; omega)) ?_⟩
            conv => whnf
            refine ⟨⟨trivial, by simp only; omega⟩, LoadAt.cell (.int .i64 va) rfl rfl (fun w' hw => hVv w' hw.rest _ (by simp only [Int.toNat_natCast]; omega)) ?_⟩
            conv => whnf
            refine ⟨trivial, CallAt.fn (pre := [gridH gb W H (gv W l)]) _ (fun h s => sepL_pull 2 s) (fun R' hR' => gFillAny r va hWH) ?_⟩
            rintro x hs ⟨rfl, rfl⟩
            conv => whnf
            refine ⟨trivial, ⟨⟨rfl, rfl⟩, fun h s => sub_nil s⟩, ?_⟩
            conv => whnf
            refine ⟨trivial, ?_⟩
            conv => whnf
            refine iff_f (by simp) ?_
            conv => whnf
            refine ⟨fun hc => ?_, fun hc => ?_⟩
            · conv => whnf
              refine ⟨⟨trivial, by simp only; omega⟩, LoadAt.agg [.int .i64 r.x0, .int .i64 r.y0, .int .i64 r.x1, .int .i64 r.y1] rfl rfl rfl (fun w' hw j u hj => hR4 w' hw.rest j u hj _ (by simp only [Int.toNat_natCast]; omega)) ?_⟩
              conv => whnf
              refine ⟨trivial, CallAt.fn (pre := [liveH lb gb W H (gv W l)]) _ (fun h s => sepL_pull 2 s) (fun R' hR' => sChangedAny r va hWH hl hm (gridAt_rest 0 rfl hR')) ?_⟩
              rintro x hs ⟨rfl, rfl⟩
              conv => whnf
              refine ⟨by refine ⟨⟨trivial, ?_⟩, ?_⟩ <;> (unfold rng; simp only; omega), .mk ⟨i + 1, A', c', nextL W H n r va l, v + 1, o⟩ ⟨by simp only; omega, nextL_len hl, nextL_may hl hm, by simp only; omega, by simp only; omega, fun x hx => ⟨(ho x hx).1, (ho x hx).2.1, by have := (ho x hx).2.2.1; simp only; omega, fun e => absurd e (by have := (ho x hx).2.2.1; simp only; omega)⟩⟩ (by simp only; omega) (Le.of (Nat.le_of_ble_eq_true rfl) (Nat.zero_le _) ⟨⟨rfl, rfl⟩, ⟨rfl, rfl⟩, ⟨rfl, rfl⟩, ⟨rfl, rfl⟩, ⟨rfl, rfl⟩, ⟨rfl, rfl⟩, ⟨rfl, rfl⟩, ⟨rfl, rfl⟩, ⟨rfl, rfl⟩, trivial⟩ ⟨⟨rfl, rfl, rfl, rfl⟩, ⟨rfl, rfl, rfl, rfl⟩, trivial⟩ fun h s => sub_same (sepL_pull 2 s))⟩
            · have hc : ¬ codeF W H r va = 0 := by simpa using hc
              have e2 : nextL W H n r va l = l := by unfold nextL; rw [if_neg hc]
              rw [e2]
              conv => whnf
              refine ⟨⟨trivial, by unfold rng; simp only; omega⟩, .mk ⟨i + 1, A', c', l, v, o⟩ ⟨by simp only; omega, hl, hm, hv1, by simp only; omega, ho⟩ (by simp only; omega) (Le.of (Nat.le_of_ble_eq_true rfl) (Nat.zero_le _) ⟨⟨rfl, rfl⟩, ⟨rfl, rfl⟩, ⟨rfl, rfl⟩, ⟨rfl, rfl⟩, ⟨rfl, rfl⟩, ⟨rfl, rfl⟩, ⟨rfl, rfl⟩, ⟨rfl, rfl⟩, ⟨rfl, rfl⟩, trivial⟩ ⟨⟨rfl, rfl, rfl, rfl⟩, ⟨rfl, rfl, rfl, rfl⟩, trivial⟩ fun h s => sub_same (sepL_pull 2 (sepL_pull 2 s)))⟩
      · have g5 : i = n2 := by simp at h5; omega
        conv => whnf
        (rw [hB]; clear hB B; refine run_cut fun B hB => ?_; conv => whnf)
        refine ⟨trivial, CallAt.pure (fun R' hR' => sIs (gridAt_rest 2 rfl hR') (mq_vs (R := was w) (fun w s => (hR' w s).in_ 0 rfl) (fun w s => (hR' w s).rest)) (vRows_gv (by rw [hl, hWH]))) ?_⟩
        conv => whnf
        (rw [hB]; clear hB B; conv => whnf)
        exact ⟨trivial, fin_drop rfl⟩
  · refine fn_of_run0 false Tryz.func3 rfl hmix rfl fun w0 => ?_
    refine run_cut fun B hB => ?_
    conv => whnf
    (rw [hB]; clear hB B; refine run_cut fun B hB => ?_; conv => whnf)
    refine ⟨trivial, CallAt.pure (fun R' hR' => sAwake22 R') ?_⟩
    conv => whnf
    refine iff_f rfl ?_
    conv => whnf
    (rw [hB]; clear hB B; refine run_cut fun B hB => ?_; conv => whnf)
    refine ⟨trivial, CallAt.pure (fun R' hR' => sLandNo (hv.mono fun w s => hR' w s) (by decide) hn hok) ?_⟩
    conv => whnf
    (rw [hB]; clear hB B; refine run_cut fun B hB => ?_; conv => whnf)
    repeat (first | (refine ⟨fun _ => ?_, fun h => absurd h (by decide)⟩; conv => whnf) | (refine ⟨fun h => absurd h (by decide), fun _ => ?_⟩; conv => whnf))
    exact ⟨trivial, fin_pure rfl rfl⟩
end Go.Proofs.YtjnglcjofajcnaaGreat

/-
  Slices of bools among the arguments.
-/
namespace Go.Proofs.YtjnglcjofajcnaaGreat
open Go.ChangeShapes Go.WideShapes Go.ChangeAt Go.RowKit Go.Joins Sy
set_option linter.unusedVariables false
set_option linter.unusedSimpArgs false
set_option maxRecDepth 100000
set_option maxHeartbeats 4000000

theorem open_boolsR {H : Type} {enc : TypeId × Value → H} {w : World} {base : Nat} {held : Bool} {a : Option Addr} {n c : Nat} {d : DataW H} {ps : List MemPlace} (h : DataW.Trod enc Tryz.prog w base (fun _ => true) held 24 (.slice a n c) d ps) :
    ∃ l : List Bool, Reads w w.heap.size 1 a n (l.map Value.bool) ∧ n ≤ maxLen := by
  obtain ⟨fuel, h⟩ := h
  rcases Go.Deep.open_bools Tryz.underlying24 Tryz.underlying4 (by kernel_rfl) h with ⟨hcs, _⟩ | ⟨x, len, cap, B, hcs, _, hl, hm, _, hcell⟩
  · simp [Value.cells] at hcs
    obtain ⟨rfl, rfl, rfl⟩ := hcs
    exact ⟨[], Reads.empty, by simp [maxLen]⟩
  · simp [Value.cells] at hcs
    obtain ⟨rfl, rfl, rfl⟩ := hcs
    refine ⟨(List.range n).map B, ⟨by simp, fun hn => ⟨x, rfl, ?_, fun j u hu => ?_⟩⟩, Nat.le_trans hl hm⟩
    · have := World.block_lt_of_cell? w _ (hcell 0 (by omega))
      rwa [add_block] at this
    · have hj : j < n := by
        have := (List.getElem?_eq_some_iff.1 hu).1
        simpa using this
      rw [hcell j (by omega)]
      simp only [List.map_map, List.getElem?_map, List.getElem?_range hj, Option.map_some, Function.comp, Option.some.injEq] at hu
      rw [hu]
end Go.Proofs.YtjnglcjofajcnaaGreat

/-
  The statement of hachurelaw22.SnapStamps: for every input the call returns true, and each argument reads afterwards as it read before. The row's own frame round the walk 'SnapStamps_walk'.
-/
namespace Go.Proofs.YtjnglcjofajcnaaGreat.snapStampsRow
open Go.Proofs.YtjnglcjofajcnaaGreat
open Go.ChangeShapes Go.WideShapes Go.ChangeAt Go.RowKit Go.Joins
set_option linter.unusedVariables false

theorem own : ownKnob Tryz.prog.godebug = none := by kernel_rfl
theorem laidOut : laidOutB Tryz.prog = true := by kernel_rfl


set_option maxRecDepth 100000 in
theorem lifted (os : Os) (started : os.Started) (H : Type) (enc : TypeId × Value → H) :
    ReturnsInHanded {} Tryz.checked os 3 .any (Rows.snapStampsSpec.pre6 enc Tryz.prog Tryz.f3 Rows.snapStampsRow.domain false) (Rows.snapStampsSpec.post enc Tryz.prog Tryz.f3 false true false false) := by
  refine returnsInHanded_of_change (C := Tryz.checked) own started (by kernel_rfl) Tryz.func3
    (ChangeSpec.witness6 (enc := enc) (C := Tryz.checked) false ⟨#[], #[.int .i64 0, .int .i64 0, .slice none 0 0, .slice none 0 0, .slice none 0 0, .agg #[.int .i64 0, .int .i64 0, .int .i64 0, .int .i64 0]], []⟩ 8 (by kernel_rfl) (by kernel_rfl) (by kernel_rfl) (by kernel_rfl)) ?_
  intro W base args ds gs before hval0 hW hcnd _
  have hval : ∀ (j : Nat) t v, Tryz.f3.params[j]? = some t → args[j]? = some v → Value.okWide Tryz.prog W .any base t v := hval0
  have hW' := hW
  obtain ⟨p, q, hA0, hV, rfl, hfz, hnd⟩ := hW
  have hA : DataW.TrodAll enc Tryz.prog W 0 (fun _ => true) true Tryz.f3.params.toList args.toList ds p := hA0
  rw [Tryz.params3] at hA hval
  obtain ⟨v0, vs0, d0, ds0, p0, q0, hargs, rfl, rfl, h0, r0⟩ := trodAll_cons hA
  obtain ⟨v1, vs1, d1, ds1, p1, q1, rfl, rfl, rfl, h1, r1⟩ := trodAll_cons r0
  obtain ⟨v2, vs2, d2, ds2, p2, q2, rfl, rfl, rfl, h2, r2⟩ := trodAll_cons r1
  obtain ⟨v3, vs3, d3, ds3, p3, q3, rfl, rfl, rfl, h3, r3⟩ := trodAll_cons r2
  obtain ⟨v4, vs4, d4, ds4, p4, q4, rfl, rfl, rfl, h4, r4⟩ := trodAll_cons r3
  obtain ⟨v5, vs5, d5, ds5, p5, q5, rfl, rfl, rfl, h5, r5⟩ := trodAll_cons r4
  obtain ⟨rfl, rfl, rfl⟩ := trodAll_nil r5
  obtain rfl : args = #[v0, v1, v2, v3, v4, v5] := by cases args; simp_all
  obtain ⟨rfl, rfl⟩ := trodVars_none hV
  have k0 := h0
  have lt0 : ∀ x ∈ p0, x.block < W.heap.size := by obtain ⟨m, hm⟩ := k0; exact DataW.trod_lt m _ _ _ hm
  have k1 := h1
  have lt1 : ∀ x ∈ p1, x.block < W.heap.size := by obtain ⟨m, hm⟩ := k1; exact DataW.trod_lt m _ _ _ hm
  have k2 := h2
  have lt2 : ∀ x ∈ p2, x.block < W.heap.size := by obtain ⟨m, hm⟩ := k2; exact DataW.trod_lt m _ _ _ hm
  have k3 := h3
  have lt3 : ∀ x ∈ p3, x.block < W.heap.size := by obtain ⟨m, hm⟩ := k3; exact DataW.trod_lt m _ _ _ hm
  have k4 := h4
  have lt4 : ∀ x ∈ p4, x.block < W.heap.size := by obtain ⟨m, hm⟩ := k4; exact DataW.trod_lt m _ _ _ hm
  have k5 := h5
  have lt5 : ∀ x ∈ p5, x.block < W.heap.size := by obtain ⟨m, hm⟩ := k5; exact DataW.trod_lt m _ _ _ hm
  obtain ⟨a0, rfl, rfl, rfl, w0⟩ := open_int Tryz.underlying2 (hval 0 2 v0 rfl rfl) h0
  have b0 := bounds_i64 w0
  obtain ⟨a1, rfl, rfl, rfl, w1⟩ := open_int Tryz.underlying2 (hval 1 2 v1 rfl rfl) h1
  have b1 := bounds_i64 w1
  obtain ⟨a2, len2, cap2, rfl⟩ := okWide_slice Tryz.underlying22 (hval 2 22 v2 rfl rfl)
  obtain ⟨l2, hl2, hn2⟩ : ∃ l, Reads W W.heap.size 1 a2 len2 (ints l) ∧ len2 ≤ maxLen := by
    obtain ⟨fuel, hf⟩ := h2
    rcases open_ints Tryz.underlying22 Tryz.underlying2 (by kernel_rfl) hf with ⟨hcs, _⟩ | ⟨x, l, c, zs, hcs, _, hl, hm, hz, _, hcell, hwz⟩
    · simp [Value.cells] at hcs
      obtain ⟨rfl, rfl, rfl⟩ := hcs
      exact ⟨[], Reads.empty, by simp [maxLen]⟩
    · simp [Value.cells] at hcs
      obtain ⟨rfl, rfl, rfl⟩ := hcs
      obtain ⟨l, hl2⟩ := ints_of hl (by simpa using hz) hcell
      exact ⟨l, hl2, Nat.le_trans hl hm⟩
  obtain ⟨a3, len3, cap3, rfl⟩ := okWide_slice Tryz.underlying23 (hval 3 23 v3 rfl rfl)
  obtain ⟨l3, hl3, hn3⟩ := open_acts h3
  obtain ⟨a4, len4, cap4, rfl⟩ := okWide_slice Tryz.underlying24 (hval 4 24 v4 rfl rfl)
  obtain ⟨l4, hl4, hn4⟩ := open_boolsR h4
  obtain ⟨ca5, cb5, cc5, cd5, ea5, eb5, ec5, ed5, em5, rfl, rfl, rfl, ha5, hb5, hc5, hd5⟩ := open_agg4 Tryz.underlying26 (by kernel_rfl) (by kernel_rfl) (hval 5 26 v5 rfl rfl) h5
  obtain ⟨x5, fx5, rfl, wx5⟩ := DataW.trod_int Tryz.underlying2 ha5
  obtain ⟨y5, fy5, rfl, wy5⟩ := DataW.trod_int Tryz.underlying2 hb5
  obtain ⟨z5, fz5, rfl, wz5⟩ := DataW.trod_int Tryz.underlying2 hc5
  obtain ⟨u5, fu5, rfl, wu5⟩ := DataW.trod_int Tryz.underlying2 hd5
  simp at fx5 fy5 fz5 fu5
  subst fx5 fy5 fz5 fu5
  have bx5 := bounds_i64 wx5
  have by5 := bounds_i64 wy5
  have bz5 := bounds_i64 wz5
  have bu5 := bounds_i64 wu5
  clear hA0 hval0
  refine (SnapStamps_walk a0 a1 a2 len2 cap2 l2 a3 len3 cap3 l3 a4 len4 cap4 l4 x5 y5 z5 u5 W b0.1 b0.2 b1.1 b1.2 hl2 hn2 hl3 hn3 hl4 hn4 bx5.1 bx5.2 by5.1 by5.2 bz5.1 bz5.2 bu5.1 bu5.2).mono fun e W' ⟨he, bel⟩ => ?_
  subst he
  exact ⟨_, rfl, _, _, _, [], _, [], hW', trodAll_mk1 (shut_bool Tryz.underlying4 _), (trodAll_cons_mk (Below.trod laidOut (by kernel_rfl) (of_decide_eq_true (by kernel_rfl)) k0 bel lt0) (trodAll_cons_mk (Below.trod laidOut (by kernel_rfl) (of_decide_eq_true (by kernel_rfl)) k1 bel lt1) (trodAll_cons_mk (Below.trod laidOut (by kernel_rfl) (of_decide_eq_true (by kernel_rfl)) k2 bel lt2) (trodAll_cons_mk (Below.trod laidOut (by kernel_rfl) (of_decide_eq_true (by kernel_rfl)) k3 bel lt3) (trodAll_cons_mk (Below.trod laidOut (by kernel_rfl) (of_decide_eq_true (by kernel_rfl)) k4 bel lt4) (trodAll_cons_mk (Below.trod laidOut (by kernel_rfl) (of_decide_eq_true (by kernel_rfl)) k5 bel lt5) trodAll_mk0)))))), rfl, bel.frame _, fun h => by cases h⟩

theorem over : Rows.snapStampsRow.holds Tryz.pinned (OpenSpec.ofChange Rows.snapStampsSpec) :=
  OpenClaim.holds_of_wide 3 Tryz.f3 rfl rfl rfl rfl rfl rfl rfl ⟨rfl, rfl, rfl, rfl, rfl⟩ rfl rfl rfl rfl rfl (by kernel_rfl) Tryz.func3 (by kernel_rfl)
    (of_decide_eq_true (by kernel_rfl)) (by unfold Func.isWrapper; first | (rw [if_pos (by decide +kernel)]; kernel_rfl) | (rw [if_neg (by decide +kernel)]; exact ⟨rfl, rfl⟩))
    (fun os started H enc _ => lifted os started H enc)
end Go.Proofs.YtjnglcjofajcnaaGreat.snapStampsRow
namespace Go.Proofs.YtjnglcjofajcnaaGreat

theorem snapStamps_holds : Rows.SnapStampsSaid := snapStampsRow.over
#print axioms snapStamps_holds
end Go.Proofs.YtjnglcjofajcnaaGreat

