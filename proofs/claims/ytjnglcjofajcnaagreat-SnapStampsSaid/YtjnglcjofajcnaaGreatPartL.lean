/-
  Texts of the proofs, one behind the other: PyrBuilds, PyrParts, PyrSameF, PyrMore, DownSteps, PyrRepairs.
-/
import Derived.Test.YtjnglcjofajcnaaGreatPartK
import Derived.Test.YtjnglcjofajcnaaGreatPartJ
/-
  The least and the greatest below.
-/
namespace Go.Proofs.YtjnglcjofajcnaaGreat
open Go.RowKit
open Sy
set_option linter.unusedVariables false
set_option linter.unusedSimpArgs false
set_option maxRecDepth 100000
set_option maxHeartbeats 4000000

end Go.Proofs.YtjnglcjofajcnaaGreat

/-
  Only what is told.
-/
namespace Go.Proofs.YtjnglcjofajcnaaGreat
open Go.RowKit
open Sy
set_option linter.unusedVariables false
set_option linter.unusedSimpArgs false
set_option maxRecDepth 100000
set_option maxHeartbeats 4000000

theorem within_inv {x0 y0 x1 y1 a b : Int} (h : withinZ x0 y0 x1 y1 a b = 0) : 0 ≤ x0 ∧ x0 ≤ x1 ∧ x1 < a ∧ 0 ≤ y0 ∧ y0 ≤ y1 ∧ y1 < b := by
  unfold withinZ InP at h
  split at h
  · omega
  · split at h
    · omega
    · split at h
      · omega
      · rename_i h2 h3
        have h2 := Classical.not_not.1 h2
        omega

def mergL (x0 y0 x1 y1 W : Nat) (u v : List Int) (k : Nat) : List Int := (List.range k).map fun j => if x0 ≤ j % W ∧ j % W ≤ x1 ∧ y0 ≤ j / W ∧ j / W ≤ y1 then u.getD j 0 else v.getD j 0
theorem mergL_len (x0 y0 x1 y1 W : Nat) (u v : List Int) (k : Nat) : (mergL x0 y0 x1 y1 W u v k).length = k := by simp [mergL]
theorem mergL_yes {x0 y0 x1 y1 W k : Nat} {u v : List Int} (h : x0 ≤ k % W ∧ k % W ≤ x1 ∧ y0 ≤ k / W ∧ k / W ≤ y1) : mergL x0 y0 x1 y1 W u v (k + 1) = mergL x0 y0 x1 y1 W u v k ++ [u.getD k 0] := by
  unfold mergL; rw [List.range_succ, List.map_append]; simp only [List.map_cons, List.map_nil, if_pos h]
theorem mergL_no {x0 y0 x1 y1 W k : Nat} {u v : List Int} (h : ¬ (x0 ≤ k % W ∧ k % W ≤ x1 ∧ y0 ≤ k / W ∧ k / W ≤ y1)) : mergL x0 y0 x1 y1 W u v (k + 1) = mergL x0 y0 x1 y1 W u v k ++ [v.getD k 0] := by
  unfold mergL; rw [List.range_succ, List.map_append]; simp only [List.map_cons, List.map_nil, if_neg h]
theorem mergL_gv {x0 y0 x1 y1 W H x y : Nat} {u v : List Int} (hx : x < W) (hy : y < H) : mergeG x0 y0 x1 y1 (gv W u) (gv W v) x y = gv W (mergL x0 y0 x1 y1 W u v (W * H)) x y := by
  have hi := idx_lt hx hy
  unfold mergeG gv
  rw [List.getD_eq_getElem?_getD (l := mergL x0 y0 x1 y1 W u v (W * H))]
  unfold mergL
  rw [List.getElem?_map, List.getElem?_range hi]
  simp only [Option.map_some, Option.getD_some]
  rw [(xy_mod hx).1, (xy_mod hx).2]

end Go.Proofs.YtjnglcjofajcnaaGreat

/-
  pyr.Same.
-/
namespace Go.Proofs.YtjnglcjofajcnaaGreat
open Go.RowKit
open Sy
set_option linter.unusedVariables false
set_option linter.unusedSimpArgs false
set_option maxRecDepth 100000
set_option maxHeartbeats 4000000

theorem RunQ.aggNe {G : Gl} {o : Oper} {st : St} {K : SV → Prop} {t ty : TypeId} {x y : Operand} {xs ys : Array Value} {r : Bool} (ho : o.op = .binOp .neq t x y ty) (hx : evR st x = .agg xs) (hy : evR st y = .agg ys) (hr : Sy.allR st o.op.operands.toList = true) (hg : G.P.eqGuardType G.P.depth t = false)
    (heq : ∀ w, (Op.equalIn 10000 t (.agg xs) (.agg ys)).run G.P w = .ok r w) (k : K (.v (.bool (!r)))) : RunQ G o st K := by
  refine .mk (.bool (!r)) (fun ρ a w m mm => ?_) k
  have hc : execOp a.eval o = execOp (evR st) o := execOp_congr o (fun cs b => notSel_spec (by rw [ho]; rfl) cs b) fun x hx => allR_sound m hr x (by simpa using hx)
  rw [hc]
  simp [execOp, ho, hx, hy, run_eqGuard_agg _ _ _ _ _ _ _ hg, binOp, Op.equal, Op.maxDepth, heq]

end Go.Proofs.YtjnglcjofajcnaaGreat

/-
  What is refused: (*Grid).Values, (*Pyr).Repair, paint.Paste.
-/
namespace Go.Proofs.YtjnglcjofajcnaaGreat
open Go.RowKit
open Sy
set_option linter.unusedVariables false
set_option linter.unusedSimpArgs false
set_option maxRecDepth 100000
set_option maxHeartbeats 4000000

theorem gCheckP {R : HP} {gb W H : Nat} {f : Nat → Nat → Int} {x0 y0 x1 y1 : Int} (hR : ∀ w, Sat R w → GridAt w gb W H f) : PureR Tryz.prog R 34 [.pointer (some ⟨gb, 0, none⟩), rectV x0 y0 x1 y1] (.int .i64 (withinZ x0 y0 x1 y1 W H)) := PureR.of_below fun w s => by
  obtain ⟨sb, c, p, q, hO⟩ := hR w s
  have w1 := hO.w1; have w2 := hO.w2; have h1 := hO.h1; have h2 := hO.h2
  exact gcheck_any gb W H _ _ x0 y0 x1 y1 w hO.head (by omega) (by omega) (by omega) (by omega)
theorem gValuesBad {R : HP} {gb W H : Nat} {f : Nat → Nat → Int} {x0 y0 x1 y1 : Int} (hR : ∀ w, Sat R w → GridAt w gb W H f) (hb : withinZ x0 y0 x1 y1 W H ≠ 0) : PureR Tryz.prog R 39 [.pointer (some ⟨gb, 0, none⟩), rectV x0 y0 x1 y1] (.tuple #[.slice none 0 0, .int .i64 (withinZ x0 y0 x1 y1 W H)]) := by
  refine fn_of_run0 false Tryz.func39 rfl hmix rfl fun w0 => ?_
  conv => whnf
  refine ⟨trivial, CallAt.pure (fun R' hR' => gCheckP fun w s => hR w (hR' w s)) ?_⟩
  conv => whnf
  refine iff_t (by simp [hb]) ?_
  conv => whnf
  exact ⟨trivial, fin_pure rfl rfl⟩
theorem sRepairBad {R : HP} {pb gb W H : Nat} {g : Nat → Nat → Int} {F : Nat → Nat → Int × Int} {x0 y0 x1 y1 : Int} (hR : ∀ w, Sat R w → GridAt w gb W H g) (hb : withinZ x0 y0 x1 y1 W H ≠ 0) :
    FnR Tryz.prog R 41 [.pointer (some ⟨pb, 0, none⟩), .pointer (some ⟨gb, 0, none⟩), rectV x0 y0 x1 y1] [pyrH pb W H F] fun r hs => r = .int .i64 (withinZ x0 y0 x1 y1 W H) ∧ hs = [pyrH pb W H F] := by
  refine FnR.unbox fun ⟨lb, d, b⟩ => ?_
  rw [List.append_nil]
  refine FnR.of_sat fun w hs => ?_
  obtain ⟨w1, w2, h1, h2⟩ := (hR w hs.rest).size
  clear hs
  have hl1 := levN_pos W H
  have hshut : ∀ h, sepL (pyrParts pb W H (levN W H) F (lb, d, b)) R h → sepL [pyrH pb W H F] R h := fun h s => boxH_shut (lb, d, b) (by rw [List.append_nil]; exact s)
  have hw0 := halfN_zero w1
  have hh0 := halfN_zero h1
  obtain ⟨q1, q2, q3⟩ := levV_at W H b hl1
  have hvb := fun (R' : HP) (hR' : ∀ w, Sat R' w → GridAt w gb W H g) => gValuesBad hR' hb
  generalize withinZ x0 y0 x1 y1 W H = Z at *
  generalize levN (W : Int) H = L at *
  refine fn_of_run0 false Tryz.func41 rfl hmix rfl fun w0 => ?_
  conv => whnf
  refine ⟨trivial, LoadAt.cell (.slice (some ⟨lb, 0, none⟩) L d) rfl rfl (fun w hw => (blk_sat (hw.in_ 0 rfl)).cell 0) ?_⟩
  conv => whnf
  refine ⟨⟨trivial, by omega⟩, LoadAt.agg [.int .i64 (halfN W 0 : Nat), .int .i64 (halfN H 0 : Nat), .slice (some ⟨b 0, 0, none⟩) (nK W H 0) (nK W H 0)] rfl rfl rfl (fun w hw j v hj => ?_) ?_⟩
  · have s := hw.in_ 1 rfl
    rcases j with _ | _ | _ | j
    · simp at hj; rw [← hj]; exact row_at s hl1 q1
    · simp at hj; rw [← hj]; exact row_at s hl1 q2
    · simp at hj; rw [← hj]; exact row_at s hl1 q3
    · simp at hj
  conv => whnf
  refine ⟨trivial, CallAt.pure (fun R' hR' => gSize_p fun w s => hR w (hR' w s).rest) ?_⟩
  conv => whnf
  refine ⟨fun _ => ?_, fun h => absurd h (by rw [hw0]; simp)⟩
  conv => whnf
  refine iff_f (by rw [hh0]; simp) ?_
  conv => whnf
  refine ⟨trivial, CallAt.pure (fun R' hR' => hvb R' fun w s => hR w (hR' w s).rest) ?_⟩
  conv => whnf
  refine iff_t (by simp [hb]) ?_
  conv => whnf
  exact ⟨trivial, .mk _ (fun w ⟨h, hs, s⟩ => ⟨h, hs, hshut h s⟩) ⟨rfl, rfl⟩⟩
theorem sRepairSize {R : HP} {pb gb W H W' H' : Nat} {g : Nat → Nat → Int} {F : Nat → Nat → Int × Int} {x0 y0 x1 y1 : Int} (hR : ∀ w, Sat R w → GridAt w gb W' H' g) (h1 : 1 ≤ W) (h2 : 1 ≤ H) (hne : W' ≠ W ∨ H' ≠ H) :
    FnR Tryz.prog R 41 [.pointer (some ⟨pb, 0, none⟩), .pointer (some ⟨gb, 0, none⟩), rectV x0 y0 x1 y1] [pyrH pb W H F] fun r hs => r = .int .i64 3 ∧ hs = [pyrH pb W H F] := by
  refine FnR.unbox fun ⟨lb, d, b⟩ => ?_
  rw [List.append_nil]
  have hl1 := levN_pos W H
  have hshut : ∀ h, sepL (pyrParts pb W H (levN W H) F (lb, d, b)) R h → sepL [pyrH pb W H F] R h := fun h s => boxH_shut (lb, d, b) (by rw [List.append_nil]; exact s)
  have hw0 := halfN_zero h1
  have hh0 := halfN_zero h2
  obtain ⟨q1, q2, q3⟩ := levV_at W H b hl1
  generalize levN (W : Int) H = L at *
  refine fn_of_run0 false Tryz.func41 rfl hmix rfl fun w0 => ?_
  conv => whnf
  refine ⟨trivial, LoadAt.cell (.slice (some ⟨lb, 0, none⟩) L d) rfl rfl (fun w hw => (blk_sat (hw.in_ 0 rfl)).cell 0) ?_⟩
  conv => whnf
  refine ⟨⟨trivial, by omega⟩, LoadAt.agg [.int .i64 (halfN W 0 : Nat), .int .i64 (halfN H 0 : Nat), .slice (some ⟨b 0, 0, none⟩) (nK W H 0) (nK W H 0)] rfl rfl rfl (fun w hw j v hj => ?_) ?_⟩
  · have s := hw.in_ 1 rfl
    rcases j with _ | _ | _ | j
    · simp at hj; rw [← hj]; exact row_at s hl1 q1
    · simp at hj; rw [← hj]; exact row_at s hl1 q2
    · simp at hj; rw [← hj]; exact row_at s hl1 q3
    · simp at hj
  conv => whnf
  refine ⟨trivial, CallAt.pure (fun R' hR' => gSize_p fun w s => hR w (hR' w s).rest) ?_⟩
  conv => whnf
  refine ⟨fun g1 => ?_, fun g1 => ?_⟩
  · conv => whnf
    rw [hw0] at g1
    refine iff_t (by rw [hh0]; simp at g1 ⊢; omega) ?_
    conv => whnf
    exact ⟨trivial, .mk _ (fun w ⟨h, hs, s⟩ => ⟨h, hs, hshut h s⟩) ⟨rfl, rfl⟩⟩
  · conv => whnf
    exact ⟨trivial, .mk _ (fun w ⟨h, hs, s⟩ => ⟨h, hs, hshut h s⟩) ⟨rfl, rfl⟩⟩

theorem sContainsBad {R : HP} {A : Option Addr} {n c : Nat} {l : List Int} (ha : Vs R A n l) (hn : n ≤ 4611686018427387904) (k0 : Nat) (hk0 : k0 < l.length) (hb : ¬ MayV l[k0]) (hlt : ∀ j (h : j < l.length), j < k0 → MayV l[j]) : PureR Tryz.prog R 78 [.slice A n c, .func (.func 79) #[] #[]] (.bool true) := by
  have hi : ∀ R', (∀ w, Sat R' w → Sat R w) → PureR Tryz.prog R' 98 [.slice A n c, .func (.func 79) #[] #[]] (.int .i64 (k0 : Int)) := by
    intro R' hR'
    refine PureR.of_sat fun w hs => ?_
    obtain ⟨h1, sa⟩ := (ha.mono hR').spot hs
    refine fn_of_run0 false Tryz.func98 rfl hmix rfl fun w0 => ?_
    conv => whnf
    refine ⟨trivial, LoopAt.keep (α := Nat) [0, 1, 7] (fun k => [(8, .v (.int .i64 (k : Int)))]) (fun k => k ≤ k0) (fun k => k0 - k) 0 (Nat.zero_le _) rfl ⟨⟨rfl, rfl⟩, trivial⟩ ⟨⟨rfl, rfl⟩, ⟨rfl, rfl⟩, ⟨rfl, rfl⟩, trivial⟩ trivial ?_⟩
    intro k hk
    conv => whnf
    refine iff_t (by simp; omega) ?_
    rcases sa with sa | ⟨b, off, rfl, sa⟩
    · omega
    conv => whnf
    refine ⟨⟨trivial, by omega⟩, LoadAt.cell (.int .i64 (l[k]'(by omega))) rfl rfl (fun w hw => sa w hw k (by omega)) ?_⟩
    conv => whnf
    refine ⟨trivial, CallAt.pure (fun R' hR' => sPaste1 _ R') ?_⟩
    conv => whnf
    by_cases e : k = k0
    · subst e
      refine iff_t (by simp [hb]) ?_
      conv => whnf
      exact ⟨trivial, fin_pure rfl rfl⟩
    · refine iff_f (by have := hlt k (by omega) (by omega); simp [this]) ?_
      conv => whnf
      exact ⟨⟨trivial, by unfold rng; omega⟩, Next.keep (k + 1) (by omega) (by omega) ⟨⟨rfl, rfl⟩, trivial⟩ ⟨⟨rfl, rfl⟩, ⟨rfl, rfl⟩, ⟨rfl, rfl⟩, trivial⟩ trivial rfl rfl rfl⟩
  refine fn_of_run0 false Tryz.func78 rfl hmix rfl fun w0 => ?_
  conv => whnf
  refine ⟨trivial, CallAt.pure (fun R' hR' => hi R' hR') ?_⟩
  conv => whnf
  exact ⟨trivial, fin_pure rfl (by simp [mkRes])⟩
theorem first_bad {l : List Int} (h : ¬ ∀ v ∈ l, MayV v) : ∃ k, ∃ hk : k < l.length, ¬ MayV l[k] ∧ ∀ j (h : j < l.length), j < k → MayV l[j] := by
  have : ∃ k, ∃ hk : k < l.length, ¬ MayV l[k] := by
    apply Classical.byContradiction
    intro c
    refine h fun v hv => ?_
    obtain ⟨k, hk, e⟩ := List.getElem_of_mem hv
    apply Classical.byContradiction
    intro d
    exact c ⟨k, hk, by rw [e]; exact d⟩
  obtain ⟨k, ⟨hk, hb⟩, hmin⟩ := least (fun k => ∃ hk : k < l.length, ¬ MayV l[k]) this
  refine ⟨k, hk, hb, fun j hj hlt => ?_⟩
  apply Classical.byContradiction
  intro d
  have := hmin j ⟨hj, d⟩
  omega

theorem sPasteAny {R : HP} {gb W H n c : Nat} {f : Nat → Nat → Int} {A : Option Addr} {l : List Int} {x0 y0 x1 y1 : Int} (ha : Vs R A n l) (hn : n ≤ 4611686018427387904) (hW : 1 ≤ W ∧ W ≤ 1024) (hH : 1 ≤ H ∧ H ≤ 1024) :
    FnR Tryz.prog R 46 [.pointer (some ⟨gb, 0, none⟩), rectV x0 y0 x1 y1, .slice A n c] [gridH gb W H f] fun r hs => ∃ e f', r = .int .i64 e ∧ hs = [gridH gb W H f'] ∧ ((e ≠ 0 ∧ f' = f) ∨ (e = 0 ∧ ∃ X0 Y0 X1 Y1 : Nat, x0 = X0 ∧ y0 = Y0 ∧ x1 = X1 ∧ y1 = Y1 ∧ X0 ≤ X1 ∧ Y0 ≤ Y1 ∧ X1 < W ∧ Y1 < H ∧ ∀ x y, ¬ (X0 ≤ x ∧ x ≤ X1 ∧ Y0 ≤ y ∧ y ≤ Y1) → f' x y = f x y)) := by
  by_cases hwi : withinZ x0 y0 x1 y1 W H = 0
  · obtain ⟨i1, i2, i3, i4, i5, i6⟩ := within_inv hwi
    obtain ⟨x0, rfl⟩ : ∃ X : Nat, x0 = X := ⟨x0.toNat, by omega⟩
    obtain ⟨y0, rfl⟩ : ∃ X : Nat, y0 = X := ⟨y0.toNat, by omega⟩
    obtain ⟨x1, rfl⟩ : ∃ X : Nat, x1 = X := ⟨x1.toNat, by omega⟩
    obtain ⟨y1, rfl⟩ : ∃ X : Nat, y1 = X := ⟨y1.toNat, by omega⟩
    by_cases hc : (x1 - x0 + 1) * (y1 - y0 + 1) = n
    · by_cases hm : ∀ v ∈ l, MayV v
      · refine (sPaste ha hm x0 y0 x1 y1 rfl rfl (by omega) (by omega) (by omega) (by omega) hW.2 hH.2 hc).post ?_
        rintro v hs ⟨rfl, rfl⟩
        refine ⟨_, ⟨0, _, rfl, rfl, .inr ⟨rfl, x0, y0, x1, y1, rfl, rfl, rfl, rfl, by omega, by omega, by omega, by omega, fun x y hxy => ?_⟩⟩, fun h s => s⟩
        unfold pasteK
        rw [if_neg]
        rintro ⟨c1, c2, c3, c4⟩
        refine hxy ⟨c1, by omega, c3, ?_⟩
        have h4 : (y - y0) * (x1 - x0 + 1) < (y1 - y0 + 1) * (x1 - x0 + 1) := by
          rw [Nat.mul_comm (y1 - y0 + 1), hc]; omega
        have := Nat.lt_of_mul_lt_mul_right h4
        omega
      · obtain ⟨k0, hk0, hb, hlt⟩ := first_bad hm
        refine fn_of_run0 false Tryz.func46 rfl hmix rfl fun w0 => ?_
        conv => whnf
        refine ⟨trivial, CallAt.fn (pre := []) [gridH gb W H f] (fun h s => s) (fun R' hR' => gValues_f (gridAt_rest 0 rfl hR') x0 y0 x1 y1 (by omega) (by omega) (by omega) (by omega)) ?_⟩
        rintro r hs ⟨B, d, rfl, rfl⟩
        conv => whnf
        refine iff_f (by decide) ?_
        conv => whnf
        refine ⟨trivial, CallAt.pure (fun R' hR' => sArea x0 y0 x1 y1 (by omega) (by omega) (by omega) (by omega) R') ?_⟩
        conv => whnf
        refine iff_f (by rw [hc]; simp) ?_
        conv => whnf
        refine ⟨trivial, CallAt.pure (fun R' hR' => sContainsBad (ha.mono fun w s => (hR' w s).rest) hn k0 hk0 hb hlt) ?_⟩
        conv => whnf
        refine iff_t rfl ?_
        conv => whnf
        exact ⟨trivial, .mk [gridH gb W H f] (fun w ⟨h, hs, s⟩ => by
          obtain ⟨h', e, s'⟩ := sub_tail s
          exact ⟨h', hs.mono e, s'⟩) ⟨7, f, rfl, rfl, .inl ⟨by decide, rfl⟩⟩⟩
    · refine fn_of_run0 false Tryz.func46 rfl hmix rfl fun w0 => ?_
      conv => whnf
      refine ⟨trivial, CallAt.fn (pre := []) [gridH gb W H f] (fun h s => s) (fun R' hR' => gValues_f (gridAt_rest 0 rfl hR') x0 y0 x1 y1 (by omega) (by omega) (by omega) (by omega)) ?_⟩
      rintro r hs ⟨B, d, rfl, rfl⟩
      conv => whnf
      refine iff_f (by decide) ?_
      conv => whnf
      refine ⟨trivial, CallAt.pure (fun R' hR' => sArea x0 y0 x1 y1 (by omega) (by omega) (by omega) (by omega) R') ?_⟩
      conv => whnf
      refine iff_t (by simp only [Bool.not_eq_true', decide_eq_false_iff_not]; exact fun e => hc (Int.ofNat.inj e).symm) ?_
      conv => whnf
      exact ⟨trivial, .mk [gridH gb W H f] (fun w ⟨h, hs, s⟩ => by
        obtain ⟨h', e, s'⟩ := sub_tail s
        exact ⟨h', hs.mono e, s'⟩) ⟨6, f, rfl, rfl, .inl ⟨by decide, rfl⟩⟩⟩
  · refine fn_of_run0 false Tryz.func46 rfl hmix rfl fun w0 => ?_
    conv => whnf
    refine ⟨trivial, CallAt.pure (fun R' hR' => gValuesBad (gridAt_rest 0 rfl hR') hwi) ?_⟩
    conv => whnf
    refine iff_t (by simp [hwi]) ?_
    conv => whnf
    exact ⟨trivial, .mk _ (fun w s => s) ⟨_, f, rfl, rfl, .inl ⟨hwi, rfl⟩⟩⟩
end Go.Proofs.YtjnglcjofajcnaaGreat

/-
  Step by step the same.
-/
namespace Go.Proofs.YtjnglcjofajcnaaGreat
open Go.RowKit
open Sy
set_option linter.unusedVariables false
set_option linter.unusedSimpArgs false
set_option maxRecDepth 100000
set_option maxHeartbeats 4000000

theorem gValAll2 {R : HP} {gb W H : Nat} {f : Nat → Nat → Int} (hR : ∀ w, Sat R w → GridAt w gb W H f) :
    FnR Tryz.prog R 39 [.pointer (some ⟨gb, 0, none⟩), rectV 0 0 ((W : Int) - 1) ((H : Int) - 1)] [] fun r hs => ∃ g c, r = .tuple #[.slice (some ⟨g, 0, none⟩) (W * H) c, .int .i64 0] ∧
      hs = [rowH (.slice (some ⟨g, 0, none⟩) (W * H) c) (W * H) 2 1 (ints (vRows f 0 W 0 H))] := by
  have hlen : (vRows f 0 W 0 H).length = W * H := by rw [vRows_len, Nat.mul_comm]
  intro w s
  obtain ⟨w1, w2, h1, h2⟩ := (hR w s).size
  refine (gValAll hR rfl w s).mono ?_
  rintro e w' ⟨r, hs, rfl, ⟨A, c, rfl, rfl⟩, s', hw⟩
  rw [hlen] at s'
  obtain ⟨g, rfl, _⟩ := rowH_at (Sat.left s') (Nat.mul_pos w1 h1)
  rw [hlen]
  exact ⟨_, _, rfl, ⟨g, c, rfl, rfl⟩, s', hw⟩
theorem lev_step {W H j : Nat} (hs : SizeOk (W : Int) (H : Int)) (h : j + 1 < levN W H) : SizeOk ((halfN W j : Nat) : Int) ((halfN H j : Nat) : Int) ∧ 1 < levN (halfN W j : Nat) (halfN H j : Nat) := by
  have hs' := hs
  unfold SizeOk at hs'
  obtain ⟨a1, a2⟩ := half_le (W := W) (k := j) (by omega)
  obtain ⟨b1, b2⟩ := half_le (W := H) (k := j) (by omega)
  have hz : SizeOk ((halfN W j : Nat) : Int) ((halfN H j : Nat) : Int) := ⟨by omega, by omega, by omega, by omega⟩
  refine ⟨hz, ?_⟩
  have h1 := (lev_lt hs j).1 h
  rw [halfZ_N W j (by omega), halfZ_N H j (by omega)] at h1
  refine (lev_lt hz 0).2 ?_
  rw [halfZ_zero, halfZ_zero]
  exact h1

end Go.Proofs.YtjnglcjofajcnaaGreat

/-
  Mended as built anew.
-/
namespace Go.Proofs.YtjnglcjofajcnaaGreat
open Go.RowKit
open Sy
set_option linter.unusedVariables false
set_option linter.unusedSimpArgs false
set_option maxRecDepth 100000
set_option maxHeartbeats 4000000

theorem gridH_to {gb W H : Nat} {f g : Nat → Nat → Int} (e : ∀ x y, x < W → y < H → f x y = g x y) : gridH gb W H f = gridH gb W H g := by
  funext h
  exact propext ⟨gridH_congr e, gridH_congr fun x y hx hy => (e x y hx hy).symm⟩
theorem pyrH_to {pb W H : Nat} {f g : Nat → Nat → Int} (hW : 1 ≤ W) (hH : 1 ≤ H) (e : ∀ x y, x < W → y < H → f x y = g x y) : pyrH pb W H (Pf W H f) = pyrH pb W H (Pf W H g) := by
  unfold pyrH
  congr 1
  funext x
  exact pyrParts_congr (fun k i _ hi => Pf_congr hW hH hi e) x
/-- a pyramid repaired anywhere by its own grid -/
theorem sRepairOwn {R : HP} {pb gb W H : Nat} {f : Nat → Nat → Int} {x0 y0 x1 y1 : Int} (hR : ∀ w, Sat R w → GridAt w gb W H f) (hW : 1 ≤ W) (hH : 1 ≤ H) :
    FnR Tryz.prog R 41 [.pointer (some ⟨pb, 0, none⟩), .pointer (some ⟨gb, 0, none⟩), rectV x0 y0 x1 y1] [pyrH pb W H (Pf W H f)] fun r hs => r = .int .i64 (withinZ x0 y0 x1 y1 W H) ∧ hs = [pyrH pb W H (Pf W H f)] := by
  by_cases hwi : withinZ x0 y0 x1 y1 W H = 0
  · obtain ⟨i1, i2, i3, i4, i5, i6⟩ := within_inv hwi
    obtain ⟨x0, rfl⟩ : ∃ X : Nat, x0 = X := ⟨x0.toNat, by omega⟩
    obtain ⟨y0, rfl⟩ : ∃ X : Nat, y0 = X := ⟨y0.toNat, by omega⟩
    obtain ⟨x1, rfl⟩ : ∃ X : Nat, x1 = X := ⟨x1.toNat, by omega⟩
    obtain ⟨y1, rfl⟩ : ∃ X : Nat, y1 = X := ⟨y1.toNat, by omega⟩
    have := sRepairP (pb := pb) (f := f) hR x0 y0 x1 y1 (by omega) (by omega) (by omega) (by omega)
    have e : mergeG x0 y0 x1 y1 f f = f := by funext x y; unfold mergeG; split <;> rfl
    rw [e] at this
    rw [hwi]
    exact this
  · exact sRepairBad hR hwi

end Go.Proofs.YtjnglcjofajcnaaGreat

