/-
  Texts of the proofs, one behind the other: PyrBuilds, PyrParts, PyrSameF, PyrMore, DownSteps, PyrRepairs.
-/
import Derived.Test.YtlplbgbnojibmaaGreatPartK
import Derived.Test.YtlplbgbnojibmaaGreatPartJ
/-
  The least and the greatest below.
-/
namespace Go.Proofs.YtlplbgbnojibmaaGreat
open Go.RowKit
open Sy
set_option linter.unusedVariables false
set_option linter.unusedSimpArgs false
set_option maxRecDepth 100000
set_option maxHeartbeats 4000000

end Go.Proofs.YtlplbgbnojibmaaGreat

/-
  Only what is told.
-/
namespace Go.Proofs.YtlplbgbnojibmaaGreat
open Go.RowKit
open Sy
set_option linter.unusedVariables false
set_option linter.unusedSimpArgs false
set_option maxRecDepth 100000
set_option maxHeartbeats 4000000

theorem within_inv {x0 y0 x1 y1 a b : Int} (h : withinZ x0 y0 x1 y1 a b = 0) : 0 ≤ x0 ∧ x0 ≤ x1 ∧ x1 < a ∧ 0 ≤ y0 ∧ y0 ≤ y1 ∧ y1 < b := by
  unfold withinZ InP at h
  split at h
  · omega
  · split at h
    · omega
    · split at h
      · omega
      · rename_i h2 h3
        have h2 := Classical.not_not.1 h2
        omega

def mergL (x0 y0 x1 y1 W : Nat) (u v : List Int) (k : Nat) : List Int := (List.range k).map fun j => if x0 ≤ j % W ∧ j % W ≤ x1 ∧ y0 ≤ j / W ∧ j / W ≤ y1 then u.getD j 0 else v.getD j 0
theorem mergL_len (x0 y0 x1 y1 W : Nat) (u v : List Int) (k : Nat) : (mergL x0 y0 x1 y1 W u v k).length = k := by simp [mergL]
theorem mergL_yes {x0 y0 x1 y1 W k : Nat} {u v : List Int} (h : x0 ≤ k % W ∧ k % W ≤ x1 ∧ y0 ≤ k / W ∧ k / W ≤ y1) : mergL x0 y0 x1 y1 W u v (k + 1) = mergL x0 y0 x1 y1 W u v k ++ [u.getD k 0] := by
  unfold mergL; rw [List.range_succ, List.map_append]; simp only [List.map_cons, List.map_nil, if_pos h]
theorem mergL_no {x0 y0 x1 y1 W k : Nat} {u v : List Int} (h : ¬ (x0 ≤ k % W ∧ k % W ≤ x1 ∧ y0 ≤ k / W ∧ k / W ≤ y1)) : mergL x0 y0 x1 y1 W u v (k + 1) = mergL x0 y0 x1 y1 W u v k ++ [v.getD k 0] := by
  unfold mergL; rw [List.range_succ, List.map_append]; simp only [List.map_cons, List.map_nil, if_neg h]
theorem mergL_gv {x0 y0 x1 y1 W H x y : Nat} {u v : List Int} (hx : x < W) (hy : y < H) : mergeG x0 y0 x1 y1 (gv W u) (gv W v) x y = gv W (mergL x0 y0 x1 y1 W u v (W * H)) x y := by
  have hi := idx_lt hx hy
  unfold mergeG gv
  rw [List.getD_eq_getElem?_getD (l := mergL x0 y0 x1 y1 W u v (W * H))]
  unfold mergL
  rw [List.getElem?_map, List.getElem?_range hi]
  simp only [Option.map_some, Option.getD_some]
  rw [(xy_mod hx).1, (xy_mod hx).2]

end Go.Proofs.YtlplbgbnojibmaaGreat

/-
  pyr.Same.
-/
namespace Go.Proofs.YtlplbgbnojibmaaGreat
open Go.RowKit
open Sy
set_option linter.unusedVariables false
set_option linter.unusedSimpArgs false
set_option maxRecDepth 100000
set_option maxHeartbeats 4000000

theorem RunQ.aggNe {G : Gl} {o : Oper} {st : St} {K : SV → Prop} {t ty : TypeId} {x y : Operand} {xs ys : Array Value} {r : Bool} (ho : o.op = .binOp .neq t x y ty) (hx : evR st x = .agg xs) (hy : evR st y = .agg ys) (hr : Sy.allR st o.op.operands.toList = true) (hg : G.P.eqGuardType G.P.depth t = false)
    (heq : ∀ w, (Op.equalIn 10000 t (.agg xs) (.agg ys)).run G.P w = .ok r w) (k : K (.v (.bool (!r)))) : RunQ G o st K := by
  refine .mk (.bool (!r)) (fun ρ a w m mm => ?_) k
  have hc : execOp a.eval o = execOp (evR st) o := execOp_congr o (fun cs b => notSel_spec (by rw [ho]; rfl) cs b) fun x hx => allR_sound m hr x (by simpa using hx)
  rw [hc]
  simp [execOp, ho, hx, hy, run_eqGuard_agg _ _ _ _ _ _ _ hg, binOp, Op.equal, Op.maxDepth, heq]

theorem sEqR {R : HP} {b b' n m e d : Nat} {c c' : Nat → Int × Int} {r : Bool} (hr : r = true ↔ (n = m ∧ ∀ i, i < n → c i = c' i)) (hn : n ≤ 4194304)
    (h1 : ∀ w, Sat R w → ∀ i, i < n → w.cell? ⟨b, i * 2, none⟩ = some (.int .i64 (c i).1) ∧ w.cell? ⟨b, i * 2 + 1, none⟩ = some (.int .i64 (c i).2)) (h2 : ∀ w, Sat R w → ∀ i, i < m → w.cell? ⟨b', i * 2, none⟩ = some (.int .i64 (c' i).1) ∧ w.cell? ⟨b', i * 2 + 1, none⟩ = some (.int .i64 (c' i).2)) :
    PureR Tryz.prog R 56 [.slice (some ⟨b, 0, none⟩) n e, .slice (some ⟨b', 0, none⟩) m d] (.bool r) := by
  refine fn_of_run0 false Tryz.func56 rfl hmix rfl fun w0 => ?_
  conv => whnf
  refine ⟨fun h3 => ?_, fun h3 => ?_⟩
  · conv => whnf
    refine ⟨trivial, fin_pure rfl ?_⟩
    have : r = false := Bool.eq_false_iff.2 fun h => by rw [(hr.1 h).1] at h3; simp at h3
    rw [this]; rfl
  have g3 : n = m := by simp at h3; omega
  subst g3
  conv => whnf
  refine ⟨trivial, LoopAt.keep (α := Nat) [0, 1, 12] (fun k => [(13, .v (.int .i64 (k : Int)))]) (fun k => k ≤ n ∧ ∀ j, j < k → c j = c' j) (fun k => n - k) 0 ⟨Nat.zero_le _, fun j h => absurd h (Nat.not_lt_zero _)⟩ rfl ⟨⟨rfl, rfl⟩, trivial⟩ ⟨⟨rfl, rfl⟩, ⟨rfl, rfl⟩, ⟨rfl, rfl⟩, trivial⟩ trivial ?_⟩
  rintro k ⟨hk, hj⟩
  conv => whnf
  refine ⟨fun h4 => ?_, fun h4 => ?_⟩
  · have g4 : k < n := by simpa using h4
    conv => whnf
    refine ⟨trivial, RegAt.quiet hmix (by kernel_rfl) ?_⟩
    conv => whnf
    refine ⟨⟨trivial, by omega⟩, LoadAt.agg [.int .i64 (c k).1, .int .i64 (c k).2] rfl rfl rfl (fun w hw j v hj => ?_) ?_⟩
    · obtain ⟨q1, q2⟩ := h1 w hw k g4
      rw [Int.toNat_natCast, Nat.zero_add]
      rcases j with _ | _ | j
      · simp at hj; rw [← hj]; exact q1
      · simp at hj; rw [← hj]; exact q2
      · simp at hj
    conv => whnf
    refine ⟨⟨trivial, by omega⟩, LoadAt.agg [.int .i64 (c' k).1, .int .i64 (c' k).2] rfl rfl rfl (fun w hw j v hj => ?_) ?_⟩
    · obtain ⟨q1, q2⟩ := h2 w hw k g4
      rw [Int.toNat_natCast, Nat.zero_add]
      rcases j with _ | _ | j
      · simp at hj; rw [← hj]; exact q1
      · simp at hj; rw [← hj]; exact q2
      · simp at hj
    conv => whnf
    refine ⟨trivial, RunQ.aggNe rfl rfl rfl rfl (by kernel_rfl) (fun w => rng_eq _ _ _ _ w) ?_⟩
    conv => whnf
    refine ⟨trivial, ?_⟩
    conv => whnf
    refine ⟨fun h5 => ?_, fun h5 => ?_⟩
    · conv => whnf
      refine ⟨trivial, fin_pure rfl ?_⟩
      have : r = false := Bool.eq_false_iff.2 fun h => by rw [(hr.1 h).2 k g4] at h5; simp at h5
      rw [this]; rfl
    · have g5 : c k = c' k := by simp at h5; exact Prod.ext h5.1 h5.2
      conv => whnf
      refine ⟨⟨trivial, by unfold rng; omega⟩, Next.keep (k + 1) ⟨by omega, fun j hj' => ?_⟩ (by omega) ⟨⟨rfl, rfl⟩, trivial⟩ ⟨⟨rfl, rfl⟩, ⟨rfl, rfl⟩, ⟨rfl, rfl⟩, trivial⟩ trivial rfl rfl rfl⟩
      rcases Nat.lt_or_ge j k with q | q
      · exact hj j q
      · rw [show j = k by omega]; exact g5
  · have g4 : k = n := by simp at h4; omega
    subst g4
    conv => whnf
    refine ⟨trivial, fin_pure rfl ?_⟩
    rw [hr.2 ⟨rfl, hj⟩]; rfl
theorem sSameL {R : HP} {b b' w h w' h' e d : Nat} {c c' : Nat → Int × Int} {r : Bool} (hr : r = true ↔ (w = w' ∧ h = h' ∧ ∀ i, i < w * h → c i = c' i)) (hn : w * h ≤ 4194304)
    (h1 : ∀ ww, Sat R ww → ∀ i, i < w * h → ww.cell? ⟨b, i * 2, none⟩ = some (.int .i64 (c i).1) ∧ ww.cell? ⟨b, i * 2 + 1, none⟩ = some (.int .i64 (c i).2)) (h2 : ∀ ww, Sat R ww → ∀ i, i < w' * h' → ww.cell? ⟨b', i * 2, none⟩ = some (.int .i64 (c' i).1) ∧ ww.cell? ⟨b', i * 2 + 1, none⟩ = some (.int .i64 (c' i).2)) :
    PureR Tryz.prog R 55 [.agg #[.int .i64 w, .int .i64 h, .slice (some ⟨b, 0, none⟩) (w * h) e], .agg #[.int .i64 w', .int .i64 h', .slice (some ⟨b', 0, none⟩) (w' * h') d]] (.bool r) := by
  have hE : ∀ (R' : HP), (∀ ww, Sat R' ww → Sat R ww) → w = w' → h = h' → PureR Tryz.prog R' 56 [.slice (some ⟨b, 0, none⟩) (w * h) e, .slice (some ⟨b', 0, none⟩) (w' * h') d] (.bool r) := fun R' hR' e1 e2 => by
    subst e1 e2
    exact sEqR (hr.trans ⟨fun q => ⟨rfl, q.2.2⟩, fun q => ⟨rfl, rfl, q.2⟩⟩) hn (fun ww s => h1 ww (hR' ww s)) (fun ww s => h2 ww (hR' ww s))
  have no : ¬ (w = w' ∧ h = h') → r = false := fun c => Bool.eq_false_iff.2 fun q => c ⟨(hr.1 q).1, (hr.1 q).2.1⟩
  generalize w * h = N at *
  generalize w' * h' = N' at *
  refine fn_of_run0 false Tryz.func55 rfl hmix rfl fun w0 => ?_
  conv => whnf
  refine ⟨fun g1 => ?_, fun g1 => ?_⟩
  · have e1 : w = w' := by simp at g1; omega
    conv => whnf
    refine ⟨fun g2 => ?_, fun g2 => ?_⟩
    · have e2 : h = h' := by simp at g2; omega
      conv => whnf
      refine ⟨trivial, CallAt.pure (fun R' hR' => hE R' hR' e1 e2) ?_⟩
      conv => whnf
      exact ⟨trivial, fin_pure rfl (by simp [mkRes])⟩
    · conv => whnf
      exact ⟨trivial, fin_pure rfl (by rw [no (by simp at g2; omega)]; rfl)⟩
  · conv => whnf
    exact ⟨trivial, fin_pure rfl (by rw [no (by simp at g1; omega)]; rfl)⟩
theorem sEqFuncL {R : HP} {pb pb' W H W' H' L L' : Nat} {F G : Nat → Nat → Int × Int} {lb lb' d d' : Nat} {b b' : Nat → Nat} {r : Bool} {e : Nat → Bool} (hr : r = true ↔ (L = L' ∧ ∀ k, k < L → e k = true)) (hL : L ≤ 11)
    (h1 : ∀ w, Sat R w → PyrOpen w pb W H L F lb d b) (h2 : ∀ w, Sat R w → PyrOpen w pb' W' H' L' G lb' d' b')
    (he : L = L' → ∀ k, k < L → ∀ R', (∀ w, Sat R' w → Sat R w) → PureR Tryz.prog R' 55 [.agg #[.int .i64 (halfN W k : Nat), .int .i64 (halfN H k : Nat), .slice (some ⟨b k, 0, none⟩) (nK W H k) (nK W H k)], .agg #[.int .i64 (halfN W' k : Nat), .int .i64 (halfN H' k : Nat), .slice (some ⟨b' k, 0, none⟩) (nK W' H' k) (nK W' H' k)]] (.bool (e k))) :
    PureR Tryz.prog R 54 [.slice (some ⟨lb, 0, none⟩) L d, .slice (some ⟨lb', 0, none⟩) L' d', .func (.func 55) #[] #[]] (.bool r) := by
  refine fn_of_run0 false Tryz.func54 rfl hmix rfl fun w0 => ?_
  conv => whnf
  refine ⟨fun h3 => ?_, fun h3 => ?_⟩
  · conv => whnf
    refine ⟨trivial, fin_pure rfl ?_⟩
    have : r = false := Bool.eq_false_iff.2 fun h => by rw [(hr.1 h).1] at h3; simp at h3
    rw [this]; rfl
  have g3 : L = L' := by simp at h3; omega
  subst g3
  have he := he rfl
  conv => whnf
  refine ⟨trivial, LoopAt.keep (α := Nat) [1, 2, 15, 16] (fun k => [(17, .v (.int .i64 (k : Int)))]) (fun k => k ≤ L ∧ ∀ j, j < k → e j = true) (fun k => L - k) 0 ⟨Nat.zero_le _, fun j h => absurd h (Nat.not_lt_zero _)⟩ rfl ⟨⟨rfl, rfl⟩, trivial⟩ ⟨⟨rfl, rfl⟩, ⟨rfl, rfl⟩, ⟨rfl, rfl⟩, ⟨rfl, rfl⟩, trivial⟩ trivial ?_⟩
  rintro k ⟨hk, hj⟩
  conv => whnf
  refine ⟨fun h4 => ?_, fun h4 => ?_⟩
  · have g4 : k < L := by simpa using h4
    have hek := he k g4
    conv => whnf
    refine ⟨⟨trivial, by omega⟩, LoadAt.agg [.int .i64 (halfN W k : Nat), .int .i64 (halfN H k : Nat), .slice (some ⟨b k, 0, none⟩) (nK W H k) (nK W H k)] rfl rfl rfl (fun w hw j v hj => ?_) ?_⟩
    · have hO := h1 w hw
      rw [Int.toNat_natCast, Nat.zero_add]
      rcases j with _ | _ | _ | j
      · simp at hj; rw [← hj]; exact hO.wid k g4
      · simp at hj; rw [← hj]; exact hO.hei k g4
      · simp at hj; rw [← hj]; exact hO.row k g4
      · simp at hj
    conv => whnf
    refine ⟨⟨trivial, by omega⟩, LoadAt.agg [.int .i64 (halfN W' k : Nat), .int .i64 (halfN H' k : Nat), .slice (some ⟨b' k, 0, none⟩) (nK W' H' k) (nK W' H' k)] rfl rfl rfl (fun w hw j v hj => ?_) ?_⟩
    · have hO := h2 w hw
      rw [Int.toNat_natCast, Nat.zero_add]
      rcases j with _ | _ | _ | j
      · simp at hj; rw [← hj]; exact hO.wid k g4
      · simp at hj; rw [← hj]; exact hO.hei k g4
      · simp at hj; rw [← hj]; exact hO.row k g4
      · simp at hj
    conv => whnf
    refine ⟨trivial, CallAt.pure (fun R' hR' => hek R' hR') ?_⟩
    conv => whnf
    refine ⟨fun h5 => ?_, fun h5 => ?_⟩
    · conv => whnf
      refine ⟨trivial, fin_pure rfl ?_⟩
      have : r = false := Bool.eq_false_iff.2 fun h => by rw [(hr.1 h).2 k g4] at h5; simp at h5
      rw [this]; rfl
    · have g5 : e k = true := by simpa using h5
      conv => whnf
      refine ⟨⟨trivial, by unfold rng; omega⟩, Next.keep (k + 1) ⟨by omega, fun j hj' => ?_⟩ (by omega) ⟨⟨rfl, rfl⟩, trivial⟩ ⟨⟨rfl, rfl⟩, ⟨rfl, rfl⟩, ⟨rfl, rfl⟩, ⟨rfl, rfl⟩, trivial⟩ trivial rfl rfl rfl⟩
      rcases Nat.lt_or_ge j k with q | q
      · exact hj j q
      · rw [show j = k by omega]; exact g5
  · have g4 : k = L := by simp at h4; omega
    subst g4
    conv => whnf
    refine ⟨trivial, fin_pure rfl ?_⟩
    rw [hr.2 ⟨rfl, hj⟩]; rfl
theorem sPSame {R : HP} {p q W H W' H' : Nat} {f g : Nat → Nat → Int} {r : Bool} (hr : r = true ↔ (W = W' ∧ H = H' ∧ ∀ x y, x < W → y < H → f x y = g x y)) (hW : 1 ≤ W ∧ W ≤ 1024) (hH : 1 ≤ H ∧ H ≤ 1024) (hW' : 1 ≤ W' ∧ W' ≤ 1024) (hH' : 1 ≤ H' ∧ H' ≤ 1024) (h1 : ∀ w, Sat R w → Sat (pyrH p W H (Pf W H f)) w) (h2 : ∀ w, Sat R w → Sat (pyrH q W' H' (Pf W' H' g)) w) :
    PureR Tryz.prog R 23 [.pointer (some ⟨p, 0, none⟩), .pointer (some ⟨q, 0, none⟩)] (.bool r) := by
  classical
  refine PureR.fix fun w hs => ?_
  have hsz : SizeOk (W : Int) (H : Int) := ⟨by omega, by omega, by omega, by omega⟩
  have hl11 := levN_le hsz
  obtain ⟨lb, d, b, hO⟩ := pyr_open (h1 w hs) (levN_pos W H)
  obtain ⟨lb', d', b', hO'⟩ := pyr_open (h2 w hs) (levN_pos W' H')
  have hE : ∀ R', (∀ w', Sat R' w' → Sat (was w) w') → PureR Tryz.prog R' 54 [.slice (some ⟨lb, 0, none⟩) (levN W H) d, .slice (some ⟨lb', 0, none⟩) (levN W' H') d', .func (.func 55) #[] #[]] (.bool r) := fun R' hR' => by
    refine sEqFuncL (pb := p) (pb' := q) (F := Pf W H f) (G := Pf W' H' g) (e := fun k => decide (halfN W k = halfN W' k ∧ halfN H k = halfN H' k ∧ ∀ i, i < nK W H k → Pf W H f k i = Pf W' H' g k i)) ?_ hl11 (fun w' s => hO.up (hR' w' s)) (fun w' s => hO'.up (hR' w' s)) (fun eL k hk R2 hR2 => ?_)
    · rw [hr]
      constructor
      · rintro ⟨rfl, rfl, h⟩
        exact ⟨rfl, fun k hk => decide_eq_true ⟨rfl, rfl, fun i hi => Pf_congr hW.1 hH.1 hi h⟩⟩
      · rintro ⟨eL, h⟩
        obtain ⟨e1, e2, e3⟩ := of_decide_eq_true (h 0 (levN_pos W H))
        rw [halfN_zero hW.1, halfN_zero hW'.1] at e1
        rw [halfN_zero hH.1, halfN_zero hH'.1] at e2
        subst e1 e2
        refine ⟨rfl, rfl, fun x y hx hy => ?_⟩
        have hx0 : x < halfN W 0 := by rw [halfN_zero hW.1]; exact hx
        have hy0 : y < halfN H 0 := by rw [halfN_zero hH.1]; exact hy
        have := e3 (y * halfN W 0 + x) (idx_lt hx0 hy0)
        unfold Pf at this
        rw [(xy_mod hx0).1, (xy_mod hx0).2, lv_zero (fun v => rfl) hx hy, lv_zero (fun v => rfl) hx hy, lv_zero (fun v => rfl) hx hy, lv_zero (fun v => rfl) hx hy] at this
        exact (Prod.ext_iff.1 this).1
    · obtain ⟨_, s1⟩ := half_le (W := W) (k := k) hW.1
      obtain ⟨_, s2⟩ := half_le (W := H) (k := k) hH.1
      exact sSameL (c := Pf W H f k) (c' := Pf W' H' g k) ⟨fun q => of_decide_eq_true q, fun q => decide_eq_true q⟩ (Nat.le_trans (Nat.mul_le_mul (show halfN W k ≤ 1024 by omega) (show halfN H k ≤ 1024 by omega)) (by decide)) (fun w' s i hi => (hO.up (hR' w' (hR2 w' s))).cel k i hk hi) (fun w' s i hi => (hO'.up (hR' w' (hR2 w' s))).cel k i (by omega) hi)
  have c0 := fun w' s => (hO.up (w' := w') s).head
  have c1 := fun w' s => (hO'.up (w' := w') s).head
  clear hO hO'
  generalize levN (W : Int) H = L at *
  generalize levN (W' : Int) H' = L' at *
  refine fn_of_run0 false Tryz.func23 rfl hmix rfl fun w0 => ?_
  conv => whnf
  refine ⟨trivial, RegAt.quiet hmix (by kernel_rfl) ?_⟩
  conv => whnf
  refine ⟨trivial, LoadAt.cell (.slice (some ⟨lb, 0, none⟩) L d) rfl rfl (fun w hw => c0 w hw) ?_⟩
  conv => whnf
  refine ⟨trivial, LoadAt.cell (.slice (some ⟨lb', 0, none⟩) L' d') rfl rfl (fun w hw => c1 w hw) ?_⟩
  conv => whnf
  refine ⟨trivial, CallQ.pure (fun R' hR' => hE R' hR') ?_⟩
  conv => whnf
  refine ⟨trivial, ?_⟩
  conv => whnf
  exact ⟨trivial, fin_pure rfl rfl⟩
end Go.Proofs.YtlplbgbnojibmaaGreat

/-
  What is refused: (*Grid).Values, (*Pyr).Repair, paint.Paste.
-/
namespace Go.Proofs.YtlplbgbnojibmaaGreat
open Go.RowKit
open Sy
set_option linter.unusedVariables false
set_option linter.unusedSimpArgs false
set_option maxRecDepth 100000
set_option maxHeartbeats 4000000

theorem gCheckP {R : HP} {gb W H : Nat} {f : Nat → Nat → Int} {x0 y0 x1 y1 : Int} (hR : ∀ w, Sat R w → GridAt w gb W H f) : PureR Tryz.prog R 40 [.pointer (some ⟨gb, 0, none⟩), rectV x0 y0 x1 y1] (.int .i64 (withinZ x0 y0 x1 y1 W H)) := PureR.of_below fun w s => by
  obtain ⟨sb, c, p, q, hO⟩ := hR w s
  have w1 := hO.w1; have w2 := hO.w2; have h1 := hO.h1; have h2 := hO.h2
  exact gcheck_any gb W H _ _ x0 y0 x1 y1 w hO.head (by omega) (by omega) (by omega) (by omega)
theorem gValuesBad {R : HP} {gb W H : Nat} {f : Nat → Nat → Int} {x0 y0 x1 y1 : Int} (hR : ∀ w, Sat R w → GridAt w gb W H f) (hb : withinZ x0 y0 x1 y1 W H ≠ 0) : PureR Tryz.prog R 45 [.pointer (some ⟨gb, 0, none⟩), rectV x0 y0 x1 y1] (.tuple #[.slice none 0 0, .int .i64 (withinZ x0 y0 x1 y1 W H)]) := by
  refine fn_of_run0 false Tryz.func45 rfl hmix rfl fun w0 => ?_
  conv => whnf
  refine ⟨trivial, CallAt.pure (fun R' hR' => gCheckP fun w s => hR w (hR' w s)) ?_⟩
  conv => whnf
  refine iff_t (by simp [hb]) ?_
  conv => whnf
  exact ⟨trivial, fin_pure rfl rfl⟩
theorem sRepairBad {R : HP} {pb gb W H : Nat} {g : Nat → Nat → Int} {F : Nat → Nat → Int × Int} {x0 y0 x1 y1 : Int} (hR : ∀ w, Sat R w → GridAt w gb W H g) (hb : withinZ x0 y0 x1 y1 W H ≠ 0) :
    FnR Tryz.prog R 47 [.pointer (some ⟨pb, 0, none⟩), .pointer (some ⟨gb, 0, none⟩), rectV x0 y0 x1 y1] [pyrH pb W H F] fun r hs => r = .int .i64 (withinZ x0 y0 x1 y1 W H) ∧ hs = [pyrH pb W H F] := by
  refine FnR.unbox fun ⟨lb, d, b⟩ => ?_
  rw [List.append_nil]
  refine FnR.of_sat fun w hs => ?_
  obtain ⟨w1, w2, h1, h2⟩ := (hR w hs.rest).size
  clear hs
  have hl1 := levN_pos W H
  have hshut : ∀ h, sepL (pyrParts pb W H (levN W H) F (lb, d, b)) R h → sepL [pyrH pb W H F] R h := fun h s => boxH_shut (lb, d, b) (by rw [List.append_nil]; exact s)
  have hw0 := halfN_zero w1
  have hh0 := halfN_zero h1
  obtain ⟨q1, q2, q3⟩ := levV_at W H b hl1
  have hvb := fun (R' : HP) (hR' : ∀ w, Sat R' w → GridAt w gb W H g) => gValuesBad hR' hb
  generalize withinZ x0 y0 x1 y1 W H = Z at *
  generalize levN (W : Int) H = L at *
  refine fn_of_run0 false Tryz.func47 rfl hmix rfl fun w0 => ?_
  conv => whnf
  refine ⟨trivial, LoadAt.cell (.slice (some ⟨lb, 0, none⟩) L d) rfl rfl (fun w hw => (blk_sat (hw.in_ 0 rfl)).cell 0) ?_⟩
  conv => whnf
  refine ⟨⟨trivial, by omega⟩, LoadAt.agg [.int .i64 (halfN W 0 : Nat), .int .i64 (halfN H 0 : Nat), .slice (some ⟨b 0, 0, none⟩) (nK W H 0) (nK W H 0)] rfl rfl rfl (fun w hw j v hj => ?_) ?_⟩
  · have s := hw.in_ 1 rfl
    rcases j with _ | _ | _ | j
    · simp at hj; rw [← hj]; exact row_at s hl1 q1
    · simp at hj; rw [← hj]; exact row_at s hl1 q2
    · simp at hj; rw [← hj]; exact row_at s hl1 q3
    · simp at hj
  conv => whnf
  refine ⟨trivial, CallAt.pure (fun R' hR' => gSize_p fun w s => hR w (hR' w s).rest) ?_⟩
  conv => whnf
  refine ⟨fun _ => ?_, fun h => absurd h (by rw [hw0]; simp)⟩
  conv => whnf
  refine iff_f (by rw [hh0]; simp) ?_
  conv => whnf
  refine ⟨trivial, CallAt.pure (fun R' hR' => hvb R' fun w s => hR w (hR' w s).rest) ?_⟩
  conv => whnf
  refine iff_t (by simp [hb]) ?_
  conv => whnf
  exact ⟨trivial, .mk _ (fun w ⟨h, hs, s⟩ => ⟨h, hs, hshut h s⟩) ⟨rfl, rfl⟩⟩
theorem sRepairSize {R : HP} {pb gb W H W' H' : Nat} {g : Nat → Nat → Int} {F : Nat → Nat → Int × Int} {x0 y0 x1 y1 : Int} (hR : ∀ w, Sat R w → GridAt w gb W' H' g) (h1 : 1 ≤ W) (h2 : 1 ≤ H) (hne : W' ≠ W ∨ H' ≠ H) :
    FnR Tryz.prog R 47 [.pointer (some ⟨pb, 0, none⟩), .pointer (some ⟨gb, 0, none⟩), rectV x0 y0 x1 y1] [pyrH pb W H F] fun r hs => r = .int .i64 3 ∧ hs = [pyrH pb W H F] := by
  refine FnR.unbox fun ⟨lb, d, b⟩ => ?_
  rw [List.append_nil]
  have hl1 := levN_pos W H
  have hshut : ∀ h, sepL (pyrParts pb W H (levN W H) F (lb, d, b)) R h → sepL [pyrH pb W H F] R h := fun h s => boxH_shut (lb, d, b) (by rw [List.append_nil]; exact s)
  have hw0 := halfN_zero h1
  have hh0 := halfN_zero h2
  obtain ⟨q1, q2, q3⟩ := levV_at W H b hl1
  generalize levN (W : Int) H = L at *
  refine fn_of_run0 false Tryz.func47 rfl hmix rfl fun w0 => ?_
  conv => whnf
  refine ⟨trivial, LoadAt.cell (.slice (some ⟨lb, 0, none⟩) L d) rfl rfl (fun w hw => (blk_sat (hw.in_ 0 rfl)).cell 0) ?_⟩
  conv => whnf
  refine ⟨⟨trivial, by omega⟩, LoadAt.agg [.int .i64 (halfN W 0 : Nat), .int .i64 (halfN H 0 : Nat), .slice (some ⟨b 0, 0, none⟩) (nK W H 0) (nK W H 0)] rfl rfl rfl (fun w hw j v hj => ?_) ?_⟩
  · have s := hw.in_ 1 rfl
    rcases j with _ | _ | _ | j
    · simp at hj; rw [← hj]; exact row_at s hl1 q1
    · simp at hj; rw [← hj]; exact row_at s hl1 q2
    · simp at hj; rw [← hj]; exact row_at s hl1 q3
    · simp at hj
  conv => whnf
  refine ⟨trivial, CallAt.pure (fun R' hR' => gSize_p fun w s => hR w (hR' w s).rest) ?_⟩
  conv => whnf
  refine ⟨fun g1 => ?_, fun g1 => ?_⟩
  · conv => whnf
    rw [hw0] at g1
    refine iff_t (by rw [hh0]; simp at g1 ⊢; omega) ?_
    conv => whnf
    exact ⟨trivial, .mk _ (fun w ⟨h, hs, s⟩ => ⟨h, hs, hshut h s⟩) ⟨rfl, rfl⟩⟩
  · conv => whnf
    exact ⟨trivial, .mk _ (fun w ⟨h, hs, s⟩ => ⟨h, hs, hshut h s⟩) ⟨rfl, rfl⟩⟩

theorem sContainsBad {R : HP} {A : Option Addr} {n c : Nat} {l : List Int} (ha : Vs R A n l) (hn : n ≤ 4611686018427387904) (k0 : Nat) (hk0 : k0 < l.length) (hb : ¬ MayV l[k0]) (hlt : ∀ j (h : j < l.length), j < k0 → MayV l[j]) : PureR Tryz.prog R 89 [.slice A n c, .func (.func 90) #[] #[]] (.bool true) := by
  have hi : ∀ R', (∀ w, Sat R' w → Sat R w) → PureR Tryz.prog R' 107 [.slice A n c, .func (.func 90) #[] #[]] (.int .i64 (k0 : Int)) := by
    intro R' hR'
    refine PureR.of_sat fun w hs => ?_
    obtain ⟨h1, sa⟩ := (ha.mono hR').spot hs
    refine fn_of_run0 false Tryz.func107 rfl hmix rfl fun w0 => ?_
    conv => whnf
    refine ⟨trivial, LoopAt.keep (α := Nat) [0, 1, 7] (fun k => [(8, .v (.int .i64 (k : Int)))]) (fun k => k ≤ k0) (fun k => k0 - k) 0 (Nat.zero_le _) rfl ⟨⟨rfl, rfl⟩, trivial⟩ ⟨⟨rfl, rfl⟩, ⟨rfl, rfl⟩, ⟨rfl, rfl⟩, trivial⟩ trivial ?_⟩
    intro k hk
    conv => whnf
    refine iff_t (by simp; omega) ?_
    rcases sa with sa | ⟨b, off, rfl, sa⟩
    · omega
    conv => whnf
    refine ⟨⟨trivial, by omega⟩, LoadAt.cell (.int .i64 (l[k]'(by omega))) rfl rfl (fun w hw => sa w hw k (by omega)) ?_⟩
    conv => whnf
    refine ⟨trivial, CallAt.pure (fun R' hR' => sPaste1 _ R') ?_⟩
    conv => whnf
    by_cases e : k = k0
    · subst e
      refine iff_t (by simp [hb]) ?_
      conv => whnf
      exact ⟨trivial, fin_pure rfl rfl⟩
    · refine iff_f (by have := hlt k (by omega) (by omega); simp [this]) ?_
      conv => whnf
      exact ⟨⟨trivial, by unfold rng; omega⟩, Next.keep (k + 1) (by omega) (by omega) ⟨⟨rfl, rfl⟩, trivial⟩ ⟨⟨rfl, rfl⟩, ⟨rfl, rfl⟩, ⟨rfl, rfl⟩, trivial⟩ trivial rfl rfl rfl⟩
  refine fn_of_run0 false Tryz.func89 rfl hmix rfl fun w0 => ?_
  conv => whnf
  refine ⟨trivial, CallAt.pure (fun R' hR' => hi R' hR') ?_⟩
  conv => whnf
  exact ⟨trivial, fin_pure rfl (by simp [mkRes])⟩
theorem first_bad {l : List Int} (h : ¬ ∀ v ∈ l, MayV v) : ∃ k, ∃ hk : k < l.length, ¬ MayV l[k] ∧ ∀ j (h : j < l.length), j < k → MayV l[j] := by
  have : ∃ k, ∃ hk : k < l.length, ¬ MayV l[k] := by
    apply Classical.byContradiction
    intro c
    refine h fun v hv => ?_
    obtain ⟨k, hk, e⟩ := List.getElem_of_mem hv
    apply Classical.byContradiction
    intro d
    exact c ⟨k, hk, by rw [e]; exact d⟩
  obtain ⟨k, ⟨hk, hb⟩, hmin⟩ := least (fun k => ∃ hk : k < l.length, ¬ MayV l[k]) this
  refine ⟨k, hk, hb, fun j hj hlt => ?_⟩
  apply Classical.byContradiction
  intro d
  have := hmin j ⟨hj, d⟩
  omega

theorem sPasteAny {R : HP} {gb W H n c : Nat} {f : Nat → Nat → Int} {A : Option Addr} {l : List Int} {x0 y0 x1 y1 : Int} (ha : Vs R A n l) (hn : n ≤ 4611686018427387904) (hW : 1 ≤ W ∧ W ≤ 1024) (hH : 1 ≤ H ∧ H ≤ 1024) :
    FnR Tryz.prog R 57 [.pointer (some ⟨gb, 0, none⟩), rectV x0 y0 x1 y1, .slice A n c] [gridH gb W H f] fun r hs => ∃ e f', r = .int .i64 e ∧ hs = [gridH gb W H f'] ∧ ((e ≠ 0 ∧ f' = f) ∨ (e = 0 ∧ ∃ X0 Y0 X1 Y1 : Nat, x0 = X0 ∧ y0 = Y0 ∧ x1 = X1 ∧ y1 = Y1 ∧ X0 ≤ X1 ∧ Y0 ≤ Y1 ∧ X1 < W ∧ Y1 < H ∧ ∀ x y, ¬ (X0 ≤ x ∧ x ≤ X1 ∧ Y0 ≤ y ∧ y ≤ Y1) → f' x y = f x y)) := by
  by_cases hwi : withinZ x0 y0 x1 y1 W H = 0
  · obtain ⟨i1, i2, i3, i4, i5, i6⟩ := within_inv hwi
    obtain ⟨x0, rfl⟩ : ∃ X : Nat, x0 = X := ⟨x0.toNat, by omega⟩
    obtain ⟨y0, rfl⟩ : ∃ X : Nat, y0 = X := ⟨y0.toNat, by omega⟩
    obtain ⟨x1, rfl⟩ : ∃ X : Nat, x1 = X := ⟨x1.toNat, by omega⟩
    obtain ⟨y1, rfl⟩ : ∃ X : Nat, y1 = X := ⟨y1.toNat, by omega⟩
    by_cases hc : (x1 - x0 + 1) * (y1 - y0 + 1) = n
    · by_cases hm : ∀ v ∈ l, MayV v
      · refine (sPaste ha hm x0 y0 x1 y1 rfl rfl (by omega) (by omega) (by omega) (by omega) hW.2 hH.2 hc).post ?_
        rintro v hs ⟨rfl, rfl⟩
        refine ⟨_, ⟨0, _, rfl, rfl, .inr ⟨rfl, x0, y0, x1, y1, rfl, rfl, rfl, rfl, by omega, by omega, by omega, by omega, fun x y hxy => ?_⟩⟩, fun h s => s⟩
        unfold pasteK
        rw [if_neg]
        rintro ⟨c1, c2, c3, c4⟩
        refine hxy ⟨c1, by omega, c3, ?_⟩
        have h4 : (y - y0) * (x1 - x0 + 1) < (y1 - y0 + 1) * (x1 - x0 + 1) := by
          rw [Nat.mul_comm (y1 - y0 + 1), hc]; omega
        have := Nat.lt_of_mul_lt_mul_right h4
        omega
      · obtain ⟨k0, hk0, hb, hlt⟩ := first_bad hm
        refine fn_of_run0 false Tryz.func57 rfl hmix rfl fun w0 => ?_
        conv => whnf
        refine ⟨trivial, CallAt.fn (pre := []) [gridH gb W H f] (fun h s => s) (fun R' hR' => gValues_f (gridAt_rest 0 rfl hR') x0 y0 x1 y1 (by omega) (by omega) (by omega) (by omega)) ?_⟩
        rintro r hs ⟨B, d, rfl, rfl⟩
        conv => whnf
        refine iff_f (by decide) ?_
        conv => whnf
        refine ⟨trivial, CallAt.pure (fun R' hR' => sArea x0 y0 x1 y1 (by omega) (by omega) (by omega) (by omega) R') ?_⟩
        conv => whnf
        refine iff_f (by rw [hc]; simp) ?_
        conv => whnf
        refine ⟨trivial, CallAt.pure (fun R' hR' => sContainsBad (ha.mono fun w s => (hR' w s).rest) hn k0 hk0 hb hlt) ?_⟩
        conv => whnf
        refine iff_t rfl ?_
        conv => whnf
        exact ⟨trivial, .mk [gridH gb W H f] (fun w ⟨h, hs, s⟩ => by
          obtain ⟨h', e, s'⟩ := sub_tail s
          exact ⟨h', hs.mono e, s'⟩) ⟨7, f, rfl, rfl, .inl ⟨by decide, rfl⟩⟩⟩
    · refine fn_of_run0 false Tryz.func57 rfl hmix rfl fun w0 => ?_
      conv => whnf
      refine ⟨trivial, CallAt.fn (pre := []) [gridH gb W H f] (fun h s => s) (fun R' hR' => gValues_f (gridAt_rest 0 rfl hR') x0 y0 x1 y1 (by omega) (by omega) (by omega) (by omega)) ?_⟩
      rintro r hs ⟨B, d, rfl, rfl⟩
      conv => whnf
      refine iff_f (by decide) ?_
      conv => whnf
      refine ⟨trivial, CallAt.pure (fun R' hR' => sArea x0 y0 x1 y1 (by omega) (by omega) (by omega) (by omega) R') ?_⟩
      conv => whnf
      refine iff_t (by simp only [Bool.not_eq_true', decide_eq_false_iff_not]; exact fun e => hc (Int.ofNat.inj e).symm) ?_
      conv => whnf
      exact ⟨trivial, .mk [gridH gb W H f] (fun w ⟨h, hs, s⟩ => by
        obtain ⟨h', e, s'⟩ := sub_tail s
        exact ⟨h', hs.mono e, s'⟩) ⟨6, f, rfl, rfl, .inl ⟨by decide, rfl⟩⟩⟩
  · refine fn_of_run0 false Tryz.func57 rfl hmix rfl fun w0 => ?_
    conv => whnf
    refine ⟨trivial, CallAt.pure (fun R' hR' => gValuesBad (gridAt_rest 0 rfl hR') hwi) ?_⟩
    conv => whnf
    refine iff_t (by simp [hwi]) ?_
    conv => whnf
    exact ⟨trivial, .mk _ (fun w s => s) ⟨_, f, rfl, rfl, .inl ⟨hwi, rfl⟩⟩⟩
end Go.Proofs.YtlplbgbnojibmaaGreat

/-
  Step by step the same.
-/
namespace Go.Proofs.YtlplbgbnojibmaaGreat
open Go.RowKit
open Sy
set_option linter.unusedVariables false
set_option linter.unusedSimpArgs false
set_option maxRecDepth 100000
set_option maxHeartbeats 4000000

theorem gValAll2 {R : HP} {gb W H : Nat} {f : Nat → Nat → Int} (hR : ∀ w, Sat R w → GridAt w gb W H f) :
    FnR Tryz.prog R 45 [.pointer (some ⟨gb, 0, none⟩), rectV 0 0 ((W : Int) - 1) ((H : Int) - 1)] [] fun r hs => ∃ g c, r = .tuple #[.slice (some ⟨g, 0, none⟩) (W * H) c, .int .i64 0] ∧
      hs = [rowH (.slice (some ⟨g, 0, none⟩) (W * H) c) (W * H) 2 1 (ints (vRows f 0 W 0 H))] := by
  have hlen : (vRows f 0 W 0 H).length = W * H := by rw [vRows_len, Nat.mul_comm]
  intro w s
  obtain ⟨w1, w2, h1, h2⟩ := (hR w s).size
  refine (gValAll hR rfl w s).mono ?_
  rintro e w' ⟨r, hs, rfl, ⟨A, c, rfl, rfl⟩, s', hw⟩
  rw [hlen] at s'
  obtain ⟨g, rfl, _⟩ := rowH_at (Sat.left s') (Nat.mul_pos w1 h1)
  rw [hlen]
  exact ⟨_, _, rfl, ⟨g, c, rfl, rfl⟩, s', hw⟩
theorem lev_step {W H j : Nat} (hs : SizeOk (W : Int) (H : Int)) (h : j + 1 < levN W H) : SizeOk ((halfN W j : Nat) : Int) ((halfN H j : Nat) : Int) ∧ 1 < levN (halfN W j : Nat) (halfN H j : Nat) := by
  have hs' := hs
  unfold SizeOk at hs'
  obtain ⟨a1, a2⟩ := half_le (W := W) (k := j) (by omega)
  obtain ⟨b1, b2⟩ := half_le (W := H) (k := j) (by omega)
  have hz : SizeOk ((halfN W j : Nat) : Int) ((halfN H j : Nat) : Int) := ⟨by omega, by omega, by omega, by omega⟩
  refine ⟨hz, ?_⟩
  have h1 := (lev_lt hs j).1 h
  rw [halfZ_N W j (by omega), halfZ_N H j (by omega)] at h1
  refine (lev_lt hz 0).2 ?_
  rw [halfZ_zero, halfZ_zero]
  exact h1

end Go.Proofs.YtlplbgbnojibmaaGreat

/-
  Mended as built anew.
-/
namespace Go.Proofs.YtlplbgbnojibmaaGreat
open Go.RowKit
open Sy
set_option linter.unusedVariables false
set_option linter.unusedSimpArgs false
set_option maxRecDepth 100000
set_option maxHeartbeats 4000000

theorem gridH_to {gb W H : Nat} {f g : Nat → Nat → Int} (e : ∀ x y, x < W → y < H → f x y = g x y) : gridH gb W H f = gridH gb W H g := by
  funext h
  exact propext ⟨gridH_congr e, gridH_congr fun x y hx hy => (e x y hx hy).symm⟩
theorem pyrH_to {pb W H : Nat} {f g : Nat → Nat → Int} (hW : 1 ≤ W) (hH : 1 ≤ H) (e : ∀ x y, x < W → y < H → f x y = g x y) : pyrH pb W H (Pf W H f) = pyrH pb W H (Pf W H g) := by
  unfold pyrH
  congr 1
  funext x
  exact pyrParts_congr (fun k i _ hi => Pf_congr hW hH hi e) x
/-- a pyramid repaired anywhere by its own grid -/
theorem sRepairOwn {R : HP} {pb gb W H : Nat} {f : Nat → Nat → Int} {x0 y0 x1 y1 : Int} (hR : ∀ w, Sat R w → GridAt w gb W H f) (hW : 1 ≤ W) (hH : 1 ≤ H) :
    FnR Tryz.prog R 47 [.pointer (some ⟨pb, 0, none⟩), .pointer (some ⟨gb, 0, none⟩), rectV x0 y0 x1 y1] [pyrH pb W H (Pf W H f)] fun r hs => r = .int .i64 (withinZ x0 y0 x1 y1 W H) ∧ hs = [pyrH pb W H (Pf W H f)] := by
  by_cases hwi : withinZ x0 y0 x1 y1 W H = 0
  · obtain ⟨i1, i2, i3, i4, i5, i6⟩ := within_inv hwi
    obtain ⟨x0, rfl⟩ : ∃ X : Nat, x0 = X := ⟨x0.toNat, by omega⟩
    obtain ⟨y0, rfl⟩ : ∃ X : Nat, y0 = X := ⟨y0.toNat, by omega⟩
    obtain ⟨x1, rfl⟩ : ∃ X : Nat, x1 = X := ⟨x1.toNat, by omega⟩
    obtain ⟨y1, rfl⟩ : ∃ X : Nat, y1 = X := ⟨y1.toNat, by omega⟩
    have := sRepairP (pb := pb) (f := f) hR x0 y0 x1 y1 (by omega) (by omega) (by omega) (by omega)
    have e : mergeG x0 y0 x1 y1 f f = f := by funext x y; unfold mergeG; split <;> rfl
    rw [e] at this
    rw [hwi]
    exact this
  · exact sRepairBad hR hwi

end Go.Proofs.YtlplbgbnojibmaaGreat

