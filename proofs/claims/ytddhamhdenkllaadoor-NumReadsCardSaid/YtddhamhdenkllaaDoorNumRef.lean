/-
  The document's Scan.
-/
import Derived.Test.YtddhamhdenkllaaDoorNumPlain
namespace Go.Proofs.YtddhamhdenkllaaDoor
open Go.RowKit
open Sy
set_option linter.unusedVariables false
set_option linter.unusedSimpArgs false
set_option maxRecDepth 100000
set_option maxHeartbeats 4000000

theorem byte_q {l q : List UInt8} {frm i : Nat} (h : l.drop frm = q) (hi : i < q.length) : byteAt (bs l) (((frm + i : Nat) : Int)).toNat = (q[i].toNat : Int) := by
  rw [byteAt_bs, Int.toNat_natCast, ← List.getElem?_drop, h, List.getElem?_eq_getElem hi]
  rfl
theorem u8_is {a : UInt8} (k : UInt8) : ((a.toNat : Int) = (k.toNat : Int)) ↔ a = k := by
  constructor
  · intro e; exact UInt8.toNat_inj.1 (by omega)
  · rintro rfl; rfl
/-- the answer, once the digits are counted -/
theorem scan_of {l r q : List UInt8} {n i sg : Nat} (hn : n ≤ l.length) (hr : l.drop n = r) (hsg : sgn r = sg) (hqq : r.drop sg = q) (hNi : nd q = i) :
    scan l (n : Int) = if i = 0 ∨ (q[0]? = some 48 ∧ (1 < i ∨ 0 < sg)) then (0, 0, 12) else if dv 0 (q.take i) ≤ 9223372036854775807 + sg then ((if sg = 1 then -(dv 0 (q.take i) : Int) else (dv 0 (q.take i) : Int)), ((n + sg + i : Nat) : Int), 0) else (0, 0, 7) := by
  subst hsg hNi
  unfold scan
  rw [if_neg (by omega)]
  simp only [Int.toNat_natCast, hr, hqq]
  by_cases c : nd q = 0 ∨ (q[0]? = some 48 ∧ (1 < nd q ∨ 0 < sgn r))
  · rw [if_pos c, if_pos c]
  · rw [if_neg c, if_neg c]
    have h0 : 0 < nd (r.drop (sgn r)) := by rw [hqq]; omega
    have := pI r h0 ((n + sgn r + nd q : Nat) : Int)
    rw [hqq] at this
    rw [← this]
    congr 1
theorem sRefScan {R : HP} (l : List UInt8) (hl : l.length ≤ 1048576) (at' : Int) : PureR Tryd.prog R 8 [.string (bs l), .int .i64 at'] (scanV (scan l at')) := by
  refine fn_of_run0 true Tryd.func8 rfl hmix rfl fun w0 => ?_
  conv => whnf
  refine ⟨fun h1 => ?_, fun h1 => ?_⟩
  · have h1 : ¬ at' < 0 := of_decide_eq_false h1
    conv => whnf
    refine ⟨fun h2 => ?_, fun h2 => ?_⟩
    · have h2 : ((bs l).size : Int) < at' := of_decide_eq_true h2
      rw [bs_size] at h2
      have e : scan l at' = (0, 0, 11) := by unfold scan; rw [if_pos (.inr h2)]
      rw [e]
      conv => whnf
      exact ⟨trivial, fin_drop rfl⟩
    · have h2 : ¬ ((bs l).size : Int) < at' := of_decide_eq_false h2
      rw [bs_size] at h2
      obtain ⟨n, rfl⟩ : ∃ n : Nat, at' = (n : Int) := ⟨at'.toNat, by omega⟩
      have hn : n ≤ l.length := by omega
      obtain ⟨r, hr⟩ : ∃ r, l.drop n = r := ⟨_, rfl⟩
      have hrl : r.length = l.length - n := by rw [← hr]; simp
      obtain ⟨q, hqq⟩ : ∃ q, r.drop (sgn r) = q := ⟨_, rfl⟩
      conv => whnf
      refine ⟨fun h3 => ?_, fun h3 => ?_⟩
      · have h3 := of_decide_eq_true h3
        rw [bs_size] at h3
        have hb : byteAt (bs l) (n : Int).toNat = ((r[0]'(by omega)).toNat : Int) := byte_q (i := 0) hr (by omega)
        conv => whnf
        refine ⟨fun h4 => ?_, fun h4 => ?_⟩
        · have h4d := h4
          have h4 := of_decide_eq_true h4
          have hsg : sgn r = 1 := by
            rw [hb] at h4
            have h5 := (u8_is 45).1 h4
            unfold sgn
            rw [if_pos]
            rw [List.head?_eq_getElem?, List.getElem?_eq_getElem (by omega), h5]
          have hqq2 : r.drop 1 = q := by rw [← hsg]; exact hqq
          have hq : l.drop (n + 1) = q := by rw [← hqq2, ← hr, List.drop_drop]
          have hql : q.length + (n + 1) = l.length := by rw [← hq, List.length_drop]; omega
          conv => whnf
          refine ⟨⟨⟨trivial, by rw [bs_size]; omega⟩, by unfold rng; omega⟩, LoopAt.keep (α := Nat) [0, 7, 8] (fun i => [(9, .v (.int .i64 ((n + 1 + i : Nat) : Int)))]) (fun i => i ≤ q.length ∧ nd q = i + nd (q.drop i)) (fun i => q.length - i) 0 ⟨Nat.zero_le _, by simp⟩ rfl ⟨⟨rfl, rfl⟩, trivial⟩ ⟨⟨rfl, rfl⟩, ⟨rfl, rfl⟩, ⟨rfl, rfl⟩, trivial⟩ trivial ?_⟩
          rintro i ⟨hi, hN⟩
          conv => whnf
          refine ⟨fun t1 => ?_, fun t1 => ?_⟩
          · have t1 := of_decide_eq_true t1
            rw [bs_size] at t1
            have hiq : i < q.length := by omega
            have hbi := byte_q hq hiq
            conv => whnf
            refine ⟨fun t2 => ?_, fun t2 => ?_⟩
            · have t2 := of_decide_eq_true t2
              rw [hbi] at t2
              conv => whnf
              refine ⟨fun t3 => ?_, fun t3 => ?_⟩
              · have t3 := of_decide_eq_true t3
                rw [hbi] at t3
                have hst := nd_step hiq (isD_iff.2 (by omega))
                conv => whnf
                refine ⟨by simp only [bs_size, rng, true_and] <;> omega, Next.keep (i + 1) ⟨by omega, by omega⟩ (by omega) ⟨⟨rfl, rfl⟩, trivial⟩ ⟨⟨rfl, rfl⟩, ⟨rfl, rfl⟩, ⟨rfl, rfl⟩, trivial⟩ trivial rfl rfl rfl⟩
              · have t3 := of_decide_eq_false t3
                rw [hbi] at t3
                have hst := nd_stop hiq (by rw [← Bool.not_eq_true, isD_iff]; omega)
                have hNi : nd q = i := by omega
                have hsc := scan_of hn hr hsg hqq2 hNi
                have hb0 : ∀ h : 0 < q.length, byteAt (bs l) ((n : Int) + 1).toNat = (q[0].toNat : Int) := fun h => byte_q (i := 0) hq h
                conv => whnf
                refine ⟨fun u1 => ?_, fun u1 => ?_⟩
                · have u1 := of_decide_eq_false u1
                  have hi0 : i ≠ 0 := by omega
                  have hq0 : 0 < q.length := by omega
                  have h48 : (byteAt (bs l) ((n : Int) + 1).toNat = 48) ↔ q[0]? = some 48 := by
                    rw [hb0 hq0, List.getElem?_eq_getElem hq0, Option.some.injEq]
                    exact u8_is 48
                  conv => whnf
                  refine ⟨fun u2 => ?_, fun u2 => ?_⟩
                  · have u2d := u2
                    have u2 := h48.1 (of_decide_eq_true u2)
                    conv => whnf
                    refine ⟨fun u3 => ?_, fun u3 => ?_⟩
                    · have u3 := of_decide_eq_false u3
                      conv => whnf
                      refine iff_t u2d ?_
                      conv => whnf
                      refine iff_t h4d ?_
                      rw [hsc, if_pos (.inr ⟨u2, .inr (by omega)⟩)]
                      conv => whnf
                      exact ⟨by simp only [bs_size, rng, true_and] <;> omega, fin_drop rfl⟩
                    · have u3 := of_decide_eq_true u3
                      rw [hsc, if_pos (.inr ⟨u2, .inl (by omega)⟩)]
                      conv => whnf
                      exact ⟨by simp only [bs_size, rng, true_and] <;> omega, fin_drop rfl⟩
                  · have u2d := u2
                    have u2 : ¬ q[0]? = some 48 := fun e => (of_decide_eq_false u2d) (h48.2 e)
                    rw [hsc, if_neg (by rintro (e | ⟨e, _⟩); exact hi0 e; exact u2 e)]
                    conv => whnf
                    refine iff_f u2d ?_
                    conv => whnf
                    refine iff_t h4d ?_
                    conv => whnf
                    refine ⟨by simp only [bs_size, rng, true_and] <;> omega, LoopAt.keep (α := Nat) [0, 8, 9, 10] (fun k => [(11, .v (.int .u64 ((dv 0 (q.take k) : Nat) : Int))), (12, .v (.int .i64 ((n + 1 + k : Nat) : Int)))]) (fun k => k ≤ i ∧ dv 0 (q.take k) ≤ 9223372036854775807 + 1) (fun k => i - k) 0 ⟨Nat.zero_le _, by simp [dv]⟩ rfl ⟨⟨rfl, rfl⟩, ⟨rfl, rfl⟩, trivial⟩ ⟨⟨rfl, rfl⟩, ⟨rfl, rfl⟩, ⟨rfl, rfl⟩, ⟨rfl, rfl⟩, trivial⟩ trivial ?_⟩
                    rintro k ⟨hk, hv⟩
                    conv => whnf
                    refine ⟨fun v1 => ?_, fun v1 => ?_⟩
                    · have v1 := of_decide_eq_true v1
                      have hki : k < i := by omega
                      have hkq : k < q.length := by omega
                      have hbk := byte_q hq hkq
                      have hDk := isD_iff.1 (nd_all q q[k] (by rw [hNi]; exact List.mem_take_iff_getElem.2 ⟨k, by omega, rfl⟩))
                      have hwd : IntKind.u64.wrap (IntKind.u8.wrap (byteAt (bs l) ((n + 1 + k : Nat) : Int).toNat - 48)) = ((q[k].toNat - 48 : Nat) : Int) := by
                        rw [hbk, IntWalk.u8_in _ (by omega), IntWalk.u64_in _ (by omega)]; omega
                      have hds := dv_succ q hkq
                      have hdm := dv_take_le q (show k + 1 ≤ i by omega)
                      conv => whnf
                      rw [hwd]
                      have hM : IntKind.u64.wrap ((9223372036854775808 : Int) - ((q[k].toNat - 48 : Nat) : Int)) = (9223372036854775808 : Int) - ((q[k].toNat - 48 : Nat) : Int) := IntWalk.u64_in _ (by omega)
                      have hT : ((9223372036854775808 : Int) - ((q[k].toNat - 48 : Nat) : Int)).tdiv 10 = ((9223372036854775808 : Int) - ((q[k].toNat - 48 : Nat) : Int)) / 10 := Int.tdiv_eq_ediv_of_nonneg (by omega)
                      rw [hM, hT]
                      refine ⟨fun v2 => ?_, fun v2 => ?_⟩
                      · have v2 := of_decide_eq_true v2
                        rw [if_neg (show ¬ dv 0 (q.take i) ≤ 9223372036854775807 + 1 by omega)]
                        conv => whnf
                        exact ⟨⟨by simp only [bs_size, true_and]; omega, by decide, IntWalk.u64_in _ (by omega)⟩, fin_drop rfl⟩
                      · have v2 := of_decide_eq_false v2
                        have hS : IntKind.u64.wrap (IntKind.u64.wrap (((dv 0 (q.take k) : Nat) : Int) * 10) + ((q[k].toNat - 48 : Nat) : Int)) = ((dv 0 (q.take (k + 1)) : Nat) : Int) := by
                          rw [IntWalk.u64_in (((dv 0 (q.take k) : Nat) : Int) * 10) (by omega), IntWalk.u64_in _ (by omega)]; omega
                        conv => whnf
                        refine ⟨⟨⟨by simp only [bs_size, true_and]; omega, by decide, IntWalk.u64_in _ (by omega)⟩, by unfold rng; omega⟩, Next.keep (k + 1) ⟨by omega, by omega⟩ (by omega) ⟨⟨?_, rfl⟩, ⟨rfl, rfl⟩, trivial⟩ ⟨⟨rfl, rfl⟩, ⟨rfl, rfl⟩, ⟨rfl, rfl⟩, ⟨rfl, rfl⟩, trivial⟩ trivial rfl rfl rfl⟩
                        show some _ = some _
                        rw [hS]
                    · have v1 := of_decide_eq_false v1
                      have hki : k = i := by omega
                      subst hki
                      conv => whnf
                      refine iff_t h4d ?_
                      rw [if_pos hv]
                      have hfin : IntKind.i64.wrap (IntKind.u64.wrap (0 - ((dv 0 (q.take k) : Nat) : Int))) = (if 1 = 1 then -((dv 0 (q.take k) : Nat) : Int) else ((dv 0 (q.take k) : Nat) : Int)) := by
                        simp [IntKind.wrap, IntKind.bits, IntKind.signed]; omega
                      conv => whnf
                      exact ⟨trivial, fin_drop (by rw [← hfin]; rfl)⟩
                · have u1 := of_decide_eq_true u1
                  rw [hsc, if_pos (.inl (by omega))]
                  conv => whnf
                  exact ⟨by simp only [bs_size, rng, true_and] <;> omega, fin_drop rfl⟩
            · have t2 := of_decide_eq_false t2
              rw [hbi] at t2
              have hst := nd_stop hiq (by rw [← Bool.not_eq_true, isD_iff]; omega)
              have hNi : nd q = i := by omega
              have hsc := scan_of hn hr hsg hqq2 hNi
              have hb0 : ∀ h : 0 < q.length, byteAt (bs l) ((n : Int) + 1).toNat = (q[0].toNat : Int) := fun h => byte_q (i := 0) hq h
              conv => whnf
              refine ⟨fun u1 => ?_, fun u1 => ?_⟩
              · have u1 := of_decide_eq_false u1
                have hi0 : i ≠ 0 := by omega
                have hq0 : 0 < q.length := by omega
                have h48 : (byteAt (bs l) ((n : Int) + 1).toNat = 48) ↔ q[0]? = some 48 := by
                  rw [hb0 hq0, List.getElem?_eq_getElem hq0, Option.some.injEq]
                  exact u8_is 48
                conv => whnf
                refine ⟨fun u2 => ?_, fun u2 => ?_⟩
                · have u2d := u2
                  have u2 := h48.1 (of_decide_eq_true u2)
                  conv => whnf
                  refine ⟨fun u3 => ?_, fun u3 => ?_⟩
                  · have u3 := of_decide_eq_false u3
                    conv => whnf
                    refine iff_t u2d ?_
                    conv => whnf
                    refine iff_t h4d ?_
                    rw [hsc, if_pos (.inr ⟨u2, .inr (by omega)⟩)]
                    conv => whnf
                    exact ⟨by simp only [bs_size, rng, true_and] <;> omega, fin_drop rfl⟩
                  · have u3 := of_decide_eq_true u3
                    rw [hsc, if_pos (.inr ⟨u2, .inl (by omega)⟩)]
                    conv => whnf
                    exact ⟨by simp only [bs_size, rng, true_and] <;> omega, fin_drop rfl⟩
                · have u2d := u2
                  have u2 : ¬ q[0]? = some 48 := fun e => (of_decide_eq_false u2d) (h48.2 e)
                  rw [hsc, if_neg (by rintro (e | ⟨e, _⟩); exact hi0 e; exact u2 e)]
                  conv => whnf
                  refine iff_f u2d ?_
                  conv => whnf
                  refine iff_t h4d ?_
                  conv => whnf
                  refine ⟨by simp only [bs_size, rng, true_and] <;> omega, LoopAt.keep (α := Nat) [0, 8, 9, 10] (fun k => [(11, .v (.int .u64 ((dv 0 (q.take k) : Nat) : Int))), (12, .v (.int .i64 ((n + 1 + k : Nat) : Int)))]) (fun k => k ≤ i ∧ dv 0 (q.take k) ≤ 9223372036854775807 + 1) (fun k => i - k) 0 ⟨Nat.zero_le _, by simp [dv]⟩ rfl ⟨⟨rfl, rfl⟩, ⟨rfl, rfl⟩, trivial⟩ ⟨⟨rfl, rfl⟩, ⟨rfl, rfl⟩, ⟨rfl, rfl⟩, ⟨rfl, rfl⟩, trivial⟩ trivial ?_⟩
                  rintro k ⟨hk, hv⟩
                  conv => whnf
                  refine ⟨fun v1 => ?_, fun v1 => ?_⟩
                  · have v1 := of_decide_eq_true v1
                    have hki : k < i := by omega
                    have hkq : k < q.length := by omega
                    have hbk := byte_q hq hkq
                    have hDk := isD_iff.1 (nd_all q q[k] (by rw [hNi]; exact List.mem_take_iff_getElem.2 ⟨k, by omega, rfl⟩))
                    have hwd : IntKind.u64.wrap (IntKind.u8.wrap (byteAt (bs l) ((n + 1 + k : Nat) : Int).toNat - 48)) = ((q[k].toNat - 48 : Nat) : Int) := by
                      rw [hbk, IntWalk.u8_in _ (by omega), IntWalk.u64_in _ (by omega)]; omega
                    have hds := dv_succ q hkq
                    have hdm := dv_take_le q (show k + 1 ≤ i by omega)
                    conv => whnf
                    rw [hwd]
                    have hM : IntKind.u64.wrap ((9223372036854775808 : Int) - ((q[k].toNat - 48 : Nat) : Int)) = (9223372036854775808 : Int) - ((q[k].toNat - 48 : Nat) : Int) := IntWalk.u64_in _ (by omega)
                    have hT : ((9223372036854775808 : Int) - ((q[k].toNat - 48 : Nat) : Int)).tdiv 10 = ((9223372036854775808 : Int) - ((q[k].toNat - 48 : Nat) : Int)) / 10 := Int.tdiv_eq_ediv_of_nonneg (by omega)
                    rw [hM, hT]
                    refine ⟨fun v2 => ?_, fun v2 => ?_⟩
                    · have v2 := of_decide_eq_true v2
                      rw [if_neg (show ¬ dv 0 (q.take i) ≤ 9223372036854775807 + 1 by omega)]
                      conv => whnf
                      exact ⟨⟨by simp only [bs_size, true_and]; omega, by decide, IntWalk.u64_in _ (by omega)⟩, fin_drop rfl⟩
                    · have v2 := of_decide_eq_false v2
                      have hS : IntKind.u64.wrap (IntKind.u64.wrap (((dv 0 (q.take k) : Nat) : Int) * 10) + ((q[k].toNat - 48 : Nat) : Int)) = ((dv 0 (q.take (k + 1)) : Nat) : Int) := by
                        rw [IntWalk.u64_in (((dv 0 (q.take k) : Nat) : Int) * 10) (by omega), IntWalk.u64_in _ (by omega)]; omega
                      conv => whnf
                      refine ⟨⟨⟨by simp only [bs_size, true_and]; omega, by decide, IntWalk.u64_in _ (by omega)⟩, by unfold rng; omega⟩, Next.keep (k + 1) ⟨by omega, by omega⟩ (by omega) ⟨⟨?_, rfl⟩, ⟨rfl, rfl⟩, trivial⟩ ⟨⟨rfl, rfl⟩, ⟨rfl, rfl⟩, ⟨rfl, rfl⟩, ⟨rfl, rfl⟩, trivial⟩ trivial rfl rfl rfl⟩
                      show some _ = some _
                      rw [hS]
                  · have v1 := of_decide_eq_false v1
                    have hki : k = i := by omega
                    subst hki
                    conv => whnf
                    refine iff_t h4d ?_
                    rw [if_pos hv]
                    have hfin : IntKind.i64.wrap (IntKind.u64.wrap (0 - ((dv 0 (q.take k) : Nat) : Int))) = (if 1 = 1 then -((dv 0 (q.take k) : Nat) : Int) else ((dv 0 (q.take k) : Nat) : Int)) := by
                      simp [IntKind.wrap, IntKind.bits, IntKind.signed]; omega
                    conv => whnf
                    exact ⟨trivial, fin_drop (by rw [← hfin]; rfl)⟩
              · have u1 := of_decide_eq_true u1
                rw [hsc, if_pos (.inl (by omega))]
                conv => whnf
                exact ⟨by simp only [bs_size, rng, true_and] <;> omega, fin_drop rfl⟩
          · have t1 := of_decide_eq_false t1
            rw [bs_size] at t1
            have hNi : nd q = i := by
              have e : q.drop i = [] := List.drop_eq_nil_of_le (by omega)
              rw [hN, e]; rfl
            have hsc := scan_of hn hr hsg hqq2 hNi
            have hb0 : ∀ h : 0 < q.length, byteAt (bs l) ((n : Int) + 1).toNat = (q[0].toNat : Int) := fun h => byte_q (i := 0) hq h
            conv => whnf
            refine ⟨fun u1 => ?_, fun u1 => ?_⟩
            · have u1 := of_decide_eq_false u1
              have hi0 : i ≠ 0 := by omega
              have hq0 : 0 < q.length := by omega
              have h48 : (byteAt (bs l) ((n : Int) + 1).toNat = 48) ↔ q[0]? = some 48 := by
                rw [hb0 hq0, List.getElem?_eq_getElem hq0, Option.some.injEq]
                exact u8_is 48
              conv => whnf
              refine ⟨fun u2 => ?_, fun u2 => ?_⟩
              · have u2d := u2
                have u2 := h48.1 (of_decide_eq_true u2)
                conv => whnf
                refine ⟨fun u3 => ?_, fun u3 => ?_⟩
                · have u3 := of_decide_eq_false u3
                  conv => whnf
                  refine iff_t u2d ?_
                  conv => whnf
                  refine iff_t h4d ?_
                  rw [hsc, if_pos (.inr ⟨u2, .inr (by omega)⟩)]
                  conv => whnf
                  exact ⟨by simp only [bs_size, rng, true_and] <;> omega, fin_drop rfl⟩
                · have u3 := of_decide_eq_true u3
                  rw [hsc, if_pos (.inr ⟨u2, .inl (by omega)⟩)]
                  conv => whnf
                  exact ⟨by simp only [bs_size, rng, true_and] <;> omega, fin_drop rfl⟩
              · have u2d := u2
                have u2 : ¬ q[0]? = some 48 := fun e => (of_decide_eq_false u2d) (h48.2 e)
                rw [hsc, if_neg (by rintro (e | ⟨e, _⟩); exact hi0 e; exact u2 e)]
                conv => whnf
                refine iff_f u2d ?_
                conv => whnf
                refine iff_t h4d ?_
                conv => whnf
                refine ⟨by simp only [bs_size, rng, true_and] <;> omega, LoopAt.keep (α := Nat) [0, 8, 9, 10] (fun k => [(11, .v (.int .u64 ((dv 0 (q.take k) : Nat) : Int))), (12, .v (.int .i64 ((n + 1 + k : Nat) : Int)))]) (fun k => k ≤ i ∧ dv 0 (q.take k) ≤ 9223372036854775807 + 1) (fun k => i - k) 0 ⟨Nat.zero_le _, by simp [dv]⟩ rfl ⟨⟨rfl, rfl⟩, ⟨rfl, rfl⟩, trivial⟩ ⟨⟨rfl, rfl⟩, ⟨rfl, rfl⟩, ⟨rfl, rfl⟩, ⟨rfl, rfl⟩, trivial⟩ trivial ?_⟩
                rintro k ⟨hk, hv⟩
                conv => whnf
                refine ⟨fun v1 => ?_, fun v1 => ?_⟩
                · have v1 := of_decide_eq_true v1
                  have hki : k < i := by omega
                  have hkq : k < q.length := by omega
                  have hbk := byte_q hq hkq
                  have hDk := isD_iff.1 (nd_all q q[k] (by rw [hNi]; exact List.mem_take_iff_getElem.2 ⟨k, by omega, rfl⟩))
                  have hwd : IntKind.u64.wrap (IntKind.u8.wrap (byteAt (bs l) ((n + 1 + k : Nat) : Int).toNat - 48)) = ((q[k].toNat - 48 : Nat) : Int) := by
                    rw [hbk, IntWalk.u8_in _ (by omega), IntWalk.u64_in _ (by omega)]; omega
                  have hds := dv_succ q hkq
                  have hdm := dv_take_le q (show k + 1 ≤ i by omega)
                  conv => whnf
                  rw [hwd]
                  have hM : IntKind.u64.wrap ((9223372036854775808 : Int) - ((q[k].toNat - 48 : Nat) : Int)) = (9223372036854775808 : Int) - ((q[k].toNat - 48 : Nat) : Int) := IntWalk.u64_in _ (by omega)
                  have hT : ((9223372036854775808 : Int) - ((q[k].toNat - 48 : Nat) : Int)).tdiv 10 = ((9223372036854775808 : Int) - ((q[k].toNat - 48 : Nat) : Int)) / 10 := Int.tdiv_eq_ediv_of_nonneg (by omega)
                  rw [hM, hT]
                  refine ⟨fun v2 => ?_, fun v2 => ?_⟩
                  · have v2 := of_decide_eq_true v2
                    rw [if_neg (show ¬ dv 0 (q.take i) ≤ 9223372036854775807 + 1 by omega)]
                    conv => whnf
                    exact ⟨⟨by simp only [bs_size, true_and]; omega, by decide, IntWalk.u64_in _ (by omega)⟩, fin_drop rfl⟩
                  · have v2 := of_decide_eq_false v2
                    have hS : IntKind.u64.wrap (IntKind.u64.wrap (((dv 0 (q.take k) : Nat) : Int) * 10) + ((q[k].toNat - 48 : Nat) : Int)) = ((dv 0 (q.take (k + 1)) : Nat) : Int) := by
                      rw [IntWalk.u64_in (((dv 0 (q.take k) : Nat) : Int) * 10) (by omega), IntWalk.u64_in _ (by omega)]; omega
                    conv => whnf
                    refine ⟨⟨⟨by simp only [bs_size, true_and]; omega, by decide, IntWalk.u64_in _ (by omega)⟩, by unfold rng; omega⟩, Next.keep (k + 1) ⟨by omega, by omega⟩ (by omega) ⟨⟨?_, rfl⟩, ⟨rfl, rfl⟩, trivial⟩ ⟨⟨rfl, rfl⟩, ⟨rfl, rfl⟩, ⟨rfl, rfl⟩, ⟨rfl, rfl⟩, trivial⟩ trivial rfl rfl rfl⟩
                    show some _ = some _
                    rw [hS]
                · have v1 := of_decide_eq_false v1
                  have hki : k = i := by omega
                  subst hki
                  conv => whnf
                  refine iff_t h4d ?_
                  rw [if_pos hv]
                  have hfin : IntKind.i64.wrap (IntKind.u64.wrap (0 - ((dv 0 (q.take k) : Nat) : Int))) = (if 1 = 1 then -((dv 0 (q.take k) : Nat) : Int) else ((dv 0 (q.take k) : Nat) : Int)) := by
                    simp [IntKind.wrap, IntKind.bits, IntKind.signed]; omega
                  conv => whnf
                  exact ⟨trivial, fin_drop (by rw [← hfin]; rfl)⟩
            · have u1 := of_decide_eq_true u1
              rw [hsc, if_pos (.inl (by omega))]
              conv => whnf
              exact ⟨by simp only [bs_size, rng, true_and] <;> omega, fin_drop rfl⟩
        · have h4d := h4
          have h4 := of_decide_eq_false h4
          have hsg : sgn r = 0 := by
            rw [hb] at h4
            have h5 : ¬ r[0] = 45 := fun e => h4 ((u8_is 45).2 e)
            unfold sgn
            rw [if_neg]
            rw [List.head?_eq_getElem?, List.getElem?_eq_getElem (by omega), Option.some.injEq]
            exact h5
          have hqq2 : r.drop 0 = q := by rw [← hsg]; exact hqq
          have hq : l.drop (n + 0) = q := by rw [← hqq2, ← hr, List.drop_drop]
          have hql : q.length + (n + 0) = l.length := by rw [← hq, List.length_drop]; omega
          conv => whnf
          refine ⟨⟨trivial, by rw [bs_size]; omega⟩, LoopAt.keep (α := Nat) [0, 7, 8] (fun i => [(9, .v (.int .i64 ((n + 0 + i : Nat) : Int)))]) (fun i => i ≤ q.length ∧ nd q = i + nd (q.drop i)) (fun i => q.length - i) 0 ⟨Nat.zero_le _, by simp⟩ rfl ⟨⟨rfl, rfl⟩, trivial⟩ ⟨⟨rfl, rfl⟩, ⟨rfl, rfl⟩, ⟨rfl, rfl⟩, trivial⟩ trivial ?_⟩
          rintro i ⟨hi, hN⟩
          conv => whnf
          refine ⟨fun t1 => ?_, fun t1 => ?_⟩
          · have t1 := of_decide_eq_true t1
            rw [bs_size] at t1
            have hiq : i < q.length := by omega
            have hbi := byte_q hq hiq
            conv => whnf
            refine ⟨fun t2 => ?_, fun t2 => ?_⟩
            · have t2 := of_decide_eq_true t2
              rw [hbi] at t2
              conv => whnf
              refine ⟨fun t3 => ?_, fun t3 => ?_⟩
              · have t3 := of_decide_eq_true t3
                rw [hbi] at t3
                have hst := nd_step hiq (isD_iff.2 (by omega))
                conv => whnf
                refine ⟨by simp only [bs_size, rng, true_and] <;> omega, Next.keep (i + 1) ⟨by omega, by omega⟩ (by omega) ⟨⟨rfl, rfl⟩, trivial⟩ ⟨⟨rfl, rfl⟩, ⟨rfl, rfl⟩, ⟨rfl, rfl⟩, trivial⟩ trivial rfl rfl rfl⟩
              · have t3 := of_decide_eq_false t3
                rw [hbi] at t3
                have hst := nd_stop hiq (by rw [← Bool.not_eq_true, isD_iff]; omega)
                have hNi : nd q = i := by omega
                have hsc := scan_of hn hr hsg hqq2 hNi
                have hb0 : ∀ h : 0 < q.length, byteAt (bs l) ((n : Int)).toNat = (q[0].toNat : Int) := fun h => byte_q (i := 0) hq h
                conv => whnf
                refine ⟨fun u1 => ?_, fun u1 => ?_⟩
                · have u1 := of_decide_eq_false u1
                  have hi0 : i ≠ 0 := by omega
                  have hq0 : 0 < q.length := by omega
                  have h48 : (byteAt (bs l) ((n : Int)).toNat = 48) ↔ q[0]? = some 48 := by
                    rw [hb0 hq0, List.getElem?_eq_getElem hq0, Option.some.injEq]
                    exact u8_is 48
                  conv => whnf
                  refine ⟨fun u2 => ?_, fun u2 => ?_⟩
                  · have u2d := u2
                    have u2 := h48.1 (of_decide_eq_true u2)
                    conv => whnf
                    refine ⟨fun u3 => ?_, fun u3 => ?_⟩
                    · have u3 := of_decide_eq_false u3
                      conv => whnf
                      refine iff_t u2d ?_
                      conv => whnf
                      refine iff_f h4d ?_
                      rw [hsc, if_neg (by rintro (e | ⟨_, e⟩) <;> omega)]
                      conv => whnf
                      refine iff_f h4d ?_
                      conv => whnf
                      refine ⟨by simp only [bs_size, rng, true_and] <;> omega, LoopAt.keep (α := Nat) [0, 8, 9, 10] (fun k => [(11, .v (.int .u64 ((dv 0 (q.take k) : Nat) : Int))), (12, .v (.int .i64 ((n + 0 + k : Nat) : Int)))]) (fun k => k ≤ i ∧ dv 0 (q.take k) ≤ 9223372036854775807 + 0) (fun k => i - k) 0 ⟨Nat.zero_le _, by simp [dv]⟩ rfl ⟨⟨rfl, rfl⟩, ⟨rfl, rfl⟩, trivial⟩ ⟨⟨rfl, rfl⟩, ⟨rfl, rfl⟩, ⟨rfl, rfl⟩, ⟨rfl, rfl⟩, trivial⟩ trivial ?_⟩
                      rintro k ⟨hk, hv⟩
                      conv => whnf
                      refine ⟨fun v1 => ?_, fun v1 => ?_⟩
                      · have v1 := of_decide_eq_true v1
                        have hki : k < i := by omega
                        have hkq : k < q.length := by omega
                        have hbk := byte_q hq hkq
                        have hDk := isD_iff.1 (nd_all q q[k] (by rw [hNi]; exact List.mem_take_iff_getElem.2 ⟨k, by omega, rfl⟩))
                        have hwd : IntKind.u64.wrap (IntKind.u8.wrap (byteAt (bs l) ((n + 0 + k : Nat) : Int).toNat - 48)) = ((q[k].toNat - 48 : Nat) : Int) := by
                          rw [hbk, IntWalk.u8_in _ (by omega), IntWalk.u64_in _ (by omega)]; omega
                        have hds := dv_succ q hkq
                        have hdm := dv_take_le q (show k + 1 ≤ i by omega)
                        conv => whnf
                        rw [hwd]
                        have hM : IntKind.u64.wrap ((9223372036854775807 : Int) - ((q[k].toNat - 48 : Nat) : Int)) = (9223372036854775807 : Int) - ((q[k].toNat - 48 : Nat) : Int) := IntWalk.u64_in _ (by omega)
                        have hT : ((9223372036854775807 : Int) - ((q[k].toNat - 48 : Nat) : Int)).tdiv 10 = ((9223372036854775807 : Int) - ((q[k].toNat - 48 : Nat) : Int)) / 10 := Int.tdiv_eq_ediv_of_nonneg (by omega)
                        rw [hM, hT]
                        refine ⟨fun v2 => ?_, fun v2 => ?_⟩
                        · have v2 := of_decide_eq_true v2
                          rw [if_neg (show ¬ dv 0 (q.take i) ≤ 9223372036854775807 + 0 by omega)]
                          conv => whnf
                          exact ⟨⟨by simp only [bs_size, true_and]; omega, by decide, IntWalk.u64_in _ (by omega)⟩, fin_drop rfl⟩
                        · have v2 := of_decide_eq_false v2
                          have hS : IntKind.u64.wrap (IntKind.u64.wrap (((dv 0 (q.take k) : Nat) : Int) * 10) + ((q[k].toNat - 48 : Nat) : Int)) = ((dv 0 (q.take (k + 1)) : Nat) : Int) := by
                            rw [IntWalk.u64_in (((dv 0 (q.take k) : Nat) : Int) * 10) (by omega), IntWalk.u64_in _ (by omega)]; omega
                          conv => whnf
                          refine ⟨⟨⟨by simp only [bs_size, true_and]; omega, by decide, IntWalk.u64_in _ (by omega)⟩, by unfold rng; omega⟩, Next.keep (k + 1) ⟨by omega, by omega⟩ (by omega) ⟨⟨?_, rfl⟩, ⟨rfl, rfl⟩, trivial⟩ ⟨⟨rfl, rfl⟩, ⟨rfl, rfl⟩, ⟨rfl, rfl⟩, ⟨rfl, rfl⟩, trivial⟩ trivial rfl rfl rfl⟩
                          show some _ = some _
                          rw [hS]
                      · have v1 := of_decide_eq_false v1
                        have hki : k = i := by omega
                        subst hki
                        conv => whnf
                        refine iff_f h4d ?_
                        rw [if_pos hv]
                        have hfin : IntKind.i64.wrap ((dv 0 (q.take k) : Nat) : Int) = (if 0 = 1 then -((dv 0 (q.take k) : Nat) : Int) else ((dv 0 (q.take k) : Nat) : Int)) := by
                          simp [IntKind.wrap, IntKind.bits, IntKind.signed]; omega
                        conv => whnf
                        exact ⟨trivial, fin_drop (by rw [← hfin]; rfl)⟩
                    · have u3 := of_decide_eq_true u3
                      rw [hsc, if_pos (.inr ⟨u2, .inl (by omega)⟩)]
                      conv => whnf
                      exact ⟨by simp only [bs_size, rng, true_and] <;> omega, fin_drop rfl⟩
                  · have u2d := u2
                    have u2 : ¬ q[0]? = some 48 := fun e => (of_decide_eq_false u2d) (h48.2 e)
                    rw [hsc, if_neg (by rintro (e | ⟨e, _⟩); exact hi0 e; exact u2 e)]
                    conv => whnf
                    refine iff_f u2d ?_
                    conv => whnf
                    refine iff_f h4d ?_
                    conv => whnf
                    refine ⟨by simp only [bs_size, rng, true_and] <;> omega, LoopAt.keep (α := Nat) [0, 8, 9, 10] (fun k => [(11, .v (.int .u64 ((dv 0 (q.take k) : Nat) : Int))), (12, .v (.int .i64 ((n + 0 + k : Nat) : Int)))]) (fun k => k ≤ i ∧ dv 0 (q.take k) ≤ 9223372036854775807 + 0) (fun k => i - k) 0 ⟨Nat.zero_le _, by simp [dv]⟩ rfl ⟨⟨rfl, rfl⟩, ⟨rfl, rfl⟩, trivial⟩ ⟨⟨rfl, rfl⟩, ⟨rfl, rfl⟩, ⟨rfl, rfl⟩, ⟨rfl, rfl⟩, trivial⟩ trivial ?_⟩
                    rintro k ⟨hk, hv⟩
                    conv => whnf
                    refine ⟨fun v1 => ?_, fun v1 => ?_⟩
                    · have v1 := of_decide_eq_true v1
                      have hki : k < i := by omega
                      have hkq : k < q.length := by omega
                      have hbk := byte_q hq hkq
                      have hDk := isD_iff.1 (nd_all q q[k] (by rw [hNi]; exact List.mem_take_iff_getElem.2 ⟨k, by omega, rfl⟩))
                      have hwd : IntKind.u64.wrap (IntKind.u8.wrap (byteAt (bs l) ((n + 0 + k : Nat) : Int).toNat - 48)) = ((q[k].toNat - 48 : Nat) : Int) := by
                        rw [hbk, IntWalk.u8_in _ (by omega), IntWalk.u64_in _ (by omega)]; omega
                      have hds := dv_succ q hkq
                      have hdm := dv_take_le q (show k + 1 ≤ i by omega)
                      conv => whnf
                      rw [hwd]
                      have hM : IntKind.u64.wrap ((9223372036854775807 : Int) - ((q[k].toNat - 48 : Nat) : Int)) = (9223372036854775807 : Int) - ((q[k].toNat - 48 : Nat) : Int) := IntWalk.u64_in _ (by omega)
                      have hT : ((9223372036854775807 : Int) - ((q[k].toNat - 48 : Nat) : Int)).tdiv 10 = ((9223372036854775807 : Int) - ((q[k].toNat - 48 : Nat) : Int)) / 10 := Int.tdiv_eq_ediv_of_nonneg (by omega)
                      rw [hM, hT]
                      refine ⟨fun v2 => ?_, fun v2 => ?_⟩
                      · have v2 := of_decide_eq_true v2
                        rw [if_neg (show ¬ dv 0 (q.take i) ≤ 9223372036854775807 + 0 by omega)]
                        conv => whnf
                        exact ⟨⟨by simp only [bs_size, true_and]; omega, by decide, IntWalk.u64_in _ (by omega)⟩, fin_drop rfl⟩
                      · have v2 := of_decide_eq_false v2
                        have hS : IntKind.u64.wrap (IntKind.u64.wrap (((dv 0 (q.take k) : Nat) : Int) * 10) + ((q[k].toNat - 48 : Nat) : Int)) = ((dv 0 (q.take (k + 1)) : Nat) : Int) := by
                          rw [IntWalk.u64_in (((dv 0 (q.take k) : Nat) : Int) * 10) (by omega), IntWalk.u64_in _ (by omega)]; omega
                        conv => whnf
                        refine ⟨⟨⟨by simp only [bs_size, true_and]; omega, by decide, IntWalk.u64_in _ (by omega)⟩, by unfold rng; omega⟩, Next.keep (k + 1) ⟨by omega, by omega⟩ (by omega) ⟨⟨?_, rfl⟩, ⟨rfl, rfl⟩, trivial⟩ ⟨⟨rfl, rfl⟩, ⟨rfl, rfl⟩, ⟨rfl, rfl⟩, ⟨rfl, rfl⟩, trivial⟩ trivial rfl rfl rfl⟩
                        show some _ = some _
                        rw [hS]
                    · have v1 := of_decide_eq_false v1
                      have hki : k = i := by omega
                      subst hki
                      conv => whnf
                      refine iff_f h4d ?_
                      rw [if_pos hv]
                      have hfin : IntKind.i64.wrap ((dv 0 (q.take k) : Nat) : Int) = (if 0 = 1 then -((dv 0 (q.take k) : Nat) : Int) else ((dv 0 (q.take k) : Nat) : Int)) := by
                        simp [IntKind.wrap, IntKind.bits, IntKind.signed]; omega
                      conv => whnf
                      exact ⟨trivial, fin_drop (by rw [← hfin]; rfl)⟩
                · have u1 := of_decide_eq_true u1
                  rw [hsc, if_pos (.inl (by omega))]
                  conv => whnf
                  exact ⟨by simp only [bs_size, rng, true_and] <;> omega, fin_drop rfl⟩
            · have t2 := of_decide_eq_false t2
              rw [hbi] at t2
              have hst := nd_stop hiq (by rw [← Bool.not_eq_true, isD_iff]; omega)
              have hNi : nd q = i := by omega
              have hsc := scan_of hn hr hsg hqq2 hNi
              have hb0 : ∀ h : 0 < q.length, byteAt (bs l) ((n : Int)).toNat = (q[0].toNat : Int) := fun h => byte_q (i := 0) hq h
              conv => whnf
              refine ⟨fun u1 => ?_, fun u1 => ?_⟩
              · have u1 := of_decide_eq_false u1
                have hi0 : i ≠ 0 := by omega
                have hq0 : 0 < q.length := by omega
                have h48 : (byteAt (bs l) ((n : Int)).toNat = 48) ↔ q[0]? = some 48 := by
                  rw [hb0 hq0, List.getElem?_eq_getElem hq0, Option.some.injEq]
                  exact u8_is 48
                conv => whnf
                refine ⟨fun u2 => ?_, fun u2 => ?_⟩
                · have u2d := u2
                  have u2 := h48.1 (of_decide_eq_true u2)
                  conv => whnf
                  refine ⟨fun u3 => ?_, fun u3 => ?_⟩
                  · have u3 := of_decide_eq_false u3
                    conv => whnf
                    refine iff_t u2d ?_
                    conv => whnf
                    refine iff_f h4d ?_
                    rw [hsc, if_neg (by rintro (e | ⟨_, e⟩) <;> omega)]
                    conv => whnf
                    refine iff_f h4d ?_
                    conv => whnf
                    refine ⟨by simp only [bs_size, rng, true_and] <;> omega, LoopAt.keep (α := Nat) [0, 8, 9, 10] (fun k => [(11, .v (.int .u64 ((dv 0 (q.take k) : Nat) : Int))), (12, .v (.int .i64 ((n + 0 + k : Nat) : Int)))]) (fun k => k ≤ i ∧ dv 0 (q.take k) ≤ 9223372036854775807 + 0) (fun k => i - k) 0 ⟨Nat.zero_le _, by simp [dv]⟩ rfl ⟨⟨rfl, rfl⟩, ⟨rfl, rfl⟩, trivial⟩ ⟨⟨rfl, rfl⟩, ⟨rfl, rfl⟩, ⟨rfl, rfl⟩, ⟨rfl, rfl⟩, trivial⟩ trivial ?_⟩
                    rintro k ⟨hk, hv⟩
                    conv => whnf
                    refine ⟨fun v1 => ?_, fun v1 => ?_⟩
                    · have v1 := of_decide_eq_true v1
                      have hki : k < i := by omega
                      have hkq : k < q.length := by omega
                      have hbk := byte_q hq hkq
                      have hDk := isD_iff.1 (nd_all q q[k] (by rw [hNi]; exact List.mem_take_iff_getElem.2 ⟨k, by omega, rfl⟩))
                      have hwd : IntKind.u64.wrap (IntKind.u8.wrap (byteAt (bs l) ((n + 0 + k : Nat) : Int).toNat - 48)) = ((q[k].toNat - 48 : Nat) : Int) := by
                        rw [hbk, IntWalk.u8_in _ (by omega), IntWalk.u64_in _ (by omega)]; omega
                      have hds := dv_succ q hkq
                      have hdm := dv_take_le q (show k + 1 ≤ i by omega)
                      conv => whnf
                      rw [hwd]
                      have hM : IntKind.u64.wrap ((9223372036854775807 : Int) - ((q[k].toNat - 48 : Nat) : Int)) = (9223372036854775807 : Int) - ((q[k].toNat - 48 : Nat) : Int) := IntWalk.u64_in _ (by omega)
                      have hT : ((9223372036854775807 : Int) - ((q[k].toNat - 48 : Nat) : Int)).tdiv 10 = ((9223372036854775807 : Int) - ((q[k].toNat - 48 : Nat) : Int)) / 10 := Int.tdiv_eq_ediv_of_nonneg (by omega)
                      rw [hM, hT]
                      refine ⟨fun v2 => ?_, fun v2 => ?_⟩
                      · have v2 := of_decide_eq_true v2
                        rw [if_neg (show ¬ dv 0 (q.take i) ≤ 9223372036854775807 + 0 by omega)]
                        conv => whnf
                        exact ⟨⟨by simp only [bs_size, true_and]; omega, by decide, IntWalk.u64_in _ (by omega)⟩, fin_drop rfl⟩
                      · have v2 := of_decide_eq_false v2
                        have hS : IntKind.u64.wrap (IntKind.u64.wrap (((dv 0 (q.take k) : Nat) : Int) * 10) + ((q[k].toNat - 48 : Nat) : Int)) = ((dv 0 (q.take (k + 1)) : Nat) : Int) := by
                          rw [IntWalk.u64_in (((dv 0 (q.take k) : Nat) : Int) * 10) (by omega), IntWalk.u64_in _ (by omega)]; omega
                        conv => whnf
                        refine ⟨⟨⟨by simp only [bs_size, true_and]; omega, by decide, IntWalk.u64_in _ (by omega)⟩, by unfold rng; omega⟩, Next.keep (k + 1) ⟨by omega, by omega⟩ (by omega) ⟨⟨?_, rfl⟩, ⟨rfl, rfl⟩, trivial⟩ ⟨⟨rfl, rfl⟩, ⟨rfl, rfl⟩, ⟨rfl, rfl⟩, ⟨rfl, rfl⟩, trivial⟩ trivial rfl rfl rfl⟩
                        show some _ = some _
                        rw [hS]
                    · have v1 := of_decide_eq_false v1
                      have hki : k = i := by omega
                      subst hki
                      conv => whnf
                      refine iff_f h4d ?_
                      rw [if_pos hv]
                      have hfin : IntKind.i64.wrap ((dv 0 (q.take k) : Nat) : Int) = (if 0 = 1 then -((dv 0 (q.take k) : Nat) : Int) else ((dv 0 (q.take k) : Nat) : Int)) := by
                        simp [IntKind.wrap, IntKind.bits, IntKind.signed]; omega
                      conv => whnf
                      exact ⟨trivial, fin_drop (by rw [← hfin]; rfl)⟩
                  · have u3 := of_decide_eq_true u3
                    rw [hsc, if_pos (.inr ⟨u2, .inl (by omega)⟩)]
                    conv => whnf
                    exact ⟨by simp only [bs_size, rng, true_and] <;> omega, fin_drop rfl⟩
                · have u2d := u2
                  have u2 : ¬ q[0]? = some 48 := fun e => (of_decide_eq_false u2d) (h48.2 e)
                  rw [hsc, if_neg (by rintro (e | ⟨e, _⟩); exact hi0 e; exact u2 e)]
                  conv => whnf
                  refine iff_f u2d ?_
                  conv => whnf
                  refine iff_f h4d ?_
                  conv => whnf
                  refine ⟨by simp only [bs_size, rng, true_and] <;> omega, LoopAt.keep (α := Nat) [0, 8, 9, 10] (fun k => [(11, .v (.int .u64 ((dv 0 (q.take k) : Nat) : Int))), (12, .v (.int .i64 ((n + 0 + k : Nat) : Int)))]) (fun k => k ≤ i ∧ dv 0 (q.take k) ≤ 9223372036854775807 + 0) (fun k => i - k) 0 ⟨Nat.zero_le _, by simp [dv]⟩ rfl ⟨⟨rfl, rfl⟩, ⟨rfl, rfl⟩, trivial⟩ ⟨⟨rfl, rfl⟩, ⟨rfl, rfl⟩, ⟨rfl, rfl⟩, ⟨rfl, rfl⟩, trivial⟩ trivial ?_⟩
                  rintro k ⟨hk, hv⟩
                  conv => whnf
                  refine ⟨fun v1 => ?_, fun v1 => ?_⟩
                  · have v1 := of_decide_eq_true v1
                    have hki : k < i := by omega
                    have hkq : k < q.length := by omega
                    have hbk := byte_q hq hkq
                    have hDk := isD_iff.1 (nd_all q q[k] (by rw [hNi]; exact List.mem_take_iff_getElem.2 ⟨k, by omega, rfl⟩))
                    have hwd : IntKind.u64.wrap (IntKind.u8.wrap (byteAt (bs l) ((n + 0 + k : Nat) : Int).toNat - 48)) = ((q[k].toNat - 48 : Nat) : Int) := by
                      rw [hbk, IntWalk.u8_in _ (by omega), IntWalk.u64_in _ (by omega)]; omega
                    have hds := dv_succ q hkq
                    have hdm := dv_take_le q (show k + 1 ≤ i by omega)
                    conv => whnf
                    rw [hwd]
                    have hM : IntKind.u64.wrap ((9223372036854775807 : Int) - ((q[k].toNat - 48 : Nat) : Int)) = (9223372036854775807 : Int) - ((q[k].toNat - 48 : Nat) : Int) := IntWalk.u64_in _ (by omega)
                    have hT : ((9223372036854775807 : Int) - ((q[k].toNat - 48 : Nat) : Int)).tdiv 10 = ((9223372036854775807 : Int) - ((q[k].toNat - 48 : Nat) : Int)) / 10 := Int.tdiv_eq_ediv_of_nonneg (by omega)
                    rw [hM, hT]
                    refine ⟨fun v2 => ?_, fun v2 => ?_⟩
                    · have v2 := of_decide_eq_true v2
                      rw [if_neg (show ¬ dv 0 (q.take i) ≤ 9223372036854775807 + 0 by omega)]
                      conv => whnf
                      exact ⟨⟨by simp only [bs_size, true_and]; omega, by decide, IntWalk.u64_in _ (by omega)⟩, fin_drop rfl⟩
                    · have v2 := of_decide_eq_false v2
                      have hS : IntKind.u64.wrap (IntKind.u64.wrap (((dv 0 (q.take k) : Nat) : Int) * 10) + ((q[k].toNat - 48 : Nat) : Int)) = ((dv 0 (q.take (k + 1)) : Nat) : Int) := by
                        rw [IntWalk.u64_in (((dv 0 (q.take k) : Nat) : Int) * 10) (by omega), IntWalk.u64_in _ (by omega)]; omega
                      conv => whnf
                      refine ⟨⟨⟨by simp only [bs_size, true_and]; omega, by decide, IntWalk.u64_in _ (by omega)⟩, by unfold rng; omega⟩, Next.keep (k + 1) ⟨by omega, by omega⟩ (by omega) ⟨⟨?_, rfl⟩, ⟨rfl, rfl⟩, trivial⟩ ⟨⟨rfl, rfl⟩, ⟨rfl, rfl⟩, ⟨rfl, rfl⟩, ⟨rfl, rfl⟩, trivial⟩ trivial rfl rfl rfl⟩
                      show some _ = some _
                      rw [hS]
                  · have v1 := of_decide_eq_false v1
                    have hki : k = i := by omega
                    subst hki
                    conv => whnf
                    refine iff_f h4d ?_
                    rw [if_pos hv]
                    have hfin : IntKind.i64.wrap ((dv 0 (q.take k) : Nat) : Int) = (if 0 = 1 then -((dv 0 (q.take k) : Nat) : Int) else ((dv 0 (q.take k) : Nat) : Int)) := by
                      simp [IntKind.wrap, IntKind.bits, IntKind.signed]; omega
                    conv => whnf
                    exact ⟨trivial, fin_drop (by rw [← hfin]; rfl)⟩
              · have u1 := of_decide_eq_true u1
                rw [hsc, if_pos (.inl (by omega))]
                conv => whnf
                exact ⟨by simp only [bs_size, rng, true_and] <;> omega, fin_drop rfl⟩
          · have t1 := of_decide_eq_false t1
            rw [bs_size] at t1
            have hNi : nd q = i := by
              have e : q.drop i = [] := List.drop_eq_nil_of_le (by omega)
              rw [hN, e]; rfl
            have hsc := scan_of hn hr hsg hqq2 hNi
            have hb0 : ∀ h : 0 < q.length, byteAt (bs l) ((n : Int)).toNat = (q[0].toNat : Int) := fun h => byte_q (i := 0) hq h
            conv => whnf
            refine ⟨fun u1 => ?_, fun u1 => ?_⟩
            · have u1 := of_decide_eq_false u1
              have hi0 : i ≠ 0 := by omega
              have hq0 : 0 < q.length := by omega
              have h48 : (byteAt (bs l) ((n : Int)).toNat = 48) ↔ q[0]? = some 48 := by
                rw [hb0 hq0, List.getElem?_eq_getElem hq0, Option.some.injEq]
                exact u8_is 48
              conv => whnf
              refine ⟨fun u2 => ?_, fun u2 => ?_⟩
              · have u2d := u2
                have u2 := h48.1 (of_decide_eq_true u2)
                conv => whnf
                refine ⟨fun u3 => ?_, fun u3 => ?_⟩
                · have u3 := of_decide_eq_false u3
                  conv => whnf
                  refine iff_t u2d ?_
                  conv => whnf
                  refine iff_f h4d ?_
                  rw [hsc, if_neg (by rintro (e | ⟨_, e⟩) <;> omega)]
                  conv => whnf
                  refine iff_f h4d ?_
                  conv => whnf
                  refine ⟨by simp only [bs_size, rng, true_and] <;> omega, LoopAt.keep (α := Nat) [0, 8, 9, 10] (fun k => [(11, .v (.int .u64 ((dv 0 (q.take k) : Nat) : Int))), (12, .v (.int .i64 ((n + 0 + k : Nat) : Int)))]) (fun k => k ≤ i ∧ dv 0 (q.take k) ≤ 9223372036854775807 + 0) (fun k => i - k) 0 ⟨Nat.zero_le _, by simp [dv]⟩ rfl ⟨⟨rfl, rfl⟩, ⟨rfl, rfl⟩, trivial⟩ ⟨⟨rfl, rfl⟩, ⟨rfl, rfl⟩, ⟨rfl, rfl⟩, ⟨rfl, rfl⟩, trivial⟩ trivial ?_⟩
                  rintro k ⟨hk, hv⟩
                  conv => whnf
                  refine ⟨fun v1 => ?_, fun v1 => ?_⟩
                  · have v1 := of_decide_eq_true v1
                    have hki : k < i := by omega
                    have hkq : k < q.length := by omega
                    have hbk := byte_q hq hkq
                    have hDk := isD_iff.1 (nd_all q q[k] (by rw [hNi]; exact List.mem_take_iff_getElem.2 ⟨k, by omega, rfl⟩))
                    have hwd : IntKind.u64.wrap (IntKind.u8.wrap (byteAt (bs l) ((n + 0 + k : Nat) : Int).toNat - 48)) = ((q[k].toNat - 48 : Nat) : Int) := by
                      rw [hbk, IntWalk.u8_in _ (by omega), IntWalk.u64_in _ (by omega)]; omega
                    have hds := dv_succ q hkq
                    have hdm := dv_take_le q (show k + 1 ≤ i by omega)
                    conv => whnf
                    rw [hwd]
                    have hM : IntKind.u64.wrap ((9223372036854775807 : Int) - ((q[k].toNat - 48 : Nat) : Int)) = (9223372036854775807 : Int) - ((q[k].toNat - 48 : Nat) : Int) := IntWalk.u64_in _ (by omega)
                    have hT : ((9223372036854775807 : Int) - ((q[k].toNat - 48 : Nat) : Int)).tdiv 10 = ((9223372036854775807 : Int) - ((q[k].toNat - 48 : Nat) : Int)) / 10 := Int.tdiv_eq_ediv_of_nonneg (by omega)
                    rw [hM, hT]
                    refine ⟨fun v2 => ?_, fun v2 => ?_⟩
                    · have v2 := of_decide_eq_true v2
                      rw [if_neg (show ¬ dv 0 (q.take i) ≤ 9223372036854775807 + 0 by omega)]
                      conv => whnf
                      exact ⟨⟨by simp only [bs_size, true_and]; omega, by decide, IntWalk.u64_in _ (by omega)⟩, fin_drop rfl⟩
                    · have v2 := of_decide_eq_false v2
                      have hS : IntKind.u64.wrap (IntKind.u64.wrap (((dv 0 (q.take k) : Nat) : Int) * 10) + ((q[k].toNat - 48 : Nat) : Int)) = ((dv 0 (q.take (k + 1)) : Nat) : Int) := by
                        rw [IntWalk.u64_in (((dv 0 (q.take k) : Nat) : Int) * 10) (by omega), IntWalk.u64_in _ (by omega)]; omega
                      conv => whnf
                      refine ⟨⟨⟨by simp only [bs_size, true_and]; omega, by decide, IntWalk.u64_in _ (by omega)⟩, by unfold rng; omega⟩, Next.keep (k + 1) ⟨by omega, by omega⟩ (by omega) ⟨⟨?_, rfl⟩, ⟨rfl, rfl⟩, trivial⟩ ⟨⟨rfl, rfl⟩, ⟨rfl, rfl⟩, ⟨rfl, rfl⟩, ⟨rfl, rfl⟩, trivial⟩ trivial rfl rfl rfl⟩
                      show some _ = some _
                      rw [hS]
                  · have v1 := of_decide_eq_false v1
                    have hki : k = i := by omega
                    subst hki
                    conv => whnf
                    refine iff_f h4d ?_
                    rw [if_pos hv]
                    have hfin : IntKind.i64.wrap ((dv 0 (q.take k) : Nat) : Int) = (if 0 = 1 then -((dv 0 (q.take k) : Nat) : Int) else ((dv 0 (q.take k) : Nat) : Int)) := by
                      simp [IntKind.wrap, IntKind.bits, IntKind.signed]; omega
                    conv => whnf
                    exact ⟨trivial, fin_drop (by rw [← hfin]; rfl)⟩
                · have u3 := of_decide_eq_true u3
                  rw [hsc, if_pos (.inr ⟨u2, .inl (by omega)⟩)]
                  conv => whnf
                  exact ⟨by simp only [bs_size, rng, true_and] <;> omega, fin_drop rfl⟩
              · have u2d := u2
                have u2 : ¬ q[0]? = some 48 := fun e => (of_decide_eq_false u2d) (h48.2 e)
                rw [hsc, if_neg (by rintro (e | ⟨e, _⟩); exact hi0 e; exact u2 e)]
                conv => whnf
                refine iff_f u2d ?_
                conv => whnf
                refine iff_f h4d ?_
                conv => whnf
                refine ⟨by simp only [bs_size, rng, true_and] <;> omega, LoopAt.keep (α := Nat) [0, 8, 9, 10] (fun k => [(11, .v (.int .u64 ((dv 0 (q.take k) : Nat) : Int))), (12, .v (.int .i64 ((n + 0 + k : Nat) : Int)))]) (fun k => k ≤ i ∧ dv 0 (q.take k) ≤ 9223372036854775807 + 0) (fun k => i - k) 0 ⟨Nat.zero_le _, by simp [dv]⟩ rfl ⟨⟨rfl, rfl⟩, ⟨rfl, rfl⟩, trivial⟩ ⟨⟨rfl, rfl⟩, ⟨rfl, rfl⟩, ⟨rfl, rfl⟩, ⟨rfl, rfl⟩, trivial⟩ trivial ?_⟩
                rintro k ⟨hk, hv⟩
                conv => whnf
                refine ⟨fun v1 => ?_, fun v1 => ?_⟩
                · have v1 := of_decide_eq_true v1
                  have hki : k < i := by omega
                  have hkq : k < q.length := by omega
                  have hbk := byte_q hq hkq
                  have hDk := isD_iff.1 (nd_all q q[k] (by rw [hNi]; exact List.mem_take_iff_getElem.2 ⟨k, by omega, rfl⟩))
                  have hwd : IntKind.u64.wrap (IntKind.u8.wrap (byteAt (bs l) ((n + 0 + k : Nat) : Int).toNat - 48)) = ((q[k].toNat - 48 : Nat) : Int) := by
                    rw [hbk, IntWalk.u8_in _ (by omega), IntWalk.u64_in _ (by omega)]; omega
                  have hds := dv_succ q hkq
                  have hdm := dv_take_le q (show k + 1 ≤ i by omega)
                  conv => whnf
                  rw [hwd]
                  have hM : IntKind.u64.wrap ((9223372036854775807 : Int) - ((q[k].toNat - 48 : Nat) : Int)) = (9223372036854775807 : Int) - ((q[k].toNat - 48 : Nat) : Int) := IntWalk.u64_in _ (by omega)
                  have hT : ((9223372036854775807 : Int) - ((q[k].toNat - 48 : Nat) : Int)).tdiv 10 = ((9223372036854775807 : Int) - ((q[k].toNat - 48 : Nat) : Int)) / 10 := Int.tdiv_eq_ediv_of_nonneg (by omega)
                  rw [hM, hT]
                  refine ⟨fun v2 => ?_, fun v2 => ?_⟩
                  · have v2 := of_decide_eq_true v2
                    rw [if_neg (show ¬ dv 0 (q.take i) ≤ 9223372036854775807 + 0 by omega)]
                    conv => whnf
                    exact ⟨⟨by simp only [bs_size, true_and]; omega, by decide, IntWalk.u64_in _ (by omega)⟩, fin_drop rfl⟩
                  · have v2 := of_decide_eq_false v2
                    have hS : IntKind.u64.wrap (IntKind.u64.wrap (((dv 0 (q.take k) : Nat) : Int) * 10) + ((q[k].toNat - 48 : Nat) : Int)) = ((dv 0 (q.take (k + 1)) : Nat) : Int) := by
                      rw [IntWalk.u64_in (((dv 0 (q.take k) : Nat) : Int) * 10) (by omega), IntWalk.u64_in _ (by omega)]; omega
                    conv => whnf
                    refine ⟨⟨⟨by simp only [bs_size, true_and]; omega, by decide, IntWalk.u64_in _ (by omega)⟩, by unfold rng; omega⟩, Next.keep (k + 1) ⟨by omega, by omega⟩ (by omega) ⟨⟨?_, rfl⟩, ⟨rfl, rfl⟩, trivial⟩ ⟨⟨rfl, rfl⟩, ⟨rfl, rfl⟩, ⟨rfl, rfl⟩, ⟨rfl, rfl⟩, trivial⟩ trivial rfl rfl rfl⟩
                    show some _ = some _
                    rw [hS]
                · have v1 := of_decide_eq_false v1
                  have hki : k = i := by omega
                  subst hki
                  conv => whnf
                  refine iff_f h4d ?_
                  rw [if_pos hv]
                  have hfin : IntKind.i64.wrap ((dv 0 (q.take k) : Nat) : Int) = (if 0 = 1 then -((dv 0 (q.take k) : Nat) : Int) else ((dv 0 (q.take k) : Nat) : Int)) := by
                    simp [IntKind.wrap, IntKind.bits, IntKind.signed]; omega
                  conv => whnf
                  exact ⟨trivial, fin_drop (by rw [← hfin]; rfl)⟩
            · have u1 := of_decide_eq_true u1
              rw [hsc, if_pos (.inl (by omega))]
              conv => whnf
              exact ⟨by simp only [bs_size, rng, true_and] <;> omega, fin_drop rfl⟩
      · have h3 := of_decide_eq_false h3
        rw [bs_size] at h3
        have hsg : sgn r = 0 := by
          have : r = [] := List.eq_nil_of_length_eq_zero (by omega)
          rw [this]; rfl
        have hq0 : q.length = 0 := by rw [← hqq, List.length_drop]; omega
        conv => whnf
        refine ⟨trivial, LoopAt.keep (α := Nat) [0, 7, 8] (fun i => [(9, .v (.int .i64 ((n + i : Nat) : Int)))]) (fun i => i = 0) (fun i => i) 0 rfl rfl ⟨⟨rfl, rfl⟩, trivial⟩ ⟨⟨rfl, rfl⟩, ⟨rfl, rfl⟩, ⟨rfl, rfl⟩, trivial⟩ trivial ?_⟩
        rintro i rfl
        have hsc := scan_of (q := q) hn hr hsg (by rw [← hsg]; exact hqq) (i := 0) (by rw [List.eq_nil_of_length_eq_zero hq0]; rfl)
        conv => whnf
        refine ⟨fun t1 => ?_, fun t1 => ?_⟩
        · have t1 := of_decide_eq_true t1
          rw [bs_size] at t1
          exfalso; omega
        · conv => whnf
          refine ⟨fun u1 => ?_, fun u1 => ?_⟩
          · have u1 := of_decide_eq_false u1
            exfalso; omega
          · rw [hsc, if_pos (.inl rfl)]
            conv => whnf
            exact ⟨trivial, fin_drop rfl⟩
  · have h1 : at' < 0 := of_decide_eq_true h1
    have e : scan l at' = (0, 0, 11) := by unfold scan; rw [if_pos (.inl h1)]
    rw [e]
    conv => whnf
    exact ⟨trivial, fin_drop rfl⟩
end Go.Proofs.YtddhamhdenkllaaDoor
