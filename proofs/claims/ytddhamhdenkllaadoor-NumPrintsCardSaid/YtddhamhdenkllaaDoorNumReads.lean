/-
  NumPrints, NumReads: the walks.
-/
import Derived.Test.YtddhamhdenkllaaDoorNumScans
import Derived.Test.YtddhamhdenkllaaDoorNumLaws
namespace Go.Proofs.YtddhamhdenkllaaDoor
open Go.RowKit
open Sy
set_option linter.unusedVariables false
set_option linter.unusedSimpArgs false
set_option maxRecDepth 100000
set_option maxHeartbeats 4000000

theorem dv_pos {a : UInt8} {l : List UInt8} (h : isD a = true) (h0 : a ≠ 48) : 0 < dv 0 (a :: l) := by
  have h1 := dv_le l (0 * 10 + (a.toNat - 48))
  have h2 := isD_iff.1 h
  have h3 : a.toNat ≠ 48 := fun e => h0 (UInt8.toNat_inj.1 (by rw [e]; rfl))
  show 0 < dv (0 * 10 + (a.toNat - 48)) l
  omega
theorem dec_dv : ∀ (n : Nat) (ds : List UInt8), ds.length = n → (∀ c ∈ ds, isD c = true) → ds ≠ [] → (ds[0]? = some 48 → ds.length = 1) → Lib.decDigits (dv 0 ds) = ds := by
  intro n
  induction n with
  | zero => intro ds hl hd hne; exact absurd (List.length_eq_zero_iff.1 hl) hne
  | succ n ih =>
    intro ds hl hd hne h48
    obtain ⟨bs1, c, rfl⟩ : ∃ bs1 c, ds = bs1 ++ [c] := ⟨ds.dropLast, ds.getLast hne, (List.dropLast_concat_getLast hne).symm⟩
    have hc := isD_iff.1 (hd c (by simp))
    have hcc : UInt8.ofNat (48 + (c.toNat - 48)) = c := by
      apply UInt8.toNat_inj.1
      rw [UInt8.toNat_ofNat']
      omega
    rw [dv_append]
    show Lib.decDigits (dv 0 bs1 * 10 + (c.toNat - 48)) = _
    cases bs1 with
    | nil =>
      show Lib.decDigits (0 * 10 + (c.toNat - 48)) = [c]
      rw [Nat.zero_mul, Nat.zero_add, dec_one (by omega), hcc]
    | cons a bs1 =>
      have ha : a ≠ 48 := fun e => by
        subst e
        have := h48 (by simp)
        simp at this
      have hp := dv_pos (l := bs1) (hd a (by simp)) ha
      have hi := ih (a :: bs1) (by simpa using hl) (fun x hx => hd x (List.mem_append_left _ hx)) (by simp) (fun h => by simp at h; exact absurd h ha)
      rw [dec_more (by omega)]
      have e1 : (dv 0 (a :: bs1) * 10 + (c.toNat - 48)) / 10 = dv 0 (a :: bs1) := by omega
      have e2 : (dv 0 (a :: bs1) * 10 + (c.toNat - 48)) % 10 = c.toNat - 48 := by omega
      rw [e1, e2, hi, hcc]
/-- what is read is printed as it was -/
theorem itoa_read {l : List UInt8} {n : Int} (h : read l = (n, 0)) : Lib.itoa n = l := by
  have hs := scan_of (l := l) (r := l) (q := l.drop (sgn l)) (n := 0) (Nat.zero_le _) rfl rfl rfl rfl
  rw [show ((0 : Nat) : Int) = 0 from rfl] at hs
  unfold read at h
  have hq := nd_le (l.drop (sgn l))
  have hsl := sgn_le l
  have hlen : (l.drop (sgn l)).length = l.length - sgn l := by simp
  have hall := nd_all (l.drop (sgn l))
  by_cases c : nd (l.drop (sgn l)) = 0 ∨ ((l.drop (sgn l))[0]? = some 48 ∧ (1 < nd (l.drop (sgn l)) ∨ 0 < sgn l))
  · rw [if_pos c] at hs
    rw [hs] at h
    simp at h
  · rw [if_neg c] at hs
    split at hs
    · rename_i hv
      rw [hs] at h
      simp only [ne_eq, not_true_eq_false, if_false] at h
      split at h
      · simp at h
      · rename_i hlt
        have ht : (l.drop (sgn l)).take (nd (l.drop (sgn l))) = l.drop (sgn l) := List.take_of_length_le (by omega)
        rw [ht] at hall h
        have hdd := dec_dv _ (l.drop (sgn l)) rfl hall (fun e => c (.inl (by rw [e]; rfl))) (fun e => by
          by_cases c1 : 1 < nd (l.drop (sgn l))
          · exact absurd (.inr ⟨e, .inl c1⟩) c
          · omega)
        have hn : (if sgn l = 1 then -(dv 0 (l.drop (sgn l)) : Int) else (dv 0 (l.drop (sgn l)) : Int)) = n := (Prod.ext_iff.1 h).1
        cases l with
        | nil => simp [nd] at c
        | cons a l =>
          by_cases ca : a = 45
          · subst ca
            have e1 : sgn (45 :: l) = 1 := rfl
            rw [e1] at hn hdd hall c
            simp only [List.drop_succ_cons, List.drop_zero, if_true] at hn hdd hall c
            have hp : 0 < dv 0 l := by
              cases l with
              | nil => simp [nd] at c
              | cons b l =>
                refine dv_pos (hall b (by simp)) fun e => ?_
                subst e
                exact c (.inr ⟨rfl, .inr (by omega)⟩)
            unfold Lib.itoa
            rw [if_pos (by omega), show n.natAbs = dv 0 l by omega, hdd]
          · have e1 : sgn (a :: l) = 0 := by simp [sgn, ca]
            rw [e1] at hn hdd
            simp only [List.drop_zero, Nat.zero_ne_one, if_false] at hn hdd
            unfold Lib.itoa
            rw [if_neg (by omega), show n.toNat = dv 0 (a :: l) by omega, hdd]
    · rw [hs] at h
      simp at h
theorem read_rng {l : List UInt8} : -9223372036854775808 ≤ (read l).1 ∧ (read l).1 ≤ 9223372036854775807 := by
  have hs := scan_of (l := l) (r := l) (q := l.drop (sgn l)) (n := 0) (Nat.zero_le _) rfl rfl rfl rfl
  rw [show ((0 : Nat) : Int) = 0 from rfl] at hs
  have h1 : sgn l ≤ 1 := by unfold sgn; split <;> omega
  unfold read
  rw [hs]
  by_cases c : nd (l.drop (sgn l)) = 0 ∨ ((l.drop (sgn l))[0]? = some 48 ∧ (1 < nd (l.drop (sgn l)) ∨ 0 < sgn l))
  · rw [if_pos c]; simp
  · rw [if_neg c]
    split
    · rename_i hv
      simp only [ne_eq, not_true_eq_false, if_false]
      split
      · simp
      · simp only
        split <;> omega
    · simp

theorem sNumReads {R : HP} (hN : ∀ w, Sat R w → NumW w) (l : List UInt8) (hl : l.length ≤ 9223372036854775807) : PureR Tryd.prog R 5 [.string (bs l)] (.bool true) := by
  refine fn_of_run0 true Tryd.func5 rfl hmix rfl fun w0 => ?_
  conv => whnf
  refine ⟨trivial, CallAt.pure (fun R' hR' => sAwake fun w hw => hN w (sat_base (hR' w hw))) ?_⟩
  conv => whnf
  refine iff_f rfl ?_
  conv => whnf
  refine ⟨fun h => ?_, fun h => ?_⟩
  · conv => whnf
    exact ⟨trivial, fin_drop rfl⟩
  · have h := of_decide_eq_false h
    rw [bs_size] at h
    have h400 : l.length ≤ 1048576 := by omega
    have hr := read_rng (l := l)
    have hi : (read l).2 = 0 → Lib.itoa (read l).1 = l := fun e => itoa_read (Prod.ext rfl e)
    generalize hx : read l = x at hr hi
    obtain ⟨a, c⟩ := x
    simp only at hr hi
    conv => whnf
    refine ⟨trivial, CallAt.pure (v := .tuple #[.int .i64 a, .int .i64 c]) (fun R' hR' => by have := sRead (fun w hw => hN w (sat_base (hR' w hw))) l h400; rw [hx] at this; exact this) ?_⟩
    conv => whnf
    refine ⟨trivial, CallAt.pure (v := .tuple #[.int .i64 a, .int .i64 c]) (fun R' hR' => by have := sRefRead (R := R') l h400; rw [hx] at this; exact this) ?_⟩
    conv => whnf
    refine iff_t (decide_eq_true rfl) ?_
    conv => whnf
    refine iff_t (decide_eq_true rfl) ?_
    conv => whnf
    refine ⟨fun h7 => ?_, fun h7 => ?_⟩
    · have h7 : c = 0 := by simpa using h7
      conv => whnf
      refine ⟨trivial, CallAt.pure (fun R' hR' => sPrint (fun w hw => hN w (sat_base (hR' w hw))) a hr.1 hr.2) ?_⟩
      conv => whnf
      refine ⟨trivial, fin_drop ?_⟩
      rw [hi h7]
      show Value.bool (decide (bs l = bs l)) = _
      rw [decide_eq_true rfl]
    · conv => whnf
      exact ⟨trivial, fin_drop rfl⟩
theorem sNumPrints {R : HP} (hN : ∀ w, Sat R w → NumW w) (n : Int) (h0 : -9223372036854775808 ≤ n) (h1 : n ≤ 9223372036854775807) (l : List UInt8) (hl : l.length ≤ 9223372036854775807) : PureR Tryd.prog R 4 [.int .i64 n, .string (bs l)] (.bool true) := by
  have hlen := Lib.itoa_length_le n h0 h1
  refine fn_of_run0 true Tryd.func4 rfl hmix rfl fun w0 => ?_
  conv => whnf
  refine ⟨trivial, CallAt.pure (fun R' hR' => sAwake fun w hw => hN w (sat_base (hR' w hw))) ?_⟩
  conv => whnf
  refine iff_f rfl ?_
  conv => whnf
  refine ⟨fun h => ?_, fun h => ?_⟩
  · conv => whnf
    exact ⟨trivial, fin_drop rfl⟩
  · have h := of_decide_eq_false h
    rw [bs_size] at h
    have hs := scan_itoa n h0 h1 (120 :: l) (fun c hc => by simp at hc; subst hc; rfl)
    have hs2 : bs (Lib.itoa n) ++ bs [120] ++ bs l = bs (Lib.itoa n ++ 120 :: l) := by rw [bs_append, bs_append]; simp
    conv => whnf
    refine ⟨trivial, CallAt.pure (fun R' hR' => sPrint (fun w hw => hN w (sat_base (hR' w hw))) n h0 h1) ?_⟩
    conv => whnf
    refine ⟨trivial, CallAt.pure (v := .tuple #[.int .i64 n, .int .i64 0]) (fun R' hR' => by have := sRead (fun w hw => hN w (sat_base (hR' w hw))) (Lib.itoa n) (by omega); rw [read_itoa n h0 h1] at this; exact this) ?_⟩
    conv => whnf
    refine ⟨⟨⟨trivial, ?_⟩, ?_⟩, CallAt.pure (v := scanV (n, ((Lib.itoa n).length : Int), 0)) (fun R' hR' => by
      have := sScan (fun w hw => hN w (sat_base (hR' w hw))) (Lib.itoa n ++ 120 :: l) (by simp; omega) 0
      rw [hs, ← hs2] at this; exact this) ?_⟩
    · show (bs (Lib.itoa n)).size + (bs [120]).size ≤ 9223372036854775807
      rw [bs_size, bs_size]; simp; omega
    · show (bs (Lib.itoa n) ++ bs [120]).size + (bs l).size ≤ 9223372036854775807
      rw [bs_append, bs_size, bs_size]; simp; omega
    conv => whnf
    refine ⟨trivial, CallAt.pure (fun R' hR' => sRefPrint n h0 h1) ?_⟩
    conv => whnf
    refine iff_t (decide_eq_true rfl) ?_
    conv => whnf
    refine iff_t (decide_eq_true rfl) ?_
    conv => whnf
    refine iff_t (decide_eq_true rfl) ?_
    conv => whnf
    refine iff_t (decide_eq_true rfl) ?_
    conv => whnf
    refine iff_t (decide_eq_true (by rw [bs_size])) ?_
    conv => whnf
    exact ⟨trivial, fin_drop rfl⟩
end Go.Proofs.YtddhamhdenkllaaDoor
