/-
  NumPrints, NumReads: the walks.
-/
import Derived.Test.YteplckkoiffnnaaGreatDoorNumScans
import Derived.Test.YteplckkoiffnnaaGreatDoorNumLaws
namespace Go.Proofs.YteplckkoiffnnaaGreatDoor
open Go.RowKit
open Sy
set_option linter.unusedVariables false
set_option linter.unusedSimpArgs false
set_option maxRecDepth 100000
set_option maxHeartbeats 4000000

theorem dv_pos {a : UInt8} {l : List UInt8} (h : isD a = true) (h0 : a ≠ 48) : 0 < dv 0 (a :: l) := by
  have h1 := dv_le l (0 * 10 + (a.toNat - 48))
  have h2 := isD_iff.1 h
  have h3 : a.toNat ≠ 48 := fun e => h0 (UInt8.toNat_inj.1 (by rw [e]; rfl))
  show 0 < dv (0 * 10 + (a.toNat - 48)) l
  omega
theorem dec_dv : ∀ (n : Nat) (ds : List UInt8), ds.length = n → (∀ c ∈ ds, isD c = true) → ds ≠ [] → (ds[0]? = some 48 → ds.length = 1) → Lib.decDigits (dv 0 ds) = ds := by
  intro n
  induction n with
  | zero => intro ds hl hd hne; exact absurd (List.length_eq_zero_iff.1 hl) hne
  | succ n ih =>
    intro ds hl hd hne h48
    obtain ⟨bs1, c, rfl⟩ : ∃ bs1 c, ds = bs1 ++ [c] := ⟨ds.dropLast, ds.getLast hne, (List.dropLast_concat_getLast hne).symm⟩
    have hc := isD_iff.1 (hd c (by simp))
    have hcc : UInt8.ofNat (48 + (c.toNat - 48)) = c := by
      apply UInt8.toNat_inj.1
      rw [UInt8.toNat_ofNat']
      omega
    rw [dv_append]
    show Lib.decDigits (dv 0 bs1 * 10 + (c.toNat - 48)) = _
    cases bs1 with
    | nil =>
      show Lib.decDigits (0 * 10 + (c.toNat - 48)) = [c]
      rw [Nat.zero_mul, Nat.zero_add, dec_one (by omega), hcc]
    | cons a bs1 =>
      have ha : a ≠ 48 := fun e => by
        subst e
        have := h48 (by simp)
        simp at this
      have hp := dv_pos (l := bs1) (hd a (by simp)) ha
      have hi := ih (a :: bs1) (by simpa using hl) (fun x hx => hd x (List.mem_append_left _ hx)) (by simp) (fun h => by simp at h; exact absurd h ha)
      rw [dec_more (by omega)]
      have e1 : (dv 0 (a :: bs1) * 10 + (c.toNat - 48)) / 10 = dv 0 (a :: bs1) := by omega
      have e2 : (dv 0 (a :: bs1) * 10 + (c.toNat - 48)) % 10 = c.toNat - 48 := by omega
      rw [e1, e2, hi, hcc]
/-- what is read is printed as it was -/
theorem itoa_read {l : List UInt8} {n : Int} (h : read l = (n, 0)) : Lib.itoa n = l := by
  have hs := scan_of (l := l) (r := l) (q := l.drop (sgn l)) (n := 0) (Nat.zero_le _) rfl rfl rfl rfl
  rw [show ((0 : Nat) : Int) = 0 from rfl] at hs
  unfold read at h
  have hq := nd_le (l.drop (sgn l))
  have hsl := sgn_le l
  have hlen : (l.drop (sgn l)).length = l.length - sgn l := by simp
  have hall := nd_all (l.drop (sgn l))
  by_cases c : nd (l.drop (sgn l)) = 0 ∨ ((l.drop (sgn l))[0]? = some 48 ∧ (1 < nd (l.drop (sgn l)) ∨ 0 < sgn l))
  · rw [if_pos c] at hs
    rw [hs] at h
    simp at h
  · rw [if_neg c] at hs
    split at hs
    · rename_i hv
      rw [hs] at h
      simp only [ne_eq, not_true_eq_false, if_false] at h
      split at h
      · simp at h
      · rename_i hlt
        have ht : (l.drop (sgn l)).take (nd (l.drop (sgn l))) = l.drop (sgn l) := List.take_of_length_le (by omega)
        rw [ht] at hall h
        have hdd := dec_dv _ (l.drop (sgn l)) rfl hall (fun e => c (.inl (by rw [e]; rfl))) (fun e => by
          by_cases c1 : 1 < nd (l.drop (sgn l))
          · exact absurd (.inr ⟨e, .inl c1⟩) c
          · omega)
        have hn : (if sgn l = 1 then -(dv 0 (l.drop (sgn l)) : Int) else (dv 0 (l.drop (sgn l)) : Int)) = n := (Prod.ext_iff.1 h).1
        cases l with
        | nil => simp [nd] at c
        | cons a l =>
          by_cases ca : a = 45
          · subst ca
            have e1 : sgn (45 :: l) = 1 := rfl
            rw [e1] at hn hdd hall c
            simp only [List.drop_succ_cons, List.drop_zero, if_true] at hn hdd hall c
            have hp : 0 < dv 0 l := by
              cases l with
              | nil => simp [nd] at c
              | cons b l =>
                refine dv_pos (hall b (by simp)) fun e => ?_
                subst e
                exact c (.inr ⟨rfl, .inr (by omega)⟩)
            unfold Lib.itoa
            rw [if_pos (by omega), show n.natAbs = dv 0 l by omega, hdd]
          · have e1 : sgn (a :: l) = 0 := by simp [sgn, ca]
            rw [e1] at hn hdd
            simp only [List.drop_zero, Nat.zero_ne_one, if_false] at hn hdd
            unfold Lib.itoa
            rw [if_neg (by omega), show n.toNat = dv 0 (a :: l) by omega, hdd]
    · rw [hs] at h
      simp at h
theorem read_rng {l : List UInt8} : -9223372036854775808 ≤ (read l).1 ∧ (read l).1 ≤ 9223372036854775807 := by
  have hs := scan_of (l := l) (r := l) (q := l.drop (sgn l)) (n := 0) (Nat.zero_le _) rfl rfl rfl rfl
  rw [show ((0 : Nat) : Int) = 0 from rfl] at hs
  have h1 : sgn l ≤ 1 := by unfold sgn; split <;> omega
  unfold read
  rw [hs]
  by_cases c : nd (l.drop (sgn l)) = 0 ∨ ((l.drop (sgn l))[0]? = some 48 ∧ (1 < nd (l.drop (sgn l)) ∨ 0 < sgn l))
  · rw [if_pos c]; simp
  · rw [if_neg c]
    split
    · rename_i hv
      simp only [ne_eq, not_true_eq_false, if_false]
      split
      · simp
      · simp only
        split <;> omega
    · simp

end Go.Proofs.YteplckkoiffnnaaGreatDoor
