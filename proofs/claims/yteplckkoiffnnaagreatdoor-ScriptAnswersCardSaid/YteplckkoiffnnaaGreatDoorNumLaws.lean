/-
  A number's text is read as the number, and only its own text is.
-/
import Derived.Test.YteplckkoiffnnaaGreatDoorNumRefP
namespace Go.Proofs.YteplckkoiffnnaaGreatDoor
open Go.RowKit
open Sy
set_option linter.unusedVariables false
set_option linter.unusedSimpArgs false
set_option maxRecDepth 100000
set_option maxHeartbeats 4000000

theorem dec_one {u : Nat} (h : u < 10) : Lib.decDigits u = [UInt8.ofNat (48 + u)] := by rw [Lib.decDigits, dif_pos h]
theorem dec_more {u : Nat} (h : ¬ u < 10) : Lib.decDigits u = Lib.decDigits (u / 10) ++ [UInt8.ofNat (48 + u % 10)] := by rw [Lib.decDigits, dif_neg h]
theorem dig_nat {k : Nat} (h : k < 10) : (UInt8.ofNat (48 + k)).toNat = 48 + k := by rw [UInt8.toNat_ofNat']; omega
/-- digits, no needless 0 ahead, and the value -/
theorem dec_facts : ∀ u : Nat, (∀ c ∈ Lib.decDigits u, isD c = true) ∧ dv 0 (Lib.decDigits u) = u ∧ Lib.decDigits u ≠ [] ∧ ((Lib.decDigits u)[0]? = some 48 → u = 0) := by
  intro u
  induction u using Nat.strongRecOn with
  | _ u ih =>
    by_cases c : u < 10
    · rw [dec_one c]
      refine ⟨fun x hx => ?_, ?_, by simp, fun h => ?_⟩
      · simp only [List.mem_singleton] at hx
        subst hx
        rw [isD_iff, dig_nat c]
        omega
      · show 0 * 10 + ((UInt8.ofNat (48 + u)).toNat - 48) = u
        rw [dig_nat c]; omega
      · simp only [List.getElem?_cons_zero, Option.some.injEq] at h
        have := dig_nat c
        rw [h] at this
        have e : (48 : UInt8).toNat = 48 := rfl
        omega
    · obtain ⟨h1, h2, h3, h4⟩ := ih (u / 10) (by omega)
      rw [dec_more c]
      have hm : u % 10 < 10 := Nat.mod_lt _ (by omega)
      refine ⟨fun x hx => ?_, ?_, by simp, fun h => ?_⟩
      · rcases List.mem_append.1 hx with hx | hx
        · exact h1 x hx
        · simp only [List.mem_singleton] at hx
          subst hx
          rw [isD_iff, dig_nat hm]
          omega
      · rw [dv_append, h2]
        show u / 10 * 10 + ((UInt8.ofNat (48 + u % 10)).toNat - 48) = u
        rw [dig_nat hm]; omega
      · have hp : 0 < (Lib.decDigits (u / 10)).length := List.length_pos_iff.2 h3
        rw [List.getElem?_append_left hp] at h
        have := h4 h
        omega
theorem nd_pre : ∀ {ds rest : List UInt8}, (∀ c ∈ ds, isD c = true) → (∀ c, rest[0]? = some c → isD c = false) → nd (ds ++ rest) = ds.length
  | [], [], _, _ => rfl
  | [], c :: rest, _, h => by
    show (if isD c = true then _ else _) = _
    rw [h c rfl]
    rfl
  | c :: ds, rest, h, h' => by
    show (if isD c = true then nd (ds ++ rest) + 1 else 0) = _
    rw [if_pos (h c List.mem_cons_self), nd_pre (fun x hx => h x (List.mem_cons_of_mem _ hx)) h']
    rfl
/-- a number's text, with something behind that is no digit -/
theorem scan_itoa (n : Int) (h0 : -9223372036854775808 ≤ n) (h1 : n ≤ 9223372036854775807) (rest : List UInt8) (hr : ∀ c, rest[0]? = some c → isD c = false) : scan (Lib.itoa n ++ rest) 0 = (n, ((Lib.itoa n).length : Int), 0) := by
  obtain ⟨f1, f2, f3, f4⟩ := dec_facts n.natAbs
  have hl := List.length_pos_iff.2 f3
  have hnd := nd_pre f1 hr
  by_cases c : n < 0
  · have e : Lib.itoa n = 45 :: Lib.decDigits n.natAbs := by unfold Lib.itoa; rw [if_pos c]
    have hs : sgn (Lib.itoa n ++ rest) = 1 := by rw [e]; rfl
    have hq : (Lib.itoa n ++ rest).drop 1 = Lib.decDigits n.natAbs ++ rest := by rw [e]; rfl
    have := scan_of (l := Lib.itoa n ++ rest) (n := 0) (Nat.zero_le _) rfl hs hq hnd
    rw [show ((0 : Nat) : Int) = 0 from rfl] at this
    rw [this, if_neg, List.take_left, f2, if_pos (by omega), e]
    · simp only [if_true, List.length_cons]
      refine Prod.ext (by simp only; omega) (Prod.ext (by simp only; omega) rfl)
    · rw [List.getElem?_append_left hl]
      rintro (h | ⟨h, _⟩)
      · omega
      · have := f4 h; omega
  · have e : Lib.itoa n = Lib.decDigits n.natAbs := by
      unfold Lib.itoa
      rw [if_neg c, show n.toNat = n.natAbs by omega]
    have hs : sgn (Lib.itoa n ++ rest) = 0 := by
      rw [e]
      unfold sgn
      rw [if_neg]
      rw [List.head?_eq_getElem?, List.getElem?_append_left hl, List.getElem?_eq_getElem hl, Option.some.injEq]
      intro h
      have h5 := isD_iff.1 (f1 _ (List.getElem_mem hl))
      rw [h] at h5
      have e : (45 : UInt8).toNat = 45 := rfl
      omega
    have hq : (Lib.itoa n ++ rest).drop 0 = Lib.decDigits n.natAbs ++ rest := by rw [e]; rfl
    have := scan_of (l := Lib.itoa n ++ rest) (n := 0) (Nat.zero_le _) rfl hs hq hnd
    rw [show ((0 : Nat) : Int) = 0 from rfl] at this
    rw [this, if_neg, List.take_left, f2, if_pos (by omega), e]
    · refine Prod.ext (by simp; omega) (Prod.ext (by simp) rfl)
    · rw [List.getElem?_append_left hl]
      rintro (h | ⟨h, h2 | h2⟩)
      · omega
      · have h5 := f4 h
        rw [h5, dec_one (by omega)] at h2
        simp at h2
      · omega
theorem read_itoa (n : Int) (h0 : -9223372036854775808 ≤ n) (h1 : n ≤ 9223372036854775807) : read (Lib.itoa n) = (n, 0) := by
  have := scan_itoa n h0 h1 [] (by simp)
  rw [List.append_nil] at this
  unfold read
  rw [this]
  simp
end Go.Proofs.YteplckkoiffnnaaGreatDoor
