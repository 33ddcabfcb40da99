/-
  What a run of digits stands for, and what strconv.ParseInt makes of it.
-/
import Derived.Test.YtddhamhdenkllaaDoorNum
namespace Go.Proofs.YtddhamhdenkllaaDoor
open Go.RowKit
open Sy
set_option linter.unusedVariables false
set_option linter.unusedSimpArgs false
set_option maxRecDepth 100000
set_option maxHeartbeats 4000000

def dv (a : Nat) (l : List UInt8) : Nat := l.foldl (fun a c => a * 10 + (c.toNat - 48)) a
theorem dv_le : ∀ (l : List UInt8) (a : Nat), a ≤ dv a l
  | [], a => Nat.le_refl _
  | c :: l, a => by
    have := dv_le l (a * 10 + (c.toNat - 48))
    show a ≤ dv (a * 10 + (c.toNat - 48)) l
    omega
theorem dv_append (a : Nat) (l m : List UInt8) : dv a (l ++ m) = dv (dv a l) m := by simp [dv, List.foldl_append]
theorem dv_take_le (l : List UInt8) {i j : Nat} (h : i ≤ j) : dv 0 (l.take i) ≤ dv 0 (l.take j) := by
  have : l.take j = l.take i ++ (l.take j).drop i := by
    have := (List.take_append_drop i (l.take j)).symm
    rwa [List.take_take, Nat.min_eq_left h] at this
  rw [this, dv_append]
  exact dv_le _ _
theorem dv_succ (l : List UInt8) {i : Nat} (h : i < l.length) : dv 0 (l.take (i + 1)) = dv 0 (l.take i) * 10 + (l[i].toNat - 48) := by
  rw [List.take_succ_eq_append_getElem h, dv_append]
  rfl
theorem isD_iff {c : UInt8} : isD c = true ↔ 48 ≤ c.toNat ∧ c.toNat ≤ 57 := by simp [isD]
theorem pM : ∀ (l : List UInt8) (a : Nat), (∀ c ∈ l, isD c = true) → a ≤ 18446744073709551615 → Lib.parseUintM 18446744073709551615 a l = if dv a l ≤ 18446744073709551615 then .ok (dv a l) else .range
  | [], a, _, ha => by
    show Lib.NumEnd.ok a = _
    rw [show dv a [] = a from rfl, if_pos ha]
  | c :: l, a, h, ha => by
    have hc := isD_iff.1 (h c List.mem_cons_self)
    have e : dv a (c :: l) = dv (a * 10 + (c.toNat - 48)) l := rfl
    have h2 := dv_le l (a * 10 + (c.toNat - 48))
    rw [e]
    unfold Lib.parseUintM
    rw [if_pos hc]
    by_cases c1 : 1844674407370955162 ≤ a
    · rw [if_pos c1, if_neg (by omega)]
    · rw [if_neg c1]
      by_cases c2 : 18446744073709551615 < a * 10 + (c.toNat - 48)
      · rw [if_pos c2, if_neg (by omega)]
      · rw [if_neg c2]
        exact pM l _ (fun x hx => h x (List.mem_cons_of_mem _ hx)) (by omega)
theorem nd_all : ∀ (l : List UInt8), ∀ c ∈ l.take (nd l), isD c = true
  | [], c, h => by simp at h
  | a :: l, c, h => by
    unfold nd at h
    split at h
    · rename_i ha
      simp only [List.take_succ_cons, List.mem_cons] at h
      rcases h with rfl | h
      · exact ha
      · exact nd_all l c h
    · simp at h
theorem pU {l : List UInt8} (h0 : l ≠ []) (h : ∀ c ∈ l, isD c = true) : Lib.parseUintB 64 l = if dv 0 l ≤ 18446744073709551615 then .ok (dv 0 l) else .range := by
  unfold Lib.parseUintB
  rw [if_neg h0]
  exact pM l 0 h (by omega)
/-- what ParseInt makes of digits, with or without a '-' -/
theorem pI (r : List UInt8) (hn : 0 < nd (r.drop (sgn r))) (e : Int) : numOf (Lib.parseIntB 64 (r.take (sgn r + nd (r.drop (sgn r))))) e =
    if dv 0 ((r.drop (sgn r)).take (nd (r.drop (sgn r)))) ≤ 9223372036854775807 + sgn r then ((if sgn r = 1 then -(dv 0 ((r.drop (sgn r)).take (nd (r.drop (sgn r)))) : Int) else (dv 0 ((r.drop (sgn r)).take (nd (r.drop (sgn r)))) : Int)), e, 0) else (0, 0, 7) := by
  have hall := nd_all (r.drop (sgn r))
  have hle := nd_le (r.drop (sgn r))
  have hsplit : r.take (sgn r + nd (r.drop (sgn r))) = r.take (sgn r) ++ (r.drop (sgn r)).take (nd (r.drop (sgn r))) := List.take_add
  rw [hsplit]
  generalize hds : (r.drop (sgn r)).take (nd (r.drop (sgn r))) = ds at *
  have hne : ds ≠ [] := by
    intro c
    have : ds.length = nd (r.drop (sgn r)) := by rw [← hds, List.length_take]; omega
    rw [c] at this
    simp at this
    omega
  have hp := pU hne hall
  by_cases hs : r.head? = some 45
  · have h1 : sgn r = 1 := by unfold sgn; rw [if_pos hs]
    obtain ⟨q, rfl⟩ : ∃ q, r = 45 :: q := by
      cases r with
      | nil => simp at hs
      | cons a q => simp at hs; exact ⟨q, by rw [hs]⟩
    rw [h1]
    simp only [List.take_succ_cons, List.take_zero, List.cons_append, List.nil_append]
    have e1 : Lib.parseIntB 64 (45 :: ds) = match Lib.parseUintB 64 ds with
        | Lib.NumEnd.syntax => Lib.NumEnd.syntax
        | .range => .range
        | .ok u => if 9223372036854775808 < u then .range else .ok (-(u : Int)) := by
      unfold Lib.parseIntB
      simp
      cases Lib.parseUintB 64 ds <;> rfl
    rw [e1, hp]
    by_cases c : dv 0 ds ≤ 18446744073709551615
    · rw [if_pos c]
      by_cases c2 : 9223372036854775808 < dv 0 ds
      · simp only [c2, if_true]; rw [if_neg (by omega)]; rfl
      · simp only [c2, if_false]; rw [if_pos (by omega)]; rfl
    · rw [if_neg c, if_neg (by omega)]; rfl
  · have h1 : sgn r = 0 := by unfold sgn; rw [if_neg hs]
    rw [h1]
    simp only [List.take_zero, List.nil_append]
    obtain ⟨a, ds', rfl⟩ : ∃ a ds', ds = a :: ds' := by
      cases ds with
      | nil => exact absurd rfl hne
      | cons a ds' => exact ⟨a, ds', rfl⟩
    have ha := isD_iff.1 (hall a List.mem_cons_self)
    have e1 : Lib.parseIntB 64 (a :: ds') = match Lib.parseUintB 64 (a :: ds') with
        | Lib.NumEnd.syntax => Lib.NumEnd.syntax
        | .range => .range
        | .ok u => if 9223372036854775808 ≤ u then .range else .ok (u : Int) := by
      unfold Lib.parseIntB
      have n1 : ¬ a.toNat = 43 := by omega
      have n2 : ¬ a.toNat = 45 := by omega
      simp [n1, n2]
      cases Lib.parseUintB 64 (a :: ds') <;> rfl
    rw [e1, hp]
    generalize a :: ds' = ds at *
    by_cases c : dv 0 ds ≤ 18446744073709551615
    · rw [if_pos c]
      by_cases c2 : 9223372036854775808 ≤ dv 0 ds
      · simp only [c2, if_true]; rw [if_neg (by omega)]; rfl
      · simp only [c2, if_false]; rw [if_pos (by omega)]; rfl
    · rw [if_neg c, if_neg (by omega)]; rfl
end Go.Proofs.YtddhamhdenkllaaDoor
