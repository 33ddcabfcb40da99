/-
  num.Scan, num.Read, num.Print.
-/
import Derived.Test.YtddhamhdenkllaaDoorNumLib
namespace Go.Proofs.YtddhamhdenkllaaDoor
open Go.RowKit
open Sy
set_option linter.unusedVariables false
set_option linter.unusedSimpArgs false
set_option maxRecDepth 100000
set_option maxHeartbeats 4000000

/-- one byte if it begins with a '-' -/
def sgn (r : List UInt8) : Nat := if r.head? = some 45 then 1 else 0
theorem trim_sgn (r : List UInt8) : Lib.trimPrefix r [45] = r.drop (sgn r) := by
  cases r with
  | nil => rfl
  | cons a r =>
    unfold Lib.trimPrefix Lib.hasPrefix sgn
    by_cases c : a = 45
    · subst c; simp
    · have : ¬ (45 : UInt8) = a := fun e => c e.symm
      simp [c, this]
def numOf (p : Lib.NumEnd Int) (e : Int) : Int × Int × Int := match p with
  | .ok v => (v, e, 0)
  | _ => (0, 0, 7)
def scan (l : List UInt8) (at' : Int) : Int × Int × Int :=
  if at' < 0 ∨ (l.length : Int) < at' then (0, 0, 11) else
  let r := l.drop at'.toNat
  let n := nd (r.drop (sgn r))
  if n = 0 ∨ ((r.drop (sgn r))[0]? = some 48 ∧ (1 < n ∨ 0 < sgn r)) then (0, 0, 12) else
  numOf (Lib.parseIntB 64 (r.take (sgn r + n))) (at' + sgn r + n)
abbrev scanV (x : Int × Int × Int) : Value := .tuple #[.int .i64 x.1, .int .i64 x.2.1, .int .i64 x.2.2]
theorem sgn_le (r : List UInt8) : sgn r ≤ r.length := by
  cases r with
  | nil => simp [sgn]
  | cons a r => unfold sgn; split <;> simp
theorem u8_48 {l : List UInt8} (h : 0 < l.length) : (byteAt (bs l) 0 = 48) ↔ l[0]? = some 48 := by
  cases l with
  | nil => simp at h
  | cons a l =>
    rw [byteAt_bs]
    simp only [List.getElem?_cons_zero, Option.getD_some, Option.some.injEq]
    constructor
    · intro e
      apply UInt8.toNat_inj.1
      have : a.toNat = 48 := by omega
      rw [this]; rfl
    · rintro rfl; rfl

theorem sScan {R : HP} (hN : ∀ w, Sat R w → NumW w) (l : List UInt8) (hl : l.length ≤ 1048576) (at' : Int) : PureR Tryd.prog R 7 [.string (bs l), .int .i64 at'] (scanV (scan l at')) := by
  refine fn_of_run0 false Tryd.func7 rfl hmix rfl fun w0 => ?_
  conv => whnf
  refine ⟨fun h1 => ?_, fun h1 => ?_⟩
  · have h1 : ¬ at' < 0 := of_decide_eq_false h1
    conv => whnf
    refine ⟨fun h2 => ?_, fun h2 => ?_⟩
    · have h2 : ((bs l).size : Int) < at' := of_decide_eq_true h2
      rw [bs_size] at h2
      have e : scan l at' = (0, 0, 11) := by unfold scan; rw [if_pos (.inr h2)]
      rw [e]
      conv => whnf
      exact ⟨trivial, fin_drop rfl⟩
    · have h2 : ¬ ((bs l).size : Int) < at' := of_decide_eq_false h2
      rw [bs_size] at h2
      obtain ⟨n, rfl⟩ : ∃ n : Nat, at' = (n : Int) := ⟨at'.toNat, by omega⟩
      have hn : n ≤ l.length := by omega
      have ext : (bs l).extract (n : Int).toNat ((bs l).size : Int).toNat = bs (l.drop n) := by
        rw [bs_extract, Int.toNat_natCast, Int.toNat_natCast, bs_size, List.take_length]
      obtain ⟨r, hr⟩ : ∃ r, l.drop n = r := ⟨_, rfl⟩
      have hrl : r.length = l.length - n := by rw [← hr]; simp
      obtain ⟨q, hq⟩ : ∃ q, r.drop (sgn r) = q := ⟨_, rfl⟩
      have hql : q.length = r.length - sgn r := by rw [← hq]; simp
      have hsg := sgn_le r
      have hnd := nd_le q
      conv => whnf
      refine ⟨⟨trivial, by rw [bs_size]; omega⟩, CallAt.pure (v := .string (bs q)) (fun R' hR' => ?_) ?_⟩
      · rw [ext, hr, ← hq, ← trim_sgn]
        exact sTrim r [45]
      conv => whnf
      refine ⟨⟨⟨trivial, by rw [bs_size]; unfold rng; omega⟩, by rw [bs_size, bs_size]; unfold rng; omega⟩, CallAt.pure (fun R' hR' => sDigits q (by omega)) ?_⟩
      have hN2 : (scan l (n : Int)) = (if nd q = 0 ∨ (q[0]? = some 48 ∧ (1 < nd q ∨ 0 < sgn r)) then (0, 0, 12) else
          numOf (Lib.parseIntB 64 (r.take (sgn r + nd q))) ((n : Int) + sgn r + nd q)) := by
        unfold scan
        rw [if_neg (by omega)]
        simp only [Int.toNat_natCast, hr, hq]
      have ext2 : (bs l).extract (n : Int).toNat ((n : Int) + (((bs l).size : Int) - n - ((bs q).size : Int)) + (nd q : Int)).toNat = bs (r.take (sgn r + nd q)) := by
        rw [bs_extract, bs_size, bs_size]
        congr 1
        rw [List.drop_take, Int.toNat_natCast, hr]
        congr 1
        omega
      have sub1 : (n : Int) + (((bs l).size : Int) - n - ((bs q).size : Int)) + (nd q : Int) = (n : Int) + sgn r + nd q := by rw [bs_size, bs_size]; omega
      have sub2 : ((bs l).size : Int) - n - ((bs q).size : Int) = sgn r := by rw [bs_size, bs_size]; omega
      rw [sub2] at ext2
      have hsl : (r.take (sgn r + nd q)).length ≤ 1048576 := by rw [List.length_take]; omega
      rw [sub2]
      conv => whnf
      refine ⟨fun h3 => ?_, fun h3 => ?_⟩
      · have h3 : ¬ (nd q : Int) = 0 := of_decide_eq_false h3
        have hq0 : 0 < q.length := by omega
        have h48 := u8_48 hq0
        conv => whnf
        refine ⟨fun h4 => ?_, fun h4 => ?_⟩
        · have h4 := h48.1 (of_decide_eq_true h4)
          conv => whnf
          refine ⟨fun h5 => ?_, fun h5 => ?_⟩
          · have h5 := of_decide_eq_false h5
            conv => whnf
            refine ⟨fun h6 => ?_, fun h6 => ?_⟩
            · have h6 := of_decide_eq_true h6
              rw [hN2, if_pos (.inr ⟨h4, .inr (by omega)⟩)]
              conv => whnf
              exact ⟨⟨trivial, by rw [bs_size]; omega⟩, fin_drop rfl⟩
            · have h6 := of_decide_eq_false h6
              rw [hN2, if_neg (by omega)]
              conv => whnf
              refine ⟨⟨⟨⟨⟨trivial, by rw [bs_size]; omega⟩, by unfold rng; omega⟩, by unfold rng; omega⟩, by rw [bs_size]; omega⟩, ?_⟩
              by_cases hp : ∃ v, Lib.parseIntB 64 (r.take (sgn r + nd q)) = .ok v
              · obtain ⟨v, hp⟩ := hp
                refine CallAt.pure (v := .tuple #[.int .i64 v, .nilIface]) (fun R' hR' => by rw [ext2]; exact sParse _ (by omega) hp) ?_
                conv => whnf
                rw [hp]
                refine iff_f rfl ?_
                conv => whnf
                exact ⟨trivial, fin_drop rfl⟩
              · refine CallAt.fn (pre := []) [] (fun h s => s) (fun R' hR' => by rw [ext2]; exact sParseBad (fun w hw => hN w (sat_base (hR' w hw))) _ (by omega) fun v hv => hp ⟨v, hv⟩) ?_
                rintro _ _ ⟨z, N, rfl, rfl⟩
                have e7 : numOf (Lib.parseIntB 64 (r.take (sgn r + nd q))) ((n : Int) + sgn r + nd q) = (0, 0, 7) := by
                  cases c : Lib.parseIntB 64 (r.take (sgn r + nd q)) with
                  | ok v => exact absurd ⟨v, c⟩ hp
                  | _ => rfl
                rw [e7]
                conv => whnf
                refine iff_t rfl ?_
                conv => whnf
                exact ⟨trivial, fin_drop rfl⟩
          · have h5 := of_decide_eq_true h5
            rw [hN2, if_pos (.inr ⟨h4, .inl (by omega)⟩)]
            conv => whnf
            exact ⟨⟨trivial, by rw [bs_size]; omega⟩, fin_drop rfl⟩
        · have h4 : ¬ q[0]? = some 48 := fun e => (of_decide_eq_false h4) (h48.2 e)
          rw [hN2, if_neg (by rintro (e | ⟨e, _⟩); omega; exact h4 e)]
          conv => whnf
          refine ⟨⟨⟨⟨⟨trivial, by rw [bs_size]; omega⟩, by unfold rng; omega⟩, by unfold rng; omega⟩, by rw [bs_size]; omega⟩, ?_⟩
          by_cases hp : ∃ v, Lib.parseIntB 64 (r.take (sgn r + nd q)) = .ok v
          · obtain ⟨v, hp⟩ := hp
            refine CallAt.pure (v := .tuple #[.int .i64 v, .nilIface]) (fun R' hR' => by rw [ext2]; exact sParse _ (by omega) hp) ?_
            conv => whnf
            rw [hp]
            refine iff_f rfl ?_
            conv => whnf
            exact ⟨trivial, fin_drop rfl⟩
          · refine CallAt.fn (pre := []) [] (fun h s => s) (fun R' hR' => by rw [ext2]; exact sParseBad (fun w hw => hN w (sat_base (hR' w hw))) _ (by omega) fun v hv => hp ⟨v, hv⟩) ?_
            rintro _ _ ⟨z, N, rfl, rfl⟩
            have e7 : numOf (Lib.parseIntB 64 (r.take (sgn r + nd q))) ((n : Int) + sgn r + nd q) = (0, 0, 7) := by
              cases c : Lib.parseIntB 64 (r.take (sgn r + nd q)) with
              | ok v => exact absurd ⟨v, c⟩ hp
              | _ => rfl
            rw [e7]
            conv => whnf
            refine iff_t rfl ?_
            conv => whnf
            exact ⟨trivial, fin_drop rfl⟩
      · have h3 := of_decide_eq_true h3
        rw [hN2, if_pos (.inl (by omega))]
        conv => whnf
        exact ⟨trivial, fin_drop rfl⟩
  · have h1 : at' < 0 := of_decide_eq_true h1
    have e : scan l at' = (0, 0, 11) := by unfold scan; rw [if_pos (.inl h1)]
    rw [e]
    conv => whnf
    exact ⟨trivial, fin_drop rfl⟩
def read (l : List UInt8) : Int × Int :=
  let x := scan l 0
  if x.2.2 ≠ 0 then (0, x.2.2) else if x.2.1 < l.length then (0, 12) else (x.1, 0)
theorem sRead {R : HP} (hN : ∀ w, Sat R w → NumW w) (l : List UInt8) (hl : l.length ≤ 1048576) : PureR Tryd.prog R 10 [.string (bs l)] (.tuple #[.int .i64 (read l).1, .int .i64 (read l).2]) := by
  obtain ⟨x, hx⟩ : ∃ x, scan l 0 = x := ⟨_, rfl⟩
  have hr : read l = (if x.2.2 ≠ 0 then (0, x.2.2) else if x.2.1 < l.length then (0, 12) else (x.1, 0)) := by unfold read; rw [hx]
  refine fn_of_run0 false Tryd.func10 rfl hmix rfl fun w0 => ?_
  conv => whnf
  refine ⟨trivial, CallAt.pure (v := scanV x) (fun R' hR' => by rw [← hx]; exact sScan (fun w hw => hN w (sat_base (hR' w hw))) l hl 0) ?_⟩
  obtain ⟨a, b, c⟩ := x
  simp only at hr
  conv => whnf
  refine ⟨fun h1 => ?_, fun h1 => ?_⟩
  · have h1 : c ≠ 0 := by simpa using h1
    rw [hr, if_pos h1]
    conv => whnf
    exact ⟨trivial, fin_drop rfl⟩
  · have h1 : c = 0 := by simpa using h1
    rw [hr, if_neg (by simpa using h1)]
    conv => whnf
    refine ⟨fun h2 => ?_, fun h2 => ?_⟩
    · have h2 := of_decide_eq_true h2
      rw [bs_size] at h2
      rw [if_pos h2]
      conv => whnf
      exact ⟨trivial, fin_drop rfl⟩
    · have h2 := of_decide_eq_false h2
      rw [bs_size] at h2
      rw [if_neg h2]
      conv => whnf
      exact ⟨trivial, fin_drop rfl⟩
theorem sPrint {R : HP} (hN : ∀ w, Sat R w → NumW w) (n : Int) (h0 : -9223372036854775808 ≤ n) (h1 : n ≤ 9223372036854775807) : PureR Tryd.prog R 9 [.int .i64 n] (.string (bs (Lib.itoa n))) := by
  refine fn_of_run0 false Tryd.func9 rfl hmix rfl fun w0 => ?_
  conv => whnf
  refine ⟨trivial, CallAt.pure (fun R' hR' => sFormat (fun w hw => hN w (sat_base (hR' w hw))) n h0 h1) ?_⟩
  conv => whnf
  exact ⟨trivial, fin_drop rfl⟩
end Go.Proofs.YtddhamhdenkllaaDoor
