/-
  The document's Read and Print.
-/
import Derived.Test.YtdfedfoncoppgaaDoorNumRef
import Derived.Lib.ItoaLen
namespace Go.Proofs.YtdfedfoncoppgaaDoor
open Go.RowKit
open Sy
set_option linter.unusedVariables false
set_option linter.unusedSimpArgs false
set_option maxRecDepth 100000
set_option maxHeartbeats 4000000

theorem scan_end {l : List UInt8} (x : Int × Int × Int) (h : scan l 0 = x) : x.2.1 ≤ l.length := by
  unfold scan at h
  split at h
  · subst h; simp
  · simp only [Int.toNat_zero, List.drop_zero] at h
    split at h
    · subst h; simp
    · have h1 := sgn_le l
      have h2 := nd_le (l.drop (sgn l))
      rw [List.length_drop] at h2
      unfold numOf at h
      split at h
      · subst h; simp only; omega
      · subst h; simp
theorem sRefRead {R : HP} (l : List UInt8) (hl : l.length ≤ 1048576) : PureR Tryd.prog R 12 [.string (bs l)] (.tuple #[.int .i64 (read l).1, .int .i64 (read l).2]) := by
  obtain ⟨x, hx⟩ : ∃ x, scan l 0 = x := ⟨_, rfl⟩
  have he := scan_end x hx
  have hr : read l = (if x.2.2 ≠ 0 then (0, x.2.2) else if x.2.1 < l.length then (0, 12) else (x.1, 0)) := by unfold read; rw [hx]
  refine fn_of_run0 true Tryd.func12 rfl hmix rfl fun w0 => ?_
  conv => whnf
  refine ⟨trivial, CallAt.pure (v := scanV x) (fun R' hR' => by rw [← hx]; exact sRefScan l hl 0) ?_⟩
  obtain ⟨a, b, c⟩ := x
  simp only at hr he
  conv => whnf
  refine ⟨fun h1 => ?_, fun h1 => ?_⟩
  · have h1 : c ≠ 0 := by simpa using h1
    rw [hr, if_pos h1]
    conv => whnf
    exact ⟨trivial, fin_drop rfl⟩
  · have h1 : c = 0 := by simpa using h1
    rw [hr, if_neg (by simpa using h1)]
    conv => whnf
    refine ⟨fun h2 => ?_, fun h2 => ?_⟩
    · have h2 : b ≠ ((bs l).size : Int) := by simpa using h2
      rw [bs_size] at h2
      rw [if_pos (by omega)]
      conv => whnf
      exact ⟨trivial, fin_drop rfl⟩
    · have h2 : b = ((bs l).size : Int) := by simpa using h2
      rw [bs_size] at h2
      rw [if_neg (by omega)]
      conv => whnf
      exact ⟨trivial, fin_drop rfl⟩

def dg (u : Nat) : List UInt8 := if u = 0 then [] else Lib.decDigits u
theorem dg_step {u : Nat} (h : 0 < u) : dg u = dg (u / 10) ++ [UInt8.ofNat (48 + u % 10)] := by
  have h0 : u ≠ 0 := by omega
  unfold dg
  rw [if_neg h0, Lib.decDigits]
  split
  · rw [if_pos (by omega), Nat.mod_eq_of_lt (by omega)]; rfl
  · rw [if_neg (by omega)]
theorem sRefPrint {R : HP} (n : Int) (h0 : -9223372036854775808 ≤ n) (h1 : n ≤ 9223372036854775807) : PureR Tryd.prog R 11 [.int .i64 n] (.string (bs (Lib.itoa n))) := by
  have hlen := Lib.itoa_length_le n h0 h1
  refine fn_of_run0 true Tryd.func11 rfl hmix rfl fun w0 => ?_
  conv => whnf
  refine ⟨fun c => ?_, fun c => ?_⟩
  · have c := of_decide_eq_true c
    subst c
    have e : Lib.itoa 0 = [48] := by rw [Lib.itoa, if_neg (by omega)]; unfold Lib.decDigits; rfl
    rw [e]
    conv => whnf
    exact ⟨trivial, fin_drop rfl⟩
  · have c := of_decide_eq_false c
    conv => whnf
    refine ⟨fun d => ?_, fun d => ?_⟩
    · have d' := of_decide_eq_true d
      have hU : IntKind.u64.wrap (0 - IntKind.u64.wrap n) = ((n.natAbs : Nat) : Int) := by
        simp [IntKind.wrap, IntKind.bits, IntKind.signed]; omega
      conv => whnf
      rw [hU]
      refine ⟨trivial, LoopAt.heap (α := Nat × List UInt8) [0] (fun a => [(3, .v (.int .u64 (a.1 : Int))), (4, .v (.string (bs a.2)))]) (fun a => []) (fun a => dg n.natAbs = dg a.1 ++ a.2 ∧ a.1 ≤ n.natAbs) (fun a => a.1) (n.natAbs, []) ⟨by simp, Nat.le_refl _⟩ rfl ⟨⟨rfl, rfl⟩, ⟨rfl, rfl⟩, trivial⟩ ⟨⟨rfl, rfl⟩, trivial⟩ trivial (fun h s => sub_same s) ?_⟩
      rintro ⟨u, s⟩ ⟨hu, hle⟩
      simp only at hu hle
      have hsl : s.length ≤ 21 := by
        have : (dg n.natAbs).length ≤ 21 := by
          unfold dg
          rw [if_neg (by omega)]
          by_cases c0 : n < 0
          · have e : Lib.itoa n = 45 :: Lib.decDigits n.natAbs := by unfold Lib.itoa; rw [if_pos c0]
            rw [e, List.length_cons] at hlen; omega
          · have e : Lib.itoa n = Lib.decDigits n.natAbs := by unfold Lib.itoa; rw [if_neg c0, show n.toNat = n.natAbs by omega]
            rw [e] at hlen; exact hlen
        rw [hu, List.length_append] at this
        omega
      conv => whnf
      refine ⟨fun v => ?_, fun v => ?_⟩
      · have v := of_decide_eq_true v
        have hst := dg_step (u := u) (by omega)
        have hd : IntKind.u8.wrap (IntKind.u64.wrap (48 + (u : Int).tmod 10)) = ((UInt8.ofNat (48 + u % 10)).toNat : Int) := by
          rw [Int.tmod_eq_emod_of_nonneg (by omega), IntWalk.u64_in _ (by omega), IntWalk.u8_in _ (by omega), UInt8.toNat_ofNat']
          omega
        conv => whnf
        rw [hd]
        refine ⟨⟨trivial, by decide⟩, OpAt.lit [.int .u8 ((UInt8.ofNat (48 + u % 10)).toNat : Int)] 1 rfl rfl rfl rfl rfl (by decide) rfl rfl rfl (by simp [Value.cells]) rfl (by decide) fun g => ?_⟩
        conv => whnf
        refine ⟨trivial, OpAt.bytesStr g 1 1 [UInt8.ofNat (48 + u % 10)] [] rfl (fun h s => s) rfl rfl rfl rfl rfl ?_⟩
        conv => whnf
        have hq : (u : Int).tdiv 10 = ((u / 10 : Nat) : Int) := by rw [Int.tdiv_eq_ediv_of_nonneg (by omega)]; omega
        refine ⟨⟨⟨trivial, by simp only [bs_size, List.length_singleton]; omega⟩, by decide, by rw [hq]; exact IntWalk.u64_in _ (by omega)⟩, Next.heap (u / 10, UInt8.ofNat (48 + u % 10) :: s) ⟨by rw [hu, hst]; simp, by simp only; omega⟩ (by simp only; omega) ⟨⟨?_, rfl⟩, ⟨?_, rfl⟩, trivial⟩ ⟨⟨rfl, rfl⟩, trivial⟩ trivial rfl rfl fun h s => sub_nil s⟩
        · show some _ = some _
          rw [hq]
        · show some _ = some _
          rw [bs_append]
          rfl
      · have v := of_decide_eq_false v
        have hu0 : u = 0 := by omega
        subst hu0
        have hs : Lib.decDigits n.natAbs = s := by
          have : dg n.natAbs = s := by rw [hu]; rfl
          unfold dg at this
          rwa [if_neg (by omega)] at this
        subst hs
        conv => whnf
        refine iff_t d ?_
        have e : Lib.itoa n = 45 :: Lib.decDigits n.natAbs := by unfold Lib.itoa; rw [if_pos d']
        rw [e]
        conv => whnf
        refine ⟨⟨trivial, ?_⟩, fin_drop ?_⟩
        · show 1 + (bs (Lib.decDigits n.natAbs)).size ≤ 9223372036854775807
          rw [bs_size]; omega
        · show Value.string (bs [45] ++ bs (Lib.decDigits n.natAbs)) = _
          rw [bs_append]; rfl
    · have d' := of_decide_eq_false d
      have hU : IntKind.u64.wrap n = ((n.natAbs : Nat) : Int) := by
        rw [IntWalk.u64_in _ (by omega)]; omega
      conv => whnf
      rw [hU]
      refine ⟨trivial, LoopAt.heap (α := Nat × List UInt8) [0] (fun a => [(3, .v (.int .u64 (a.1 : Int))), (4, .v (.string (bs a.2)))]) (fun a => []) (fun a => dg n.natAbs = dg a.1 ++ a.2 ∧ a.1 ≤ n.natAbs) (fun a => a.1) (n.natAbs, []) ⟨by simp, Nat.le_refl _⟩ rfl ⟨⟨rfl, rfl⟩, ⟨rfl, rfl⟩, trivial⟩ ⟨⟨rfl, rfl⟩, trivial⟩ trivial (fun h s => sub_same s) ?_⟩
      rintro ⟨u, s⟩ ⟨hu, hle⟩
      simp only at hu hle
      have hsl : s.length ≤ 21 := by
        have : (dg n.natAbs).length ≤ 21 := by
          unfold dg
          rw [if_neg (by omega)]
          by_cases c0 : n < 0
          · have e : Lib.itoa n = 45 :: Lib.decDigits n.natAbs := by unfold Lib.itoa; rw [if_pos c0]
            rw [e, List.length_cons] at hlen; omega
          · have e : Lib.itoa n = Lib.decDigits n.natAbs := by unfold Lib.itoa; rw [if_neg c0, show n.toNat = n.natAbs by omega]
            rw [e] at hlen; exact hlen
        rw [hu, List.length_append] at this
        omega
      conv => whnf
      refine ⟨fun v => ?_, fun v => ?_⟩
      · have v := of_decide_eq_true v
        have hst := dg_step (u := u) (by omega)
        have hd : IntKind.u8.wrap (IntKind.u64.wrap (48 + (u : Int).tmod 10)) = ((UInt8.ofNat (48 + u % 10)).toNat : Int) := by
          rw [Int.tmod_eq_emod_of_nonneg (by omega), IntWalk.u64_in _ (by omega), IntWalk.u8_in _ (by omega), UInt8.toNat_ofNat']
          omega
        conv => whnf
        rw [hd]
        refine ⟨⟨trivial, by decide⟩, OpAt.lit [.int .u8 ((UInt8.ofNat (48 + u % 10)).toNat : Int)] 1 rfl rfl rfl rfl rfl (by decide) rfl rfl rfl (by simp [Value.cells]) rfl (by decide) fun g => ?_⟩
        conv => whnf
        refine ⟨trivial, OpAt.bytesStr g 1 1 [UInt8.ofNat (48 + u % 10)] [] rfl (fun h s => s) rfl rfl rfl rfl rfl ?_⟩
        conv => whnf
        have hq : (u : Int).tdiv 10 = ((u / 10 : Nat) : Int) := by rw [Int.tdiv_eq_ediv_of_nonneg (by omega)]; omega
        refine ⟨⟨⟨trivial, by simp only [bs_size, List.length_singleton]; omega⟩, by decide, by rw [hq]; exact IntWalk.u64_in _ (by omega)⟩, Next.heap (u / 10, UInt8.ofNat (48 + u % 10) :: s) ⟨by rw [hu, hst]; simp, by simp only; omega⟩ (by simp only; omega) ⟨⟨?_, rfl⟩, ⟨?_, rfl⟩, trivial⟩ ⟨⟨rfl, rfl⟩, trivial⟩ trivial rfl rfl fun h s => sub_nil s⟩
        · show some _ = some _
          rw [hq]
        · show some _ = some _
          rw [bs_append]
          rfl
      · have v := of_decide_eq_false v
        have hu0 : u = 0 := by omega
        subst hu0
        have hs : Lib.decDigits n.natAbs = s := by
          have : dg n.natAbs = s := by rw [hu]; rfl
          unfold dg at this
          rwa [if_neg (by omega)] at this
        subst hs
        conv => whnf
        refine iff_f d ?_
        have e : Lib.itoa n = Lib.decDigits n.natAbs := by
          unfold Lib.itoa
          rw [if_neg d', show n.toNat = n.natAbs by omega]
        rw [e]
        conv => whnf
        exact ⟨trivial, fin_drop rfl⟩
end Go.Proofs.YtdfedfoncoppgaaDoor
