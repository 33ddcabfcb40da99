/-
  hachurelaw02.LebApart returns true whatever the two numbers.
-/
import Derived.Test.YtgelgkgmgjhmnaaLebAwake
import Derived.Deep.RegionWith
import Derived.Deep.DeepCutAuto
namespace Go.Proofs.Ytgelgkgmgjhmnaa
open Go.RowKit

theorem PutNil (u : Nat) (w : World) (hu : u < 18446744073709551616) :
    Calls Try.prog 11 #[.slice none 0 0, .int .u64 u] w (GivesB w (lebB u)) :=
  Put_any none 0 0 [] u w (fun _ => ⟨rfl, rfl⟩) Reads.empty (by omega) hu

set_option maxHeartbeats 1000000 in
theorem LebApart_walk' (u v : Nat) (w : World) (h1 : u < 18446744073709551616) (h2 : v < 18446744073709551616) :
    Calls Try.prog 3 #[.int .u64 u, .int .u64 v] w fun e w' => e = .returned (.bool true) ∧ Below w.heap.size w w' := by
  have H1 := Lib.hid h1
  have H2 := Lib.hid h2
  clear h1 h2
  go_enter Try.func3, Try.ntmps3
  go_wp2_with fail
  refine (lebAwake _).mono ?_
  rintro e w1 ⟨rfl, hb1⟩
  go_upto_region 3 with fail
  go_cut [5, 6] (fun s5 s6 wx => s5 = .string ⟨(lebB u).toArray⟩ ∧ s6 = .string ⟨(lebB v).toArray⟩ ∧ Below w.heap.size w wx)
  case first =>
    go_region_with (first
      | (go_at_call_of 11 (Value.int IntKind.u64 (u : Int)); refine (PutNil u _ H1.out).mono ?_; rintro e w2 ⟨A2, c2, rfl, hown2, hb2⟩; have q2 := conv_bytes (P := Try.prog) 24 9 5 Try.underlying24 Try.underlying5 Try.underlying9 (Reads.of_own hown2) c2)
      | (go_at_call_of 11 (Value.int IntKind.u64 (v : Int)); refine (PutNil v _ H2.out).mono ?_; rintro e w3 ⟨A3, c3, rfl, hown3, hb3⟩; have q3 := conv_bytes (P := Try.prog) 24 9 5 Try.underlying24 Try.underlying5 Try.underlying9 (Reads.of_own hown3) c3; have q4 := conv_bytes (P := Try.prog) 24 9 5 Try.underlying24 Try.underlying5 Try.underlying9 ((Reads.of_own hown2).below hb3) c2))
    all_goals (go_wp2_with fail; go_meet; exact ⟨rfl, rfl, hb1.drew.trans ((hb2.mono hb1.size).trans (hb3.mono (Nat.le_trans hb1.size hb2.size)))⟩)
  case rest =>
    obtain ⟨rfl, rfl, hbx⟩ := hcut
    by_cases huv : u = v
    · subst huv
      go_wp2_with fail
      go_ret
      exact ⟨rfl, hbx⟩
    · have f1 := lebB_apart H1.out H2.out huv
      have f2 := lebB_apart H2.out H1.out (Ne.symm huv)
      have p1 := lebB_pos u
      have p2 := lebB_pos v
      rcases (show u < v ∨ v < u from by omega) with hlt | hlt
      · have hle := lebB_longer (Nat.le_of_lt hlt)
        rcases (show (lebB u).length < (lebB v).length ∨ (lebB v).length ≤ (lebB u).length from by omega) with hl | hl
        all_goals
          go_wp2_with fail
          go_ret
          exact ⟨rfl, hbx⟩
      · have hle := lebB_longer (Nat.le_of_lt hlt)
        rcases (show (lebB v).length < (lebB u).length ∨ (lebB u).length ≤ (lebB v).length from by omega) with hl | hl
        all_goals
          go_wp2_with fail
          go_ret
          exact ⟨rfl, hbx⟩
theorem LebApart_walk (u v : Int) (w : World) (h1 : 0 ≤ u) (h2 : u ≤ 18446744073709551615) (h3 : 0 ≤ v) (h4 : v ≤ 18446744073709551615) :
    Calls Try.prog 3 #[.int .u64 u, .int .u64 v] w fun e w' => e = .returned (.bool true) ∧ Below w.heap.size w w' := by
  obtain ⟨m, rfl⟩ := Int.eq_ofNat_of_zero_le h1
  obtain ⟨n, rfl⟩ := Int.eq_ofNat_of_zero_le h3
  exact LebApart_walk' m n w (by omega) (by omega)
end Go.Proofs.Ytgelgkgmgjhmnaa
