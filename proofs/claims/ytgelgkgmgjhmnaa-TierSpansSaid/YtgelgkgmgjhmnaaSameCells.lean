/-
  The document's SameCells (hachureref07) of two equal lists.
-/
import Derived.Test.YtgelgkgmgjhmnaaSizes
import Derived.Deep.QuietTactic
import Derived.BigQuiet
namespace Go.Proofs.Ytgelgkgmgjhmnaa
open Go.RowKit
set_option linter.unusedVariables false
set_option linter.unusedSimpArgs false

set_option maxHeartbeats 1000000 in
theorem SameCells_yes (g g' c c' : Nat) (l : List (Int × Int)) (w : World) (hl : l.length ≤ 1000)
    (h : ∀ i (hi : i < l.length), w.cell? ⟨g, i * 2, none⟩ = some (.int .i64 l[i].1) ∧ w.cell? ⟨g, i * 2 + 1, none⟩ = some (.int .i64 l[i].2))
    (h' : ∀ i (hi : i < l.length), w.cell? ⟨g', i * 2, none⟩ = some (.int .i64 l[i].1) ∧ w.cell? ⟨g', i * 2 + 1, none⟩ = some (.int .i64 l[i].2)) :
    Calls Try.prog 30 #[.slice (some ⟨g, 0, none⟩) l.length c, .slice (some ⟨g', 0, none⟩) l.length c'] w fun e w' => e = .returned (.bool true) ∧ ∃ n, w' = w.drewN n := by
  have H := Lib.hid h
  have H' := Lib.hid h'
  clear h h'
  go_enter Try.func30, Try.ntmps30
  go_wp2_with fail
  go_loopw [5] (fun t wr => ∃ i n : Nat, i ≤ l.length ∧ t = .int .i64 i ∧ wr = w.drewN n) (fun t _ => ((l.length : Int) - intOf t).toNat)
  case atStart => exact ⟨0, 0, by omega, rfl, rfl⟩
  case round =>
    obtain ⟨i, n, hi, rfl, rfl⟩ := hrel
    by_cases hlt : i < l.length
    · obtain ⟨p1, p2⟩ := H.out i hlt
      obtain ⟨q1, q2⟩ := H'.out i hlt
      obtain ⟨X, hX⟩ : ∃ X, l[i].1 = X := ⟨_, rfl⟩
      obtain ⟨Y, hY⟩ : ∃ Y, l[i].2 = Y := ⟨_, rfl⟩
      rw [hX] at p1 q1
      rw [hY] at p2 q2
      clear hX hY
      have j1 : (0 : Int) ≤ (i : Int) := by omega
      have j2 : (i : Int) < (l.length : Int) := by omega
      go_wp2_with fail
      go_quiet (fail)
      go_wp2_with fail
      go_roundw
      case rel => exact ⟨i + 1, _, by omega, by go_num, rfl⟩
      case measure => simp [intOf]; omega
    · go_wp2_with fail
      go_ret
      exact ⟨rfl, n, rfl⟩
end Go.Proofs.Ytgelgkgmgjhmnaa
