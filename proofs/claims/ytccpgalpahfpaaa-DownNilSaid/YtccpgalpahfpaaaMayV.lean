/-
  Whether a value may be: the document's word, and paint's.
-/
import Derived.Test.YtccpgalpahfpaaaGridRead
namespace Go.Proofs.Ytccpgalpahfpaaa
open Go.RowKit
set_option linter.unusedVariables false
set_option linter.unusedSimpArgs false

theorem rMay_any (v : Int) (w : World) : Calls Try.prog 36 #[.int .i64 v] w fun e w' => e = .returned (.bool (decide (MayV v))) ∧ w = w' := by
  rcases (show v < -2147483648 ∨ (-2147483648 ≤ v ∧ v ≤ 2147483647) ∨ (-2147483648 ≤ v ∧ 2147483647 < v) from by omega) with h | ⟨h1, h2⟩ | ⟨h1, h2⟩
  · have e : decide (MayV v) = false := decide_eq_false (by unfold MayV; omega)
    have t : decide (-2147483648 ≤ v) = false := decide_eq_false (by omega)
    rw [e]
    clear e
    go_enter Try.func36, Try.ntmps36
    go_wp2_with fail
    go_ret
    exact ⟨rfl, rfl⟩
  · have e : decide (MayV v) = true := decide_eq_true (by unfold MayV; omega)
    rw [e]
    clear e
    go_enter Try.func36, Try.ntmps36
    go_wp2_with fail
    go_ret
    exact ⟨rfl, rfl⟩
  · have e : decide (MayV v) = false := decide_eq_false (by unfold MayV; omega)
    have t : decide (v ≤ 2147483647) = false := decide_eq_false (by omega)
    rw [e]
    clear e
    go_enter Try.func36, Try.ntmps36
    go_wp2_with fail
    go_ret
    exact ⟨rfl, rfl⟩

theorem pmay_any (v : Int) (w : World) : Calls Try.prog 61 #[.int .i64 v] w fun e w' => e = .returned (.bool (decide (MayV v))) ∧ w = w' := by
  rcases (show v < -2147483648 ∨ (-2147483648 ≤ v ∧ v ≤ 2147483647) ∨ (-2147483648 ≤ v ∧ 2147483647 < v) from by omega) with h | ⟨h1, h2⟩ | ⟨h1, h2⟩
  · have e : decide (MayV v) = false := decide_eq_false (by unfold MayV; omega)
    have t : decide (-2147483648 ≤ v) = false := decide_eq_false (by omega)
    rw [e]
    clear e
    go_enter Try.func61, Try.ntmps61
    go_wp2_with fail
    go_ret
    exact ⟨rfl, rfl⟩
  · have e : decide (MayV v) = true := decide_eq_true (by unfold MayV; omega)
    rw [e]
    clear e
    go_enter Try.func61, Try.ntmps61
    go_wp2_with fail
    go_ret
    exact ⟨rfl, rfl⟩
  · have e : decide (MayV v) = false := decide_eq_false (by unfold MayV; omega)
    have t : decide (v ≤ 2147483647) = false := decide_eq_false (by omega)
    rw [e]
    clear e
    go_enter Try.func61, Try.ntmps61
    go_wp2_with fail
    go_ret
    exact ⟨rfl, rfl⟩


theorem Paste1_any (v : Int) (w : World) : Calls Try.prog 60 #[.int .i64 v] w fun e w' => e = .returned (.bool (!decide (MayV v))) ∧ w = w' := by
  have H := Lib.hid fun W => pmay_any v W
  generalize decide (MayV v) = z at *
  go_enter Try.func60, Try.ntmps60
  go_wp2_with fail
  refine (H.out _).mono ?_
  rintro e w2 ⟨rfl, rfl⟩
  go_wp2_with fail
  go_ret
  exact ⟨rfl, rfl⟩
end Go.Proofs.Ytccpgalpahfpaaa
