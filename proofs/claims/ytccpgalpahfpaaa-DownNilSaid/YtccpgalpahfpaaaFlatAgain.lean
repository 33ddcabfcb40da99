/-
  What became the same again: slices.ContainsFunc with the closure of (*Slab).Fill.
-/
import Derived.Test.YtccpgalpahfpaaaRough
namespace Go.Proofs.Ytccpgalpahfpaaa
open Go.RowKit
set_option linter.unusedVariables false
set_option linter.unusedSimpArgs false

theorem Fill1_any (x y : Int) (p g n c : Nat) (w : World) (hp : w.cell? ⟨p, 0, none⟩ = some (.slice (some ⟨g, 0, none⟩) n c)) (hn : 0 < n) (hg : w.cell? ⟨g, 0, none⟩ = some (.int .i32 y)) :
    Calls Try.prog 82 #[.int .i32 x, .pointer (some ⟨p, 0, none⟩)] w fun e w' => e = .returned (.bool (x != y)) ∧ w = w' := by
  go_enter Try.func82, Try.ntmps82
  go_wp2_with fail
  go_ret
  exact ⟨rfl, rfl⟩

/-- a value of a row that isn't the first one's is found, or there is none -/
def FoundI (n : Nat) (f : Nat → Int) (w : World) (e : Ending) (w' : World) : Prop :=
  ∃ i : Int, e = .returned (.int .i64 i) ∧ -1 ≤ i ∧ (0 ≤ i ↔ ∃ k, k < n ∧ f k ≠ f 0) ∧ w = w'
def FoundB (n : Nat) (f : Nat → Int) (w : World) (e : Ending) (w' : World) : Prop :=
  ∃ z : Bool, e = .returned (.bool z) ∧ (z = true ↔ ∃ k, k < n ∧ f k ≠ f 0) ∧ w = w'

set_option maxHeartbeats 1000000 in
theorem IndexRough (p g n : Nat) (f : Nat → Int) (w : World) (hp : w.cell? ⟨p, 0, none⟩ = some (.slice (some ⟨g, 0, none⟩) n n)) (hn : 0 < n) (hn' : n ≤ 256) (hg : Blk w g 21 (rowA n f)) :
    Calls Try.prog 94 #[.slice (some ⟨g, 0, none⟩) n n, .func (.func 82) #[] #[.pointer (some ⟨p, 0, none⟩)]] w (FoundI n f w) := by
  have h0 : w.cell? ⟨g, 0, none⟩ = some (.int .i32 (f 0)) := (hg.cell 0).trans (rowA_get n f 0 hn)
  have HK := Lib.hid fun k (hk : k < n) => (hg.cell k).trans (rowA_get n f k hk)
  clear hg
  go_enter Try.func94, Try.ntmps94
  go_wp2_with fail
  go_loop [5, 8] (fun _ t => ∃ k : Nat, k ≤ n ∧ t = .int .i64 k ∧ Hid (∀ j, j < k → f j = f 0)) (fun _ t => n - (intOf t).toNat)
  case atStart => exact ⟨0, by omega, rfl, Lib.hid fun j hj => by omega⟩
  case round =>
    obtain ⟨k, hk, rfl, HJ⟩ := hrel
    by_cases hlt : k < n
    · have hc := HK.out k hlt
      by_cases he : f k = f 0
      · have ht : (f k != f 0) = false := by rw [he]; simp
        have HE := Lib.hid he
        clear he
        go_wp2_with fail
        refine (Fill1_any (f k) (f 0) p g n n _ hp hn h0).mono ?_
        rintro e w2 ⟨rfl, rfl⟩
        rw [ht]
        go_wp2_with fail
        go_round
        case rel => exact ⟨k + 1, by omega, by go_num, Lib.hid fun j hj => by
          rcases Nat.lt_or_ge j k with c | c
          · exact HJ.out j c
          · rw [show j = k by omega]; exact HE.out⟩
        case measure => simp only [intOf]; omega
      · have ht : (f k != f 0) = true := by rw [bne_iff_ne]; exact he
        go_wp2_with fail
        refine (Fill1_any (f k) (f 0) p g n n _ hp hn h0).mono ?_
        rintro e w2 ⟨rfl, rfl⟩
        rw [ht]
        go_wp2_with fail
        go_ret
        exact ⟨k, rfl, by omega, ⟨fun _ => ⟨k, hlt, he⟩, fun _ => by omega⟩, rfl⟩
    · go_wp2_with fail
      go_ret
      exact ⟨-1, rfl, by omega, ⟨fun h => by omega, fun ⟨j, hj, hne⟩ => absurd (HJ.out j (by omega)) hne⟩, rfl⟩

theorem ContainsRough (p g n : Nat) (f : Nat → Int) (w : World) (hp : w.cell? ⟨p, 0, none⟩ = some (.slice (some ⟨g, 0, none⟩) n n)) (hn : 0 < n) (hn' : n ≤ 256) (hg : Blk w g 21 (rowA n f)) :
    Calls Try.prog 81 #[.slice (some ⟨g, 0, none⟩) n n, .func (.func 82) #[] #[.pointer (some ⟨p, 0, none⟩)]] w (FoundB n f w) := by
  have HI := Lib.hid (IndexRough p g n f w hp hn hn' hg)
  clear hp hg
  go_enter Try.func81, Try.ntmps81
  go_wp2_with fail
  refine HI.out.mono ?_
  rintro e w2 ⟨i, rfl, h1, h2, rfl⟩
  have H2 := Lib.hid h2
  clear h2
  by_cases h : 0 ≤ i
  · go_wp2_with fail
    go_ret
    exact ⟨_, rfl, by simpa [h] using H2.out, rfl⟩
  · have hd : decide (0 ≤ i) = false := decide_eq_false h
    go_wp2_with fail
    go_ret
    exact ⟨false, rfl, ⟨fun e => (by cases e), fun e => absurd (H2.out.2 e) (by omega)⟩, rfl⟩
end Go.Proofs.Ytccpgalpahfpaaa
