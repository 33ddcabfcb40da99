/-
  A slice of slices of bytes that came in, opened.
-/
import Derived.Test.YtgelgkgmgjhmnaaDoorConcat
import Derived.Deep.Matrix
namespace Go.Proofs.YtgelgkgmgjhmnaaDoor
open Go.RowKit
set_option linter.unusedVariables false

theorem rows_of {W : World} {x : Addr} {len cap : Nat} {A : Nat → Option Addr} {L C : Nat → Nat} {Z : Nat → List Int} (hl : len ≤ cap)
    (hrow : ∀ r, r < cap → W.cell? (x.add r) = some (.slice (A r) (L r) (C r)) ∧ L r ≤ C r ∧ C r ≤ maxLen ∧ (Z r).length = C r ∧ (∀ n ∈ Z r, (Lit.int .u8 n).wf = true) ∧ (A r = none → C r = 0) ∧
        ∀ a', A r = some a' → 0 ≤ a'.block ∧ ∀ c, c < C r → W.cell? (a'.add c) = some (.int .u8 ((Z r).getD c 0))) :
    ∃ hs ls, hs.length = len ∧ Reads W W.heap.size 1 (some x) hs.length (hs.map Hd.val) ∧ Parts W W.heap.size hs ls := by
  have each : ∀ r, ∃ l, r < cap → Bts W W.heap.size (A r) (L r) l := by
    intro r
    by_cases hr : r < cap
    · obtain ⟨_, h2, h3, h4, h5, h6, h7⟩ := hrow r hr
      rcases hA : A r with _ | a'
      · have hc := h6 hA
        have : L r = 0 := by omega
        exact ⟨[], fun _ => by rw [this]; exact Reads.empty⟩
      · obtain ⟨l, hb⟩ := bts_of_ints (w := W) (x := a') h2 h4 (fun i hi => (h7 a' hA).2 i (by omega)) h5
        exact ⟨l, fun _ => hb⟩
    · exact ⟨[], fun h => absurd h hr⟩
  have hex : ∃ F : Nat → List UInt8, ∀ r, r < cap → Bts W W.heap.size (A r) (L r) (F r) := ⟨fun r => Classical.choose (each r), fun r hr => Classical.choose_spec (each r) hr⟩
  obtain ⟨F, hF⟩ := hex
  refine ⟨(List.range len).map fun r => ⟨A r, L r, C r⟩, (List.range len).map F, by simp, ⟨by simp, fun hn => ⟨x, rfl, ?_, fun j u hu => ?_⟩⟩, by simp, fun k h1 h2 => ?_⟩
  · have hpos : 0 < len := by simpa using hn
    have h0 := (hrow 0 (by omega)).1
    have := World.block_lt_of_cell? W _ h0
    rwa [add_block] at this
  · have hj : j < len := by
      have := (List.getElem?_eq_some_iff.1 hu).1
      simpa using this
    have h0 := (hrow j (by omega)).1
    rw [h0]
    simp [hj, Hd.val] at hu
    rw [← hu]
  · have hk : k < len := by simpa using h1
    simpa using hF k (by omega)
end Go.Proofs.YtgelgkgmgjhmnaaDoor
