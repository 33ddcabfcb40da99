/-
  The chapter's example of leb holds: hachurelaw02.awake returns true.
-/
import Derived.Test.YtgelgkgmgjhmnaaLeb
import Derived.Test.YtgelgkgmgjhmnaaFold
namespace Go.Proofs.Ytgelgkgmgjhmnaa
open Go.RowKit

theorem own_at {w : World} {base : Nat} {e : TypeId} {n c : Nat} {A : Option Addr} {l : List UInt8} (h : w.ownsRow base e 1 (.slice A n c) n (byts l)) (hn : 0 < n) :
    ∃ g, A = some ⟨g, 0, none⟩ ∧ base ≤ g ∧ g < w.heap.size ∧ ∀ (k : Nat) (hk : k < l.length), w.cell? ⟨g, k, none⟩ = some (.int .u8 (l[k].toNat : Int)) := by
  obtain ⟨g, cap, hv, hb, hlt⟩ := h.form hn
  have hA : A = some ⟨g, 0, none⟩ := by injection hv
  subst hA
  refine ⟨g, rfl, hb, hlt, fun k hk => ?_⟩
  have := h.cells (g := g) rfl k _ (byts_at l k hk)
  rwa [add_plain, Nat.zero_add] at this

theorem lebAwake (w : World) : Calls Try.prog 10 #[] w fun e w' => e = .returned (.bool true) ∧ Below w.heap.size w w' := by
  have h300 : lebB 300 = [172, 2] := by decide
  go_enter Try.func10, Try.ntmps10
  go_wp2_with fail
  refine (Put_any none 0 0 [] 300 _ (fun _ => ⟨rfl, rfl⟩) Reads.empty (by omega) (by omega)).mono ?_
  rw [h300]
  rintro e w1 ⟨A1, c1, rfl, hown, hb1⟩
  obtain ⟨g, rfl, hg1, hg2, hc⟩ := own_at hown (by simp)
  have c0 := hc 0 (by simp)
  have c1 := hc 1 (by simp)
  simp at c0 c1
  clear hc hown h300
  go_wp2_with (go_at_call 12; refine (Fold_any _ _ (by omega) (by omega)).mono ?_; rintro e w2 ⟨rfl, rfl⟩)
  go_ret
  exact ⟨rfl, hb1⟩
end Go.Proofs.Ytgelgkgmgjhmnaa
