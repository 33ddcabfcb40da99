/-
  Symbolic runs: slices that are only read, of whatever the elements are.
-/
import Derived.Test.YteplckkoiffnnaaGreatDoorSyStr
namespace Go.Proofs.YteplckkoiffnnaaGreatDoor
open Go.RowKit
namespace Sy
set_option linter.unusedVariables false
set_option linter.unusedSimpArgs false

def Sl (R : HP) (A : Option Addr) (n size : Nat) (xs : List Value) : Prop := ∀ w, Sat R w → Reads w w.heap.size size A n xs
/-- where they are -/
def SpotV (R : HP) (A : Option Addr) (n : Nat) (xs : List Value) : Prop := n = 0 ∨ ∃ b off, A = some ⟨b, off, none⟩ ∧ ∀ w, Sat R w → ∀ (j : Nat) u, xs[j]? = some u → w.cell? ⟨b, off + j, none⟩ = some u
theorem Sl.spot {R : HP} {A : Option Addr} {n size : Nat} {xs : List Value} (hs : 0 < size) (h : Sl R A n size xs) {w : World} (s : Sat R w) : xs.length = n * size ∧ SpotV R A n xs := by
  have hr := h w s
  refine ⟨hr.1, ?_⟩
  rcases Nat.eq_zero_or_pos n with h0 | h0
  · exact .inl h0
  · right
    obtain ⟨ad, e, hb, hc⟩ := hr.2 h0
    obtain ⟨b, off, spot⟩ := ad
    have hl : 0 < xs.length := by rw [hr.1]; exact Nat.mul_pos h0 hs
    have h1 := hc 0 _ (List.getElem?_eq_getElem hl)
    have hs : spot = none := by simpa [Addr.add] using World.cell?_spot h1
    subst hs
    refine ⟨b, off, e, fun w' s' j u hu => ?_⟩
    obtain ⟨ad', e', _, hc'⟩ := (h w' s').2 h0
    rw [e] at e'
    injection e' with e'
    subst e'
    have := hc' j u hu
    rwa [add_plain] at this
theorem Sl.mono {R R' : HP} {A : Option Addr} {n size : Nat} {xs : List Value} (h : Sl R A n size xs) (hr : ∀ w, Sat R' w → Sat R w) : Sl R' A n size xs := fun w s => h w (hr w s)
theorem Sl.row {R : HP} {A : Option Addr} {n c size : Nat} {e : TypeId} {xs : List Value} (h : ∀ w, Sat R w → Sat (rowH (.slice A n c) n e size xs) w) : Sl R A n size xs := fun w s => rowH_reads rfl (h w s)
theorem sl_of_reads {w : World} {A : Option Addr} {n size : Nat} {xs : List Value} (hs : 0 < size) (h : Reads w w.heap.size size A n xs) : Sl (was w) A n size xs := by
  intro w' s
  refine ⟨h.1, fun hn => ?_⟩
  obtain ⟨ad, e, hb, hc⟩ := h.2 hn
  have key : ∀ p : Addr, p.block < w.heap.size → w'.cell? p = w.cell? p := fun p hp => by
    have e0 : w.heap[p.block]? = some w.heap[p.block] := Array.getElem?_eq_getElem hp
    have e1 : w'.heap[p.block]? = w.heap[p.block]? := by rw [e0]; exact was_ext s e0
    simp only [World.cell?, e1]
  refine ⟨ad, e, ?_, fun j u hu => (key _ (by rw [add_block]; exact hb)).trans (hc j u hu)⟩
  have e0 : w.heap[ad.block]? = some w.heap[ad.block] := Array.getElem?_eq_getElem hb
  exact (Array.getElem?_eq_some_iff.1 (was_ext s e0)).1
theorem Sl.nil (R : HP) (A : Option Addr) (size : Nat) : Sl R A 0 size [] := fun w s => Reads.empty
end Sy
end Go.Proofs.YteplckkoiffnnaaGreatDoor
