/-
  Bytes in memory of the call's own: the shape of such a slice; what 'it gives new bytes' means.
-/
import Derived.Test.YtgelgkgmgjhmnaaRows
import Derived.Test.YtgelgkgmgjhmnaaMem
namespace Go.Proofs.Ytgelgkgmgjhmnaa
open Go.RowKit

theorem info_u8 : (Try.prog.info? 5).map (fun i => (i.zero, i.size, i.bytes)) = some (some (.int .u8 0), 1, 1) := by kernel_rfl

/-- it returns a slice of bytes in memory of its own -/
def GivesB (w : World) (l : List UInt8) (e : Ending) (w' : World) : Prop :=
  ∃ A c, e = .returned (.slice A l.length c) ∧ w'.ownsRow w.heap.size 5 1 (.slice A l.length c) l.length (byts l) ∧ Below w.heap.size w w'

theorem own_shape {w : World} {base : Nat} {e : TypeId} {size n : Nat} {v : Value} {xs : List Value} (h : w.ownsRow base e size v n xs) : ∃ A c, v = .slice A n c ∧ n ≤ c ∧ c ≤ 9223372036854775807 ∧ (A = none → n = 0 ∧ c = 0) := by
  rcases h.2 with ⟨rfl, rfl⟩ | ⟨g, cap, cur, rfl, _, _, hn, hm, _⟩
  · exact ⟨_, _, rfl, Nat.le_refl _, by omega, fun _ => ⟨rfl, rfl⟩⟩
  · exact ⟨_, _, rfl, hn, hm, fun h => by cases h⟩

theorem givesB_mk {w w' : World} {l : List UInt8} {v : Value} {n : Nat} {xs : List Value} (h : w'.ownsRow w.heap.size 5 1 v n xs) (hx : xs = byts l) (hb : Below w.heap.size w w') : GivesB w l (.returned v) w' := by
  subst hx
  have hn : n = l.length := by have := h.1; simpa using this.symm
  subst hn
  obtain ⟨A, c, rfl, _⟩ := own_shape h
  exact ⟨A, c, rfl, h, hb⟩
theorem own_facts {w : World} {base : Nat} {e : TypeId} {size n c : Nat} {A : Option Addr} {xs : List Value} (h : w.ownsRow base e size (.slice A n c) n xs) : n ≤ c ∧ c ≤ 9223372036854775807 ∧ (A = none → n = 0 ∧ c = 0) := by
  obtain ⟨A', c', h1, h2, h3, h4⟩ := own_shape h
  injection h1 with h5 h6 h7
  subst h5 h7
  exact ⟨h2, h3, h4⟩

end Go.Proofs.Ytgelgkgmgjhmnaa
