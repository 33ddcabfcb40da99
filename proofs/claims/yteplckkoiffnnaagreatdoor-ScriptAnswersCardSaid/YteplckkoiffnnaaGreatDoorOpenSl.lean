/-
  Slices of structs of numbers among the arguments.
-/
import Derived.Test.YteplckkoiffnnaaGreatDoorSySl
import Derived.ProofKit
import Derived.OpenShut
import Derived.Lib.SmallJoins
import Derived.Deep.Slices
namespace Go.Proofs.YteplckkoiffnnaaGreatDoor
open Go.ChangeShapes Go.WideShapes Go.ChangeAt Go.RowKit Go.Joins
namespace Sy
set_option linter.unusedVariables false
set_option linter.unusedSimpArgs false

def leafF (g : TypeId → Nat → Option IntKind) (P : Program) (j : Nat) : List Field → Option IntKind
  | [] => none
  | f :: fs => if f.offset ≤ j ∧ j < f.offset + P.cellsOf f.type then g f.type (j - f.offset) else leafF g P j fs
/-- the kind of the number that is a type's cell -/
def leafK (P : Program) : Nat → TypeId → Nat → Option IntKind
  | 0, _, _ => none
  | d + 1, t, j => match P.underlying t with
    | some (.int k) => if j = 0 then some k else none
    | some (.struct fs) => leafF (leafK P d) P j fs.toList
    | _ => none
theorem leafF_some {g : TypeId → Nat → Option IntKind} {P : Program} {j : Nat} {k : IntKind} : ∀ {l : List Field}, leafF g P j l = some k → ∃ (i : Nat) (f : Field), l[i]? = some f ∧ f.offset ≤ j ∧ j < f.offset + P.cellsOf f.type ∧ g f.type (j - f.offset) = some k
  | [], h => by cases h
  | f :: fs, h => by
    unfold leafF at h
    split at h
    · rename_i hc
      exact ⟨0, f, rfl, hc.1, hc.2, h⟩
    · obtain ⟨i, f', h1, h2⟩ := leafF_some h
      exact ⟨i + 1, f', by simpa using h1, h2⟩
section
variable {H : Type} {enc : TypeId × Value → H} {P : Program} {w : World} {base : Nat} {spare : Nat → Bool} {held : Bool}
theorem trod_leaf : ∀ (d : Nat) {t : TypeId} {j : Nat} {k : IntKind} {fuel : Nat} {cs : List Value} {x : DataW H × List MemPlace}, leafK P d t j = some k → DataW.trod enc P w base spare held fuel t cs = some x → ∃ z, cs[j]? = some (.int k z) ∧ (Lit.int k z).wf = true
  | 0, t, j, k, fuel, cs, x, h, _ => by cases h
  | d + 1, t, j, k, fuel, cs, x, h, hx => by
    unfold leafK at h
    split at h
    · rename_i k' hu
      split at h
      · rename_i hj
        injection h with h
        subst h hj
        obtain ⟨z, e, _, hw⟩ := DataW.trod_int hu hx
        exact ⟨z, by rw [e]; rfl, hw⟩
      · cases h
    · rename_i fs hu
      obtain ⟨i, f, h1, h2, h3, h4⟩ := leafF_some h
      obtain ⟨xs, n, _, rfl, hl, hlen, hf⟩ := DataW.trod_struct hu hx
      have h1' : fs[i]? = some f := by simpa using h1
      have hf' := hf i f (by simpa using h1)
      have hlt : i < xs.length := by rw [hlen]; exact (Array.getElem?_eq_some_iff.1 h1').1
      rw [List.getElem?_eq_getElem hlt] at hf'
      obtain ⟨z, e, hw⟩ := trod_leaf d h4 hf'
      refine ⟨z, ?_, hw⟩
      rw [List.getElem?_take] at e
      split at e
      · rw [List.getElem?_drop] at e
        rw [← e]
        congr 1
        omega
      · cases e
    · cases h
/-- a slice of structs of numbers -/
theorem open_flat {t e : TypeId} {fuel : Nat} {cs : List Value} {x : DataW H × List MemPlace} (s : Nat) (ks : Nat → IntKind) (ht : P.underlying t = some (.slice e)) (hs : P.cellsOf e = s) (hk : ∀ j, j < s → leafK P 6 e j = some (ks j)) (h : DataW.trod enc P w base spare held fuel t cs = some x) :
    cs = [.slice none 0 0] ∨ ∃ (a : Addr) (len cap : Nat) (zs : Nat → Nat → Int), cs = [.slice (some a) len cap] ∧ len ≤ cap ∧ cap ≤ maxLen ∧ ∀ i j, i < len → j < s → w.cell? (a.add (i * s + j)) = some (.int (ks j) (zs i j)) ∧ (Lit.int (ks j) (zs i j)).wf = true := by
  rcases Go.Deep.open_slice ht h with ⟨h0, _⟩ | ⟨a, len, cap, m, n, D, Pl, rfl, hb, hl, hm, hmm, rfl, hx⟩
  · exact .inl h0
  right
  have hle : len ≤ m := by rw [hmm]; split <;> omega
  have key : ∀ i j, ∃ z, i < len → j < s → w.cell? (a.add (i * s + j)) = some (.int (ks j) z) ∧ (Lit.int (ks j) z).wf = true := by
    intro i j
    by_cases c : i < len ∧ j < s
    · obtain ⟨cs', h1, h2⟩ := hx i (by omega)
      obtain ⟨z, e, hw⟩ := trod_leaf 6 (hk j c.2) h2
      obtain ⟨_, hlen, hcell⟩ := World.cells?_some h1
      have hj : j < cs'.length := (List.getElem?_eq_some_iff.1 e).1
      refine ⟨z, fun _ _ => ⟨?_, hw⟩⟩
      have h3 := hcell j (by rw [← hlen]; exact hj)
      rw [e] at h3
      rw [hs, Addr.add_add] at h3
      exact h3
    · exact ⟨0, fun h1 h2 => absurd ⟨h1, h2⟩ c⟩
  exact ⟨a, len, cap, fun i j => Classical.choose (key i j), rfl, hl, hm, fun i j hi hj => Classical.choose_spec (key i j) hi hj⟩
end
/-- what such a slice reads as -/
theorem reads_flat {w : World} {a : Addr} {len s : Nat} {ks : Nat → IntKind} {zs : Nat → Nat → Int} (hs : 0 < s) (h : ∀ i j, i < len → j < s → w.cell? (a.add (i * s + j)) = some (.int (ks j) (zs i j)) ∧ (Lit.int (ks j) (zs i j)).wf = true) {xs : List Value} (hl : xs.length = len * s) (hx : ∀ i j, i < len → j < s → xs[i * s + j]? = some (.int (ks j) (zs i j))) :
    Reads w w.heap.size s (some a) len xs := by
  refine ⟨hl, fun hn => ⟨a, rfl, ?_, fun j u hu => ?_⟩⟩
  · have := (h 0 0 hn hs).1
    have := World.block_lt_of_cell? w _ this
    rwa [add_block] at this
  · have hj : j < len * s := by rw [← hl]; exact (List.getElem?_eq_some_iff.1 hu).1
    have h1 : j / s < len := Nat.div_lt_of_lt_mul (by rw [Nat.mul_comm]; exact hj)
    have h2 : j % s < s := Nat.mod_lt _ hs
    have e : j / s * s + j % s = j := by have := Nat.div_add_mod j s; rw [Nat.mul_comm] at this; exact this
    have h3 := hx (j / s) (j % s) h1 h2
    have h4 := (h (j / s) (j % s) h1 h2).1
    rw [e] at h3 h4
    rw [h3] at hu
    injection hu with hu
    rw [h4, hu]
end Sy
end Go.Proofs.YteplckkoiffnnaaGreatDoor
