/-
  Texts of the proofs, one behind the other: SyLeK.
-/
import Derived.Test.YtojlgfkjnkjcmaaGreatDoorPartS
/-
  Symbolic runs: a round's end where a slot has another spelling of the same value.
-/
namespace Go.Proofs.YtojlgfkjnkjcmaaGreatDoor
open Go.RowKit
open Sy
set_option linter.unusedVariables false
set_option linter.unusedSimpArgs false
set_option maxRecDepth 100000
set_option maxHeartbeats 4000000

/-! a slot that another value of the same meaning takes -/
def leKq (n : Nat) (src : List (Nat × SV)) : List (Nat × SV) → Prop
  | [] => True
  | (t, x) :: r => (∃ y, getT src t = some y ∧ (∀ ρ, SV.den ρ y = SV.den ρ x) ∧ nmOk n x = true) ∧ leKq n src r
theorem leKq_get {n : Nat} {src : List (Nat × SV)} : ∀ {l : List (Nat × SV)} {t : Nat} {x : SV}, leKq n src l → getT l t = some x → ∃ y, getT src t = some y ∧ (∀ ρ, SV.den ρ y = SV.den ρ x) ∧ nmOk n x = true
  | [], t, x, _, h => by cases h
  | (k, y) :: l, t, x, hl, h => by
    simp only [getT] at h
    split at h
    · rename_i e
      have := beq_of e
      subst this
      injection h with h
      subst h
      exact hl.1
    · exact leKq_get hl.2 h
theorem leq_of {G : Gl} {st st' : St} (hn : st'.n ≤ st.n) (hB : G.B.length ≤ st'.n) (ht : leKq st'.n st.t st'.t) (ho : leO st'.n st.o st'.o) (hh : ∀ h, sepL st.h G.R h → ∃ h', (∀ i o, h' i = some o → h i = some o) ∧ sepL st'.h G.R h') : Le G st st' := by
  intro ρ a w m mm
  have hle : Le G st { st' with t := [] } := Le.of hn hB trivial ho hh
  obtain ⟨m1, m2, m3, m4, m5, m6, mk, h, m7, m8, m9⟩ := mm
  obtain ⟨h', hs, hp⟩ := hh h m8
  have at_ : ∀ k b, (ρ.take st'.n)[k]? = some b → ρ[k]? = some b := fun k b e => by
    rw [List.getElem?_take] at e
    split at e
    · exact e
    · cases e
  refine ⟨ρ.take st'.n, ⟨m.size, m.defs, fun t x e => ?_⟩, ⟨m1, by simp; omega, ?_, fun b hb => m4 b (List.mem_of_mem_take hb), leO_nodup ho, fun x hx => ?_, ?_, h', m7.mono hs, hp, fun x hx b e => ?_⟩⟩
  · obtain ⟨y, e1, e2, e3⟩ := leKq_get ht e
    exact ⟨(m.get _ _ e1).1, den_cut (by rw [← e2]; exact (m.get _ _ e1).2) e3⟩
  · exact (List.take_sublist _ _).nodup m3
  · obtain ⟨x1, x2, x3⟩ := leO_mem ho hx
    obtain ⟨b, cs, e1, e2, e3⟩ := m6 x x1
    exact ⟨b, cs, by rw [List.getElem?_take_of_lt x2]; exact e1, denL_cut e2 x3, e3⟩
  · obtain ⟨q, rfl⟩ := mk
    exact ⟨q.take (st'.n - G.B.length), by rw [List.take_append, List.take_of_length_le hB]⟩
  · obtain ⟨x1, x2, x3⟩ := leO_mem ho hx
    have := m9 x x1 b (at_ _ _ e)
    cases e' : h' b with
    | none => rfl
    | some o => rw [hs b o e'] at this; cases this
end Go.Proofs.YtojlgfkjnkjcmaaGreatDoor

