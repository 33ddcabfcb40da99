/-
  Symbolic runs: some parts of the heap out of all.
-/
import Derived.Test.YtonbjlkmcikbgaaGreatDoorSyPart
namespace Go.Proofs.YtonbjlkmcikbgaaGreatDoor
open Go.RowKit
open Sy
set_option linter.unusedVariables false
set_option linter.unusedSimpArgs false
set_option maxRecDepth 100000
set_option maxHeartbeats 4000000

/-- some parts out of all -/
theorem sub_front {R : HP} {r : List HP} : ∀ {m : List HP} {h : Hl}, sepL (m ++ r) R h → ∃ h' : Hl, (∀ i o, h' i = some o → h i = some o) ∧ sepL m R h'
  | [], h, s => sub_nil s
  | A :: m, h, s => by
    obtain ⟨h1, h2, d, rfl, a, s⟩ := s
    obtain ⟨h', e, s'⟩ := sub_front (m := m) s
    have dom : ∀ i, h2 i = none → h' i = none := fun i c => by
      cases x : h' i with
      | none => rfl
      | some o => rw [e i o x] at c; cases c
    refine ⟨un h1 h', fun i o hi => ?_, h1, h', fun i => (d i).imp_right (dom i), rfl, a, s'⟩
    unfold un at hi ⊢
    cases c : h1 i with
    | some x => rw [c] at hi; exact hi
    | none => rw [c] at hi; simp only [Option.none_or] at hi ⊢; exact e i o hi
theorem sub_pick {R : HP} {l : List HP} (m r : List HP) (p : l.Perm (m ++ r)) {h : Hl} (s : sepL l R h) : ∃ h' : Hl, (∀ i o, h' i = some o → h i = some o) ∧ sepL m R h' := sub_front (sepL_perm p s)
theorem sub_head {A : HP} {R : HP} {l : List HP} {h : Hl} (s : sepL (A :: l) R h) : ∃ h' : Hl, (∀ i o, h' i = some o → h i = some o) ∧ sepL [A] R h' := sub_front (m := [A]) s
theorem row_nil {R : HP} {h : Hl} (e : TypeId) (size : Nat) (s : R h) : sepL [rowH (.slice none 0 0) 0 e size []] R h := by
  refine ⟨fun _ => none, h, fun i => .inl rfl, ?_, ⟨by simp, .inl ⟨rfl, rfl, fun _ => rfl⟩⟩, s⟩
  funext i; simp [un]
theorem blk_sat {b : Nat} {t : TypeId} {cs : Array Value} {w : World} (s : Sat (blkH b t cs) w) : Blk w b t cs := by
  obtain ⟨h, hs, e⟩ := s
  exact hs b _ (by rw [e]; simp)
theorem blk_put {b : Nat} {t : TypeId} {cs : Array Value} {off : Nat} {ys : List Value} (h : off + ys.length ≤ cs.size) {hl : Hl} (r : blkH b t cs hl) : ∃ ty cs', hl b = some (.cells cs' ty (0, 0)) ∧ off + ys.length ≤ cs'.size ∧ blkH b t (putL cs.toList off ys).toArray fun j => if j = b then some (.cells (putL cs'.toList off ys).toArray ty (0, 0)) else hl j := by
  refine ⟨t, cs, by rw [r b, if_pos rfl], h, fun i => ?_⟩
  by_cases c : i = b
  · subst c; simp
  · have := r i
    rw [if_neg c] at this
    simp [c, this]
theorem sub_drop1 {A B : HP} {l : List HP} {R : HP} {h : Hl} (s : sepL (A :: B :: l) R h) : ∃ h', (∀ i o, h' i = some o → h i = some o) ∧ sepL (A :: l) R h' := sub_tail (sepL_pull 1 s)
theorem sub_drop2 {A B C : HP} {l : List HP} {R : HP} {h : Hl} (s : sepL (A :: B :: C :: l) R h) : ∃ h', (∀ i o, h' i = some o → h i = some o) ∧ sepL (A :: l) R h' := by
  obtain ⟨h1, e1, s1⟩ := sub_drop1 s
  obtain ⟨h2, e2, s2⟩ := sub_drop1 s1
  exact ⟨h2, fun i o e => e1 i o (e2 i o e), s2⟩
theorem FnR.of_sat {P : Program} {R : HP} {f : FuncId} {args : List Value} {pre : List HP} {post : Value → List HP → Prop} (h : ∀ w, Sat (sepL pre R) w → FnR P R f args pre post) : FnR P R f args pre post := fun w hs => h w hs w hs
theorem PureR.of_sat {P : Program} {R : HP} {f : FuncId} {args : List Value} {v : Value} (h : ∀ w, Sat R w → PureR P R f args v) : PureR P R f args v := fun w hs => h w hs w hs
end Go.Proofs.YtonbjlkmcikbgaaGreatDoor
