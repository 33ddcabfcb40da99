/-
  Closed runs: regions, code, calls: sound.
-/
import Derived.Test.YtonbjlkmcikbgaaGreatDoorCxL
namespace Go.Proofs.YtonbjlkmcikbgaaGreatDoor
open Go.RowKit
namespace Cx
set_option linter.unusedVariables false
set_option linter.unusedSimpArgs false

theorem intEq_eq : ∀ {a b : Int}, intEq a b = true → a = b
  | .ofNat a, .ofNat b, h => by rw [beq_of (show Nat.beq a b = true from h)]
  | .negSucc a, .negSucc b, h => by rw [beq_of (show Nat.beq a b = true from h)]
  | .ofNat a, .negSucc b, h => by cases h
  | .negSucc a, .ofNat b, h => by cases h
theorem addrEq_eq {a b : Addr} (h : addrEq a b = true) : a = b := by
  obtain ⟨x, y, z⟩ := a
  obtain ⟨x', y', z'⟩ := b
  cases z <;> cases z' <;> simp only [addrEq, Bool.and_eq_true, Bool.false_eq_true] at h
  rw [beq_of h.1, beq_of h.2]
theorem bytesEq_eq : ∀ {a b : List UInt8}, bytesEq a b = true → a = b
  | [], [], _ => rfl
  | x :: l, y :: m, h => by
    simp only [bytesEq, Bool.and_eq_true] at h
    rw [UInt8.toNat_inj.1 (beq_of h.1), bytesEq_eq h.2]
  | [], y :: m, h => by cases h
  | x :: l, [], h => by cases h
theorem veq_n : ∀ n : Nat, (∀ a b : Value, SizeOf.sizeOf a ≤ n → veq a b = true → a = b) ∧ (∀ a b : List Value, SizeOf.sizeOf a ≤ n → veqs a b = true → a = b) := by
  intro n
  induction n with
  | zero =>
    refine ⟨fun a b hs => ?_, fun a b hs => ?_⟩
    · cases a <;> simp at hs
    · cases a <;> simp at hs
  | succ n ih =>
    refine ⟨fun a b hs h => ?_, fun a b hs h => ?_⟩
    · cases a with
      | bool x => cases b <;> simp only [veq, Bool.false_eq_true, beq_iff_eq] at h; rw [h]
      | int k x =>
        cases b <;> simp only [veq, Bool.false_eq_true, Bool.and_eq_true, decide_eq_true_eq] at h
        rw [h.1, intEq_eq h.2]
      | float k x => cases b <;> simp [veq] at h
      | complex k x y => cases b <;> simp [veq] at h
      | string s =>
        cases b <;> simp only [veq, Bool.false_eq_true] at h
        rename_i s'
        have := bytesEq_eq h
        obtain ⟨⟨x⟩⟩ := s
        obtain ⟨⟨y⟩⟩ := s'
        simp only at this
        rw [this]
      | pointer x =>
        cases x <;> cases b <;> try (simp only [veq, Bool.false_eq_true] at h; done)
        · rename_i y; cases y <;> simp only [veq, Bool.false_eq_true] at h; rfl
        · rename_i y; cases y <;> simp only [veq, Bool.false_eq_true] at h; rw [addrEq_eq h]
      | slice x n c =>
        cases x <;> cases b <;> try (simp only [veq, Bool.false_eq_true] at h; done)
        · rename_i y m d; cases y <;> simp only [veq, Bool.false_eq_true, Bool.and_eq_true] at h; rw [beq_of h.1, beq_of h.2]
        · rename_i y m d; cases y <;> simp only [veq, Bool.false_eq_true, Bool.and_eq_true] at h; rw [addrEq_eq h.1, beq_of h.2.1, beq_of h.2.2]
      | map x => cases b <;> simp [veq] at h
      | chan x => cases b <;> simp [veq] at h
      | func f x y =>
        obtain ⟨x⟩ := x
        obtain ⟨y⟩ := y
        cases f <;> cases x <;> cases b <;> try (simp only [veq, Bool.false_eq_true] at h; done)
        rename_i g x' y'
        obtain ⟨x'⟩ := x'
        obtain ⟨y'⟩ := y'
        cases g <;> cases x' <;> try (simp only [veq, Bool.false_eq_true] at h; done)
        simp only [veq, Bool.and_eq_true] at h
        rw [beq_of h.1, ih.2 y y' (by simp at hs; omega) h.2]
      | nilFunc => cases b <;> simp only [veq, Bool.false_eq_true] at h; rfl
      | iface t x =>
        cases b <;> simp only [veq, Bool.false_eq_true, Bool.and_eq_true] at h
        rename_i u y
        rw [beq_of h.1, ih.1 x y (by simp at hs; omega) h.2]
      | nilIface => cases b <;> simp only [veq, Bool.false_eq_true] at h; rfl
      | agg x =>
        obtain ⟨x⟩ := x
        cases b <;> simp only [veq, Bool.false_eq_true] at h
        rename_i y
        obtain ⟨y⟩ := y
        rw [ih.2 x y (by simp at hs; omega) h]
      | tuple x =>
        obtain ⟨x⟩ := x
        cases b <;> simp only [veq, Bool.false_eq_true] at h
        rename_i y
        obtain ⟨y⟩ := y
        rw [ih.2 x y (by simp at hs; omega) h]
    · cases a with
      | nil => cases b <;> simp only [veqs, Bool.false_eq_true] at h; rfl
      | cons x l =>
        cases b with
        | nil => simp only [veqs, Bool.false_eq_true] at h
        | cons y m =>
          unfold veqs at h
          split at h
          · rename_i e
            rw [ih.1 x y (by simp at hs; omega) e, ih.2 l m (by simp at hs; omega) h]
          · cases h
theorem veq_eq {a b : Value} (h : veq a b = true) : a = b := (veq_n _).1 a b (Nat.le_refl _) h
end Cx
end Go.Proofs.YtonbjlkmcikbgaaGreatDoor
