/-
  Plain: records.
-/
import Derived.Test.YtgelgkgmgjhmnaaDoorLebGetPlain
import Derived.Test.YtgelgkgmgjhmnaaDoorSealPlain
namespace Go.Proofs.YtgelgkgmgjhmnaaDoor

/-- a record's bytes -/
def recordB (r : List UInt8) : List UInt8 := lebB (r.length + 1) ++ sealB r
/-- the record of a place; the place behind; the error's number -/
def jGet (l : List UInt8) (a : Int) : List UInt8 × Nat × Nat :=
  let r := lebAt l a
  if r.2.2 ≠ 0 then ([], 0, r.2.2)
  else if r.1 = 0 ∨ 1048577 < r.1 then ([], 0, 13)
  else if l.length < r.2.1 + r.1 + 3 then ([], 0, 14)
  else if (openB ((l.drop r.2.1).take (r.1 + 3))).2 ≠ 0 then ([], 0, (openB ((l.drop r.2.1).take (r.1 + 3))).2)
  else ((openB ((l.drop r.2.1).take (r.1 + 3))).1, r.2.1 + r.1 + 3, 0)
section
variable {l : List UInt8} {a : Int} {n f e : Nat}
theorem jGet_err (h : lebAt l a = (n, f, e)) (he : e ≠ 0) : jGet l a = ([], 0, e) := by
  unfold jGet; simp only [h]; rw [if_pos he]
theorem jGet_form (h : lebAt l a = (n, f, 0)) (hn : n = 0 ∨ 1048577 < n) : jGet l a = ([], 0, 13) := by
  unfold jGet; simp only [h]; rw [if_neg (by simp), if_pos hn]
theorem jGet_short (h : lebAt l a = (n, f, 0)) (hn : ¬ (n = 0 ∨ 1048577 < n)) (hs : l.length < f + n + 3) : jGet l a = ([], 0, 14) := by
  unfold jGet; simp only [h]; rw [if_neg (by simp), if_neg hn, if_pos hs]
theorem jGet_open (h : lebAt l a = (n, f, 0)) (hn : ¬ (n = 0 ∨ 1048577 < n)) (hs : ¬ l.length < f + n + 3) {r : List UInt8} {c : Nat} (ho : openB ((l.drop f).take (n + 3)) = (r, c)) :
    jGet l a = if c ≠ 0 then ([], 0, c) else (r, f + n + 3, 0) := by
  unfold jGet; simp only [h, ho]; rw [if_neg (by simp), if_neg hn, if_neg hs]
end
theorem recordB_len (r : List UInt8) : (recordB r).length = (lebB (r.length + 1)).length + r.length + 4 := by
  unfold recordB; rw [List.length_append, sealB_len]; omega
/-- what is put is got -/
theorem jGet_put (a r b : List UInt8) (hr : r.length ≤ 1048576) : jGet (a ++ recordB r ++ b) (a.length : Int) = (r, a.length + (recordB r).length, 0) := by
  have hg : lebAt (a ++ recordB r ++ b) (a.length : Int) = (r.length + 1, a.length + (lebB (r.length + 1)).length, 0) := by
    have := lebAt_putted a (sealB r ++ b) (r.length + 1) (by omega)
    rw [recordB]
    simpa [List.append_assoc] using this
  have ho : openB (((a ++ recordB r ++ b).drop (a.length + (lebB (r.length + 1)).length)).take (r.length + 1 + 3)) = (r, 0) := by
    have e : (a ++ recordB r ++ b).drop (a.length + (lebB (r.length + 1)).length) = sealB r ++ b := by
      rw [recordB, show a ++ (lebB (r.length + 1) ++ sealB r) ++ b = (a ++ lebB (r.length + 1)) ++ (sealB r ++ b) from by simp [List.append_assoc]]
      rw [← List.length_append, List.drop_left]
    rw [e, show r.length + 1 + 3 = (sealB r).length from by rw [sealB_len], List.take_left, open_seal]
  have hl := recordB_len r
  rw [jGet_open hg (by omega) (by simp only [List.length_append]; omega) ho]
  rw [if_neg (by simp)]
  congr 2
  omega

/-- as long as they are whole, at most so many; where the torn end begins -/
def jAllF : Nat → List UInt8 → Nat → List (List UInt8) × Nat
  | 0, _, a => ([], a)
  | k + 1, l, a => if (jGet l (a : Int)).2.2 ≠ 0 then ([], a) else ((jGet l (a : Int)).1 :: (jAllF k l (jGet l (a : Int)).2.1).1, (jAllF k l (jGet l (a : Int)).2.1).2)
def jAll (l : List UInt8) : List (List UInt8) × Nat := jAllF (l.length + 1) l 0
theorem jAllF_end {k a : Nat} {l : List UInt8} (h : (jGet l (a : Int)).2.2 ≠ 0) : jAllF k l a = ([], a) := by
  cases k with
  | zero => rfl
  | succ k => rw [jAllF, if_pos h]
theorem jAllF_more {k a b : Nat} {l r : List UInt8} (h : jGet l (a : Int) = (r, b, 0)) : jAllF (k + 1) l a = (r :: (jAllF k l b).1, (jAllF k l b).2) := by
  rw [jAllF, h, if_neg (by simp)]
theorem jGet_fwd {l r : List UInt8} {a b : Nat} (h : jGet l (a : Int) = (r, b, 0)) : a < b ∧ b ≤ l.length ∧ r.length ≤ l.length := by
  obtain ⟨⟨n, f, e⟩, hv⟩ : ∃ r, lebAt l (a : Int) = r := ⟨_, rfl⟩
  by_cases he : e = 0
  · subst he
    obtain ⟨k, hk, hkf, hfl, _, _⟩ := lebAt_put hv
    by_cases hn : n = 0 ∨ 1048577 < n
    · rw [jGet_form hv hn] at h; simp at h
    · by_cases hs : l.length < f + n + 3
      · rw [jGet_short hv hn hs] at h; simp at h
      · obtain ⟨⟨r', c⟩, ho⟩ : ∃ r, openB ((l.drop f).take (n + 3)) = r := ⟨_, rfl⟩
        rw [jGet_open hv hn hs ho] at h
        by_cases hc : c ≠ 0
        · rw [if_pos hc] at h; simp at h; omega
        · rw [if_neg hc] at h
          simp only [Prod.mk.injEq] at h
          have hr : r'.length ≤ ((l.drop f).take (n + 3)).length := by
            have := congrArg (fun x => x.1.length) ho
            simp only at this
            rw [← this]
            unfold openB
            split
            · simp
            · split
              · exact List.length_take_le' _ _
              · simp
          simp only [List.length_take, List.length_drop] at hr
          obtain ⟨rfl, h2, _⟩ := h
          omega
  · rw [jGet_err hv he] at h; simp at h; omega
theorem jAllF_len : ∀ (k a : Nat) (l : List UInt8), (jAllF k l a).1.length ≤ k := by
  intro k
  induction k with
  | zero => intro a l; simp [jAllF]
  | succ k ih =>
    intro a l
    rw [jAllF]
    split
    · simp
    · have := ih (jGet l (a : Int)).2.1 l
      simp; omega
theorem jAll_len (l : List UInt8) : (jAll l).1.length ≤ l.length + 1 := jAllF_len _ _ _
end Go.Proofs.YtgelgkgmgjhmnaaDoor
