/-
  Plain: what is cut off is no record.
-/
import Derived.Test.YtgelgkgmgjhmnaaDoorJournalPlain
namespace Go.Proofs.YtgelgkgmgjhmnaaDoor

theorem cut_get : ∀ (n m k q j : Nat), m ≤ n → k ≤ 9 → m < 2 ^ (64 - 7 * k) → (0 < k → 0 < m) → j < (lebB m).length → lebGet ((lebB m).take j) k q = (0, 0, 14) := by
  intro n
  induction n with
  | zero =>
    intro m k q j hm hk hb hp hj
    have h0 : m = 0 := by omega
    subst h0
    have : j = 0 := by simp [lebB, lebAux] at hj; omega
    subst this
    rfl
  | succ n ih =>
    intro m k q j hm hk hb hp hj
    cases j with
    | zero => rfl
    | succ j =>
      have h9 : k = 9 → m ≤ 1 := by intro h; subst h; simp at hb; omega
      by_cases h : m < 128
      · rw [lebB_small m h] at hj; simp at hj
      · have h64 : m < 18446744073709551616 := by
          have : (2 : Nat) ^ (64 - 7 * k) ≤ 2 ^ 64 := Nat.pow_le_pow_right (by omega) (by omega)
          simp at this; omega
        have ec : (UInt8.ofNat (m % 128 + 128)).toNat = m % 128 + 128 := by rw [UInt8.toNat_ofNat']; omega
        have hk8 : k ≤ 8 := by omega
        have hpw : (2 : Nat) ^ (64 - 7 * k) = 128 * 2 ^ (64 - 7 * (k + 1)) := by
          have : 64 - 7 * k = 7 + (64 - 7 * (k + 1)) := by omega
          rw [this, Nat.pow_add]
        rw [lebB_big m h h64] at hj ⊢
        rw [List.take_succ_cons, lebGet, ec, if_neg (by omega), if_neg (by omega)]
        exact ih (m / 128) (k + 1) _ j (by omega) (by omega) (by rw [hpw] at hb; omega) (by omega) (by simpa using hj)
/-- WHAT IS CUT OFF IS NO RECORD -/
theorem jGet_cut (a r : List UInt8) (j : Nat) (hr : r.length ≤ 1048576) (hj : j < (recordB r).length) : (jGet (a ++ (recordB r).take j) (a.length : Int)).2.2 ≠ 0 := by
  have hl := recordB_len r
  have hd : (a ++ (recordB r).take j).drop a.length = (recordB r).take j := List.drop_left
  by_cases hs : j < (lebB (r.length + 1)).length
  · have e : (recordB r).take j = (lebB (r.length + 1)).take j := by
      rw [recordB, List.take_append_of_le_length (by omega)]
    have hg : lebGet ((a ++ (recordB r).take j).drop a.length) 0 0 = (0, 0, 14) := by
      rw [hd, e]
      exact cut_get (r.length + 1) (r.length + 1) 0 0 j (Nat.le_refl _) (by omega) (by simp; omega) (by omega) hs
    have hv := lebAt_of (l := a ++ (recordB r).take j) (a := a.length) (by simp) hg
    have hv2 : lebAt (a ++ (recordB r).take j) (a.length : Int) = (0, 0, 14) := by rw [hv]; simp
    rw [jGet_err hv2 (by omega)]
    simp
  · have e : (recordB r).take j = lebB (r.length + 1) ++ (sealB r).take (j - (lebB (r.length + 1)).length) := by
      rw [recordB, List.take_append]
      rw [List.take_of_length_le (by omega)]
    have hv := lebAt_putted a ((sealB r).take (j - (lebB (r.length + 1)).length)) (r.length + 1) (by omega)
    rw [List.append_assoc, ← e] at hv
    rw [jGet_short hv (by omega) (by simp only [List.length_append, List.length_take]; omega)]
    simp
def recsB (ls : List (List UInt8)) : List UInt8 := (ls.map recordB).flatten
theorem recsB_cons (r : List UInt8) (ls : List (List UInt8)) : recsB (r :: ls) = recordB r ++ recsB ls := by simp [recsB]
theorem recsB_snoc (ls : List (List UInt8)) (r : List UInt8) : recsB (ls ++ [r]) = recsB ls ++ recordB r := by simp [recsB]
theorem all_cut (last : List UInt8) (j : Nat) (hl : last.length ≤ 1048576) (hj : j < (recordB last).length) : ∀ (ls : List (List UInt8)) (a : List UInt8) (k : Nat), (∀ r ∈ ls, r.length ≤ 1048576) → ls.length < k →
    jAllF k (a ++ recsB ls ++ (recordB last).take j) a.length = (ls, a.length + (recsB ls).length) := by
  intro ls
  induction ls with
  | nil =>
    intro a k _ hk
    have := jAllF_end (k := k) (jGet_cut a last j hl hj)
    simpa [recsB] using this
  | cons r ls ih =>
    intro a k hr hk
    obtain ⟨k, rfl⟩ : ∃ k', k = k' + 1 := ⟨k - 1, by omega⟩
    have hg := jGet_put a r (recsB ls ++ (recordB last).take j) (hr r (by simp))
    have e : a ++ recsB (r :: ls) ++ (recordB last).take j = a ++ recordB r ++ (recsB ls ++ (recordB last).take j) := by rw [recsB_cons]; simp [List.append_assoc]
    rw [e, jAllF_more hg]
    have h2 := ih (a ++ recordB r) k (fun x hx => hr x (by simp [hx])) (by simpa using hk)
    rw [List.length_append, List.append_assoc (a ++ recordB r)] at h2
    rw [h2, recsB_cons, List.length_append]
    simp only [Prod.mk.injEq, true_and]
    omega
theorem recordB_pos (r : List UInt8) : 0 < (recordB r).length := by rw [recordB_len]; omega
theorem recsB_len (ls : List (List UInt8)) : ls.length ≤ (recsB ls).length := by
  induction ls with
  | nil => simp
  | cons r ls ih =>
    have := recordB_pos r
    rw [recsB_cons, List.length_append, List.length_cons]; omega
theorem jAll_cut (ls : List (List UInt8)) (last : List UInt8) (j : Nat) (hls : ∀ r ∈ ls, r.length ≤ 1048576) (hl : last.length ≤ 1048576) (hj : j < (recordB last).length) :
    jAll (recsB ls ++ (recordB last).take j) = (ls, (recsB ls).length) := by
  have := all_cut last j hl hj ls [] ((recsB ls ++ (recordB last).take j).length + 1) hls (by have := recsB_len ls; simp only [List.length_append]; omega)
  simpa [jAll] using this
theorem recsB_bound (ls : List (List UInt8)) (h : ∀ r ∈ ls, r.length ≤ 100) : (recsB ls).length ≤ 114 * ls.length := by
  induction ls with
  | nil => simp [recsB]
  | cons r ls ih =>
    have h1 := recordB_len r
    have h2 := lebB_len (r.length + 1)
    have h3 := h r (by simp)
    have h4 := ih (fun x hx => h x (by simp [hx]))
    rw [recsB_cons, List.length_append, List.length_cons]; omega
end Go.Proofs.YtgelgkgmgjhmnaaDoor
