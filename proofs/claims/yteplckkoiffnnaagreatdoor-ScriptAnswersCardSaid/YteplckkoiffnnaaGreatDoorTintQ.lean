/-
  Bands, legends, their texts: what is printed is read, and nothing else: plain.
-/
import Derived.Test.YteplckkoiffnnaaGreatDoorTintP
namespace Go.Proofs.YteplckkoiffnnaaGreatDoor
open Go.RowKit
open Sy
set_option linter.unusedVariables false
set_option linter.unusedSimpArgs false
set_option maxRecDepth 100000
set_option maxHeartbeats 4000000

structure Bd where
  f : Int
  s : Int
def SignI (r : Int) : Prop := 0 ≤ r ∧ SignN r.toNat
instance (r : Int) : Decidable (SignI r) := by unfold SignI; exact inferInstance
def MayI (v : Int) : Prop := -2147483648 ≤ v ∧ v ≤ 2147483647
instance (v : Int) : Decidable (MayI v) := by unfold MayI; exact inferInstance
def In64 (v : Int) : Prop := -9223372036854775808 ≤ v ∧ v ≤ 9223372036854775807
def bF (l : List Bd) (i : Nat) : Int := (l.getD i ⟨0, 0⟩).f
def bS (l : List Bd) (i : Nat) : Int := (l.getD i ⟨0, 0⟩).s
def BandOk (l : List Bd) (i : Nat) : Prop := MayI (bF l i) ∧ SignI (bS l i) ∧ ∀ k, k < i → bF l k < bF l i ∧ bS l k ≠ bS l i
instance (l : List Bd) (i : Nat) : Decidable (BandOk l i) := by unfold BandOk; exact inferInstance
/-- is it a legend? -/
def RightL (l : List Bd) : Prop := 1 ≤ l.length ∧ l.length ≤ 12 ∧ ∀ i, i < l.length → BandOk l i
instance (l : List Bd) : Decidable (RightL l) := by unfold RightL; exact inferInstance

def bandT (b : Bd) : List UInt8 := Lib.itoa b.f ++ 58 :: utfN b.s.toNat
def printT (l : List Bd) : List UInt8 := joinC (l.map bandT)
theorem itoa_comma (n : Int) : (44 : UInt8) ∉ Lib.itoa n := by
  obtain ⟨h1, _, _, _⟩ := dec_facts n.natAbs
  have hd : (44 : UInt8) ∉ Lib.decDigits n.natAbs := fun h => by
    have := isD_iff.1 (h1 _ h)
    have e : (44 : UInt8).toNat = 44 := rfl
    omega
  unfold Lib.itoa
  split
  · intro h
    rcases List.mem_cons.1 h with h | h
    · exact absurd h (by decide)
    · exact hd h
  · rename_i c
    rw [show n.toNat = n.natAbs by omega]
    exact hd
theorem bandT_comma {b : Bd} (h : SignI b.s) : (44 : UInt8) ∉ bandT b := by
  unfold bandT
  intro c
  rcases List.mem_append.1 c with c | c
  · exact itoa_comma _ c
  · rcases List.mem_cons.1 c with c | c
    · exact absurd c (by decide)
    · exact utfN_comma h.2 c
theorem dig_len : ∀ (k u : Nat), u < 10 ^ (k + 1) → (Lib.decDigits u).length ≤ k + 1
  | 0, u, h => by rw [dec_one (by omega)]; simp
  | k + 1, u, h => by
    by_cases c : u < 10
    · rw [dec_one c]; simp
    · rw [dec_more c, List.length_append]
      have := dig_len k (u / 10) (by rw [Nat.pow_succ] at h; omega)
      simp only [List.length_cons, List.length_nil]
      omega
theorem itoa_len {n : Int} (h : MayI n) : (Lib.itoa n).length ≤ 11 := by
  unfold MayI at h
  unfold Lib.itoa
  split
  · have := dig_len 9 n.natAbs (by simp; omega)
    simp only [List.length_cons]
    omega
  · have := dig_len 9 n.toNat (by simp; omega)
    omega
/-- a band's text, if it is one's -/
def bandV (s : List UInt8) : Option Bd :=
  if (scan s 0).2.2 = 0 ∧ (scan s 0).2.1.toNat < s.length ∧ s[(scan s 0).2.1.toNat]? = some 58 ∧ SignN (dec (s.drop ((scan s 0).2.1.toNat + 1))).1 ∧ (dec (s.drop ((scan s 0).2.1.toNat + 1))).2 = (s.drop ((scan s 0).2.1.toNat + 1)).length then
    some ⟨(scan s 0).1, ((dec (s.drop ((scan s 0).2.1.toNat + 1))).1 : Int)⟩ else none
theorem at_split {s : List UInt8} {k : Nat} {c : UInt8} (h : s[k]? = some c) : s = s.take k ++ c :: s.drop (k + 1) := by
  obtain ⟨h1, h2⟩ := List.getElem?_eq_some_iff.1 h
  conv => lhs; rw [← List.take_append_drop k s, List.drop_eq_getElem_cons h1, h2]
theorem bandV_some {s : List UInt8} {b : Bd} (h : bandV s = some b) : s = bandT b ∧ In64 b.f ∧ SignI b.s := by
  unfold bandV at h
  split at h
  · rename_i hc
    obtain ⟨h1, h2, h3, h4, h5⟩ := hc
    injection h with h
    subst h
    rcases hx : scan s 0 with ⟨n, e, q⟩
    rw [hx] at h1 h2 h3 h4 h5
    simp only at h1 h2 h3 h4 h5 ⊢
    subst h1
    obtain ⟨k, rfl, hk, ht, hb⟩ := scan_fine hx
    simp only [Int.toNat_natCast] at h2 h3 h4 h5 ⊢
    rcases hd : dec (s.drop (k + 1)) with ⟨c, j⟩
    rw [hd] at h4 h5
    simp only at h4 h5 ⊢
    obtain ⟨hu, _⟩ := utf_dec hd h4
    rw [h5, List.take_length] at hu
    refine ⟨?_, hb, ⟨by omega, by simpa using h4⟩⟩
    unfold bandT
    simp only [Int.toNat_natCast]
    rw [← hu, ← ht]
    exact at_split h3
  · cases h
theorem colon_not : ∀ (x : List UInt8) (c : UInt8), (58 :: x : List UInt8)[0]? = some c → isD c = false := fun x c h => by
  simp only [List.getElem?_cons_zero, Option.some.injEq] at h
  subst h
  rfl
theorem bandV_of {b : Bd} (h1 : In64 b.f) (h2 : SignI b.s) : bandV (bandT b) = some b := by
  have hs : scan (bandT b) 0 = (b.f, ((Lib.itoa b.f).length : Int), 0) := scan_itoa b.f h1.1 h1.2 _ (colon_not _)
  have hd : (bandT b).drop ((Lib.itoa b.f).length + 1) = utfN b.s.toNat := by unfold bandT; simp
  have hu := dec_utf h2.2 []
  rw [List.append_nil] at hu
  unfold bandV
  rw [hs]
  simp only [Int.toNat_natCast]
  rw [hd, hu]
  rw [if_pos ⟨trivial, by unfold bandT; simp, by unfold bandT; simp, h2.2, rfl⟩]
  obtain ⟨f, s⟩ := b
  have := h2.1
  simp only at this ⊢
  rw [Int.toNat_of_nonneg this]
def partsV : List (List UInt8) → Option (List Bd)
  | [] => some []
  | p :: ps => match bandV p with
    | none => none
    | some b => (partsV ps).map (b :: ·)
theorem partsV_some : ∀ {ps : List (List UInt8)} {l : List Bd}, partsV ps = some l → ps = l.map bandT ∧ ∀ b ∈ l, In64 b.f ∧ SignI b.s
  | [], l, h => by
    injection h with h
    subst h
    exact ⟨rfl, fun b hb => by cases hb⟩
  | p :: ps, l, h => by
    unfold partsV at h
    split at h
    · cases h
    · rename_i b hb
      obtain ⟨l', hl, rfl⟩ := Option.map_eq_some_iff.1 h
      obtain ⟨e1, e2⟩ := partsV_some hl
      obtain ⟨f1, f2⟩ := bandV_some hb
      refine ⟨by rw [List.map_cons, ← f1, ← e1], fun x hx => ?_⟩
      rcases List.mem_cons.1 hx with rfl | hx
      · exact f2
      · exact e2 x hx
theorem partsV_of : ∀ {l : List Bd}, (∀ b ∈ l, In64 b.f ∧ SignI b.s) → partsV (l.map bandT) = some l
  | [], _ => rfl
  | b :: l, h => by
    rw [List.map_cons, partsV, bandV_of (h b (by simp)).1 (h b (by simp)).2]
    simp only
    rw [partsV_of fun x hx => h x (List.mem_cons_of_mem _ hx)]
    rfl
theorem RightL.good {l : List Bd} (h : RightL l) : ∀ b ∈ l, MayI b.f ∧ SignI b.s := fun b hb => by
  obtain ⟨i, hi, rfl⟩ := List.getElem_of_mem hb
  obtain ⟨h1, h2, _⟩ := h.2.2 i hi
  have e : l.getD i ⟨0, 0⟩ = l[i] := by rw [List.getD_eq_getElem?_getD, List.getElem?_eq_getElem hi]; rfl
  unfold bF at h1
  unfold bS at h2
  rw [e] at h1 h2
  exact ⟨h1, h2⟩
theorem MayI.in64 {v : Int} (h : MayI v) : In64 v := by unfold MayI at h; unfold In64; omega
theorem bandT_len {b : Bd} (h : MayI b.f) : (bandT b).length ≤ 15 := by
  have h1 := itoa_len h
  have h2 := utfN_len b.s.toNat
  unfold bandT
  rw [List.length_append, List.length_cons]
  omega
theorem tails_len : ∀ (l : List Bd), (∀ b ∈ l, MayI b.f) → ((l.map bandT).flatMap fun q => (44 : UInt8) :: q).length ≤ 16 * l.length
  | [], _ => by simp
  | b :: l, h => by
    have h1 := bandT_len (h b (by simp))
    have h2 := tails_len l fun x hx => h x (List.mem_cons_of_mem _ hx)
    simp only [List.map_cons, List.flatMap_cons, List.length_append, List.length_cons]
    omega
theorem printT_len {l : List Bd} (h : RightL l) : (printT l).length ≤ 192 := by
  have hg := h.good
  have hl := h.2.1
  unfold printT
  cases l with
  | nil => simp [joinC]
  | cons b l =>
    have h1 := bandT_len (hg b (by simp)).1
    have h2 := tails_len l fun x hx => (hg x (List.mem_cons_of_mem _ hx)).1
    simp only [List.map_cons, joinC, List.length_append]
    simp only [List.length_cons] at hl
    omega
/-- what the program reads -/
def readV (s : List UInt8) : Option (List Bd) := if 192 < s.length then none else match partsV (Lib.splitK [44] 0 (s.count 44) s) with
  | none => none
  | some l => if RightL l then some l else none
theorem readV_iff {s : List UInt8} {l : List Bd} : readV s = some l ↔ RightL l ∧ s = printT l := by
  obtain ⟨h1, h2, h3⟩ := split_spec s
  constructor
  · intro h
    unfold readV at h
    split at h
    · cases h
    · split at h
      · cases h
      · rename_i l' hp
        split at h
        · rename_i hr
          injection h with h
          subst h
          obtain ⟨e, _⟩ := partsV_some hp
          exact ⟨hr, by unfold printT; rw [← e, h1]⟩
        · cases h
  · rintro ⟨hr, rfl⟩
    have hne : l.map bandT ≠ [] := by
      have := hr.1
      intro c
      rw [List.map_eq_nil_iff.1 c] at this
      simp at this
    have e : Lib.splitK [44] 0 ((printT l).count 44) (printT l) = l.map bandT := joinC_inj h3 hne h2 (fun p hp => by
      obtain ⟨b, hb, rfl⟩ := List.mem_map.1 hp
      exact bandT_comma (hr.good b hb).2) h1
    unfold readV
    rw [if_neg (by have := printT_len hr; omega), e, partsV_of fun b hb => ⟨(hr.good b hb).1.in64, (hr.good b hb).2⟩]
    simp only
    rw [if_pos hr]

/-! the document's way -/
/-- the sign at the head of a text, and how many bytes: none: 0 -/
def runeV (x : List UInt8) : Int × Nat := if SignN (dec x).1 ∧ x ≠ [] then (((dec x).1 : Int), (dec x).2) else (0, 0)
def bandH (x : List UInt8) : Option (Bd × Nat) :=
  if (scan x 0).2.2 = 0 ∧ (scan x 0).2.1.toNat < x.length ∧ x[(scan x 0).2.1.toNat]? = some 58 ∧ (runeV (x.drop ((scan x 0).2.1.toNat + 1))).2 ≠ 0 then
    some (⟨(scan x 0).1, (runeV (x.drop ((scan x 0).2.1.toNat + 1))).1⟩, (scan x 0).2.1.toNat + 1 + (runeV (x.drop ((scan x 0).2.1.toNat + 1))).2) else none
theorem runeV_some {x : List UInt8} {r : Int} {k : Nat} (h : runeV x = (r, k)) (hk : k ≠ 0) : SignI r ∧ x.take k = utfN r.toNat ∧ k ≤ x.length := by
  unfold runeV at h
  split at h
  · rename_i hc
    rcases hd : dec x with ⟨c, j⟩
    rw [hd] at h hc
    injection h with e1 e2
    subst e1 e2
    obtain ⟨u1, u2⟩ := utf_dec hd hc.1
    exact ⟨⟨by omega, by simpa using hc.1⟩, by simpa using u1, u2⟩
  · injection h with e1 e2
    exact absurd e2.symm hk
theorem runeV_of {r : Int} (h : SignI r) (post : List UInt8) : runeV (utfN r.toNat ++ post) = (r, (utfN r.toNat).length) := by
  unfold runeV
  rw [dec_utf h.2 post, if_pos ⟨h.2, by have := utfN_ne r.toNat; intro c; exact this (List.append_eq_nil_iff.1 c).1⟩]
  simp only [Int.toNat_of_nonneg h.1]
theorem bandH_some {x : List UInt8} {b : Bd} {k : Nat} (h : bandH x = some (b, k)) : In64 b.f ∧ SignI b.s ∧ x.take k = bandT b ∧ k ≤ x.length := by
  unfold bandH at h
  split at h
  · rename_i hc
    obtain ⟨h1, h2, h3, h4⟩ := hc
    injection h with h
    injection h with hb hk
    subst hb hk
    rcases hx : scan x 0 with ⟨n, e, q⟩
    rw [hx] at h1 h2 h3 h4
    simp only at h1 h2 h3 h4 ⊢
    subst h1
    obtain ⟨i, rfl, hi, ht, hb⟩ := scan_fine hx
    simp only [Int.toNat_natCast] at h2 h3 h4 ⊢
    rcases hr : runeV (x.drop (i + 1)) with ⟨r, j⟩
    rw [hr] at h4
    simp only at h4 ⊢
    obtain ⟨g1, g2, g3⟩ := runeV_some hr h4
    rw [List.length_drop] at g3
    refine ⟨hb, g1, ?_, by omega⟩
    unfold bandT
    simp only
    rw [← g2, ← ht]
    have e1 := at_split h3
    have e2 : (x.take i).length = i := by rw [List.length_take]; omega
    conv => lhs; rw [e1]
    rw [List.take_append, e2, List.take_of_length_le (by rw [e2]; omega), show i + 1 + j - i = j + 1 by omega, List.take_succ_cons]
  · cases h
theorem bandH_of {b : Bd} (h1 : In64 b.f) (h2 : SignI b.s) (post : List UInt8) : bandH (bandT b ++ post) = some (b, (bandT b).length) := by
  have e : bandT b ++ post = Lib.itoa b.f ++ (58 :: (utfN b.s.toNat ++ post)) := by unfold bandT; simp
  have hs : scan (bandT b ++ post) 0 = (b.f, ((Lib.itoa b.f).length : Int), 0) := by rw [e]; exact scan_itoa b.f h1.1 h1.2 _ (colon_not _)
  have hd : (bandT b ++ post).drop ((Lib.itoa b.f).length + 1) = utfN b.s.toNat ++ post := by rw [e]; simp
  unfold bandH
  rw [hs]
  simp only [Int.toNat_natCast]
  rw [hd, runeV_of h2]
  have hl := utfN_len b.s.toNat
  rw [if_pos ⟨trivial, by rw [e]; simp, by rw [e]; simp, by simp only; omega⟩]
  have : (bandT b).length = (Lib.itoa b.f).length + 1 + (utfN b.s.toNat).length := by unfold bandT; simp; omega
  rw [this]
def rd : Nat → List UInt8 → Option (List Bd)
  | 0, _ => none
  | m + 1, x => match bandH x with
    | none => none
    | some (b, k) => if k = x.length then some [b] else if x[k]? = some 44 then (rd m (x.drop (k + 1))).map (b :: ·) else none
theorem rd_some : ∀ {m : Nat} {x : List UInt8} {l : List Bd}, rd m x = some l → x = printT l ∧ (∀ b ∈ l, In64 b.f ∧ SignI b.s) ∧ l ≠ []
  | 0, x, l, h => by cases h
  | m + 1, x, l, h => by
    unfold rd at h
    split at h
    · cases h
    · rename_i b k hb
      obtain ⟨h1, h2, h3, h4⟩ := bandH_some hb
      split at h
      · rename_i hk
        injection h with h
        subst h
        rw [hk, List.take_length] at h3
        exact ⟨by rw [h3]; simp [printT, joinC], fun y hy => by rw [List.mem_singleton] at hy; subst hy; exact ⟨h1, h2⟩, by simp⟩
      · split at h
        · rename_i h44
          obtain ⟨l', hl, rfl⟩ := Option.map_eq_some_iff.1 h
          obtain ⟨e1, e2, e3⟩ := rd_some hl
          refine ⟨?_, fun y hy => ?_, by simp⟩
          · rw [at_split h44, h3, e1]
            cases l' with
            | nil => exact absurd rfl e3
            | cons c l' => simp [printT, joinC]
          · rcases List.mem_cons.1 hy with rfl | hy
            · exact ⟨h1, h2⟩
            · exact e2 y hy
        · cases h
theorem rd_of : ∀ {m : Nat} {l : List Bd}, l ≠ [] → l.length ≤ m → (∀ b ∈ l, In64 b.f ∧ SignI b.s) → rd m (printT l) = some l
  | 0, l, h, hl, _ => absurd (List.length_eq_zero_iff.1 (by omega)) h
  | m + 1, [], h, hl, _ => absurd rfl h
  | m + 1, [b], h, hl, hg => by
    have e : printT [b] = bandT b ++ [] := by simp [printT, joinC]
    unfold rd
    rw [e, bandH_of (hg b (by simp)).1 (hg b (by simp)).2]
    simp
  | m + 1, b :: c :: l, h, hl, hg => by
    have e : printT (b :: c :: l) = bandT b ++ 44 :: printT (c :: l) := by simp [printT, joinC]
    have ih := rd_of (m := m) (l := c :: l) (by simp) (by simp only [List.length_cons] at hl ⊢; omega) fun x hx => hg x (List.mem_cons_of_mem _ hx)
    unfold rd
    rw [e, bandH_of (hg b (by simp)).1 (hg b (by simp)).2]
    simp only
    rw [if_neg (by simp), if_pos (by simp)]
    have : (bandT b ++ 44 :: printT (c :: l)).drop ((bandT b).length + 1) = printT (c :: l) := by simp
    rw [this, ih]
    rfl
def refV (s : List UInt8) : Option (List Bd) := match rd 13 s with
  | none => none
  | some l => if RightL l then some l else none
theorem refV_iff {s : List UInt8} {l : List Bd} : refV s = some l ↔ RightL l ∧ s = printT l := by
  constructor
  · intro h
    unfold refV at h
    split at h
    · cases h
    · rename_i l' hl
      split at h
      · rename_i hr
        injection h with h
        subst h
        exact ⟨hr, (rd_some hl).1⟩
      · cases h
  · rintro ⟨hr, rfl⟩
    unfold refV
    have h1 := hr.1
    have h2 := hr.2.1
    rw [rd_of (by intro c; rw [c] at h1; simp at h1) (by omega) fun b hb => ⟨(hr.good b hb).1.in64, (hr.good b hb).2⟩]
    simp only
    rw [if_pos hr]
theorem readV_ref (s : List UInt8) : readV s = refV s := by
  cases h : readV s with
  | some l => exact (refV_iff.2 (readV_iff.1 h)).symm
  | none =>
    cases h' : refV s with
    | none => rfl
    | some l => rw [readV_iff.2 (refV_iff.1 h')] at h; cases h
end Go.Proofs.YteplckkoiffnnaaGreatDoor
