/-
  Closed runs: a region that draws its order: whatever comes up next, all comes to the one end.
-/
import Derived.Test.YtonbjlkmcikbgaaGreatDoorCxI
namespace Go.Proofs.YtonbjlkmcikbgaaGreatDoor
open Go.RowKit
namespace Cx
set_option linter.unusedVariables false
set_option linter.unusedSimpArgs false

theorem bit_lt {all : List Oper} {ms : List Nat} (M : Msk all ms) : ∀ (i : Nat) (m : Nat), ms[i]? = some m → ∀ j, Nat.testBit m j = true → j < i := by
  intro i
  induction i using Nat.strongRecOn with
  | _ i ih =>
    intro m hm j hj
    have hlt := (List.getElem?_eq_some_iff.1 hm).1
    rw [M.len] at hlt
    obtain ⟨p, hp, h1, hx⟩ := M.bit i _ m (List.getElem?_eq_getElem hlt) hm j hj
    rcases hx with rfl | ⟨a, ha, hb⟩
    · exact h1
    · have := ih p h1 a ha j hb
      omega
def Unabs (ms : List Nat) (prs : List Rc) (q j : Nat) : Prop := ∀ (p : Nat) (rp : Rc) (m : Nat), prs[p]? = some rp → isHk rp.kd = true → p < q → ms[p]? = some m → Nat.testBit m j = false
def IsN (prs : List Rc) (x : Nat × Nat × Ob) : Prop := ∃ r : Rc, prs[x.1]? = some r ∧ r.kd = .N ∧ x.2.1 = r.c ∧ r.h'.get r.c = some x.2.2
theorem isHk_of {k : Kd} (h : isHk k = true) : k = .H := by cases k <;> first | rfl | cases h
section
variable {P : Program} {call : Callee} {all : List Oper} {N : Nat} {ms : List Nat} {t0 : Tm} {h0 : Hp} {c0 : Nat}
theorem Tra.pend_iff {i : Nat} {prs : List Rc} {t : Tm} {h : Hp} {c : Nat} {pend : Pend} (M : Msk all ms) (T : Tra P call N all ms t0 h0 c0 i prs t h c pend) : ∀ x, x ∈ pend ↔ (IsN prs x ∧ Unabs ms prs i x.1) := by
  induction T with
  | nil => intro x; simp [IsN]
  | @snoc i prs t t' h c pend pend' o m r T ho hm hr ht ih =>
    intro x
    have hl := T.len
    obtain ⟨e1, e2, e3, ok⟩ := rec1_ok hr
    have hlast : (prs ++ [r])[i]? = some r := by rw [List.getElem?_append_right (by omega), hl]; simp
    have old : ∀ k, k < i → (prs ++ [r])[k]? = prs[k]? := fun k hk => List.getElem?_append_left (by omega)
    have isN_old : r.kd ≠ .N → (IsN (prs ++ [r]) x ↔ IsN prs x) := fun hk => by
      constructor
      · rintro ⟨q, h1, h2, h3⟩
        have hx := (List.getElem?_eq_some_iff.1 h1).1
        simp at hx
        rcases Nat.lt_or_ge x.1 i with hlt | hge
        · rw [old _ hlt] at h1; exact ⟨q, h1, h2, h3⟩
        · have : x.1 = i := by omega
          rw [this, hlast] at h1
          injection h1 with h1
          subst h1
          exact absurd h2 hk
      · rintro ⟨q, h1, h2, h3⟩
        have hx := (List.getElem?_eq_some_iff.1 h1).1
        exact ⟨q, by rw [old _ (by omega)]; exact h1, h2, h3⟩
    have un_iff : ∀ j, Unabs ms (prs ++ [r]) (i + 1) j ↔ (Unabs ms prs i j ∧ (isHk r.kd = true → Nat.testBit m j = false)) := fun j => by
      constructor
      · intro hu
        refine ⟨fun p rp mp h1 h2 h3 h4 => hu p rp mp (by rw [old _ h3]; exact h1) h2 (by omega) h4, fun hk => hu i r m hlast hk (by omega) hm⟩
      · rintro ⟨h1, h2⟩ p rp mp g1 g2 g3 g4
        rcases Nat.lt_or_ge p i with hlt | hge
        · rw [old _ hlt] at g1; exact h1 p rp mp g1 g2 hlt g4
        · have : p = i := by omega
          subst this
          rw [hlast] at g1
          injection g1 with g1
          subst g1
          rw [hm] at g4
          injection g4 with g4
          subst g4
          exact h2 g2
    cases hk : r.kd with
    | skip =>
      rw [(ok.skip hk).2.2.2, ih x, isN_old (by rw [hk]; simp), un_iff, hk]
      simp [isHk]
    | T =>
      rw [(ok.T hk).2.2.2, ih x, isN_old (by rw [hk]; simp), un_iff, hk]
      simp [isHk]
    | L =>
      rw [(ok.L hk).2.2.2, ih x, isN_old (by rw [hk]; simp), un_iff, hk]
      simp [isHk]
    | N =>
      obtain ⟨_, _, _, _, ob, hob, hp⟩ := ok.N hk
      rw [hp, List.mem_cons, ih x, un_iff, hk]
      simp only [isHk, Bool.false_eq_true, false_implies, and_true]
      constructor
      · rintro (rfl | ⟨⟨q, h1, h2, h3⟩, hu⟩)
        · refine ⟨⟨r, hlast, hk, rfl, hob⟩, fun p rp mp g1 g2 g3 g4 => ?_⟩
          cases hb : Nat.testBit mp i with
          | false => rfl
          | true =>
            have := bit_lt M p mp g4 i hb
            have := (List.getElem?_eq_some_iff.1 g1).1
            omega
        · have hx := (List.getElem?_eq_some_iff.1 h1).1
          exact ⟨⟨q, by rw [old _ (by omega)]; exact h1, h2, h3⟩, hu⟩
      · rintro ⟨⟨q, h1, h2, h3, h4⟩, hu⟩
        have hx := (List.getElem?_eq_some_iff.1 h1).1
        simp at hx
        rcases Nat.lt_or_ge x.1 i with hlt | hge
        · rw [old _ hlt] at h1
          exact .inr ⟨⟨q, h1, h2, h3, h4⟩, hu⟩
        · have hxi : x.1 = i := by omega
          rw [hxi, hlast] at h1
          injection h1 with h1
          subst h1
          left
          obtain ⟨x1, x2, x3⟩ := x
          simp only at hxi h3 h4
          rw [hob] at h4
          injection h4 with h4
          rw [hxi, h3, h4]
    | H =>
      obtain ⟨_, _, hp, _⟩ := ok.H hk
      rw [hp, List.mem_filter, ih x, isN_old (by rw [hk]; simp), un_iff, hk]
      simp [isHk, and_assoc]
theorem Tra.order {i : Nat} {rs : List Rc} {t : Tm} {h : Hp} {c : Nat} {pend : Pend} (hcall : CallOK P call) (T : Tra P call N all ms t0 h0 c0 i rs t h c pend) {k k' : Nat} {r r' : Rc} (hk : rs[k]? = some r) (hk' : rs[k']? = some r') (hlt : k < k') : r.c' ≤ r'.c := by
  obtain ⟨o, m, pk, pk', _, _, T', _⟩ := T.sub k' r' hk'
  exact ((T'.count hcall).2 k r (by rw [List.getElem?_take_of_lt hlt]; exact hk)).2.2
theorem Tra.nm {i : Nat} {rs : List Rc} {t : Tm} {h : Hp} {c : Nat} {pend : Pend} (hcall : CallOK P call) (T : Tra P call N all ms t0 h0 c0 i rs t h c pend) {x y : Nat × Nat × Ob} (hx : IsN rs x) (hy : IsN rs y) (e : x.2.1 = y.2.1) : x = y := by
  obtain ⟨r, h1, h2, h3, h4⟩ := hx
  obtain ⟨r', g1, g2, g3, g4⟩ := hy
  have cc : ∀ {k : Nat} {r : Rc}, rs[k]? = some r → r.kd = .N → r.c' = r.c + 1 := fun hk hd => by
    obtain ⟨o, m, pk, pk', _, _, _, ok⟩ := T.sub _ _ hk
    exact (ok.N hd).2.2.2.1
  rcases Nat.lt_trichotomy x.1 y.1 with hlt | heq | hlt
  · have := T.order hcall h1 g1 hlt
    have := cc h1 h2
    omega
  · rw [heq, g1] at h1
    injection h1 with h1
    subst h1
    rw [g4] at h4
    injection h4 with h4
    obtain ⟨x1, x2, x3⟩ := x
    obtain ⟨y1, y2, y3⟩ := y
    simp only at *
    rw [heq, h4, e]
  · have := T.order hcall g1 h1 hlt
    have := cc g1 g2
    omega
end

/-- all new objects of a trace -/
noncomputable def allN : Nat → List Rc → Pend
  | _, [] => []
  | i, r :: l => match isNk r.kd with
    | true => match r.h'.get r.c with
      | some ob => (i, r.c, ob) :: allN (i + 1) l
      | none => allN (i + 1) l
    | false => allN (i + 1) l
theorem isNk_of {k : Kd} : isNk k = true ↔ k = .N := by cases k <;> simp [isNk]
theorem allN_cons (i : Nat) (r : Rc) (l : List Rc) : allN i (r :: l) = match isNk r.kd with
    | true => match r.h'.get r.c with
      | some ob => (i, r.c, ob) :: allN (i + 1) l
      | none => allN (i + 1) l
    | false => allN (i + 1) l := rfl
theorem allN_mem : ∀ {l : List Rc} {i : Nat} {x : Nat × Nat × Ob}, x ∈ allN i l ↔ ∃ r : Rc, i ≤ x.1 ∧ l[x.1 - i]? = some r ∧ r.kd = .N ∧ x.2.1 = r.c ∧ r.h'.get r.c = some x.2.2
  | [], i, x => by simp [allN]
  | r :: l, i, x => by
    have rest : x ∈ allN (i + 1) l ↔ ∃ q : Rc, i + 1 ≤ x.1 ∧ (r :: l)[x.1 - i]? = some q ∧ q.kd = .N ∧ x.2.1 = q.c ∧ q.h'.get q.c = some x.2.2 := by
      rw [allN_mem (l := l)]
      constructor
      · rintro ⟨q, h1, h2, h3⟩
        refine ⟨q, h1, ?_, h3⟩
        rw [show x.1 - i = (x.1 - (i + 1)) + 1 by omega]
        simpa using h2
      · rintro ⟨q, h1, h2, h3⟩
        refine ⟨q, h1, ?_, h3⟩
        rw [show x.1 - i = (x.1 - (i + 1)) + 1 by omega] at h2
        simpa using h2
    have split : (∃ q : Rc, i ≤ x.1 ∧ (r :: l)[x.1 - i]? = some q ∧ q.kd = .N ∧ x.2.1 = q.c ∧ q.h'.get q.c = some x.2.2) ↔ ((x.1 = i ∧ r.kd = .N ∧ x.2.1 = r.c ∧ r.h'.get r.c = some x.2.2) ∨ x ∈ allN (i + 1) l) := by
      rw [rest]
      constructor
      · rintro ⟨q, h1, h2, h3⟩
        by_cases hx : x.1 = i
        · rw [hx, Nat.sub_self] at h2
          simp at h2
          subst h2
          exact .inl ⟨hx, h3⟩
        · exact .inr ⟨q, by omega, h2, h3⟩
      · rintro (⟨hx, h3⟩ | ⟨q, h1, h2, h3⟩)
        · exact ⟨r, by omega, by rw [hx, Nat.sub_self]; rfl, h3⟩
        · exact ⟨q, by omega, h2, h3⟩
    rw [split, allN_cons]
    cases hk : isNk r.kd with
    | false =>
      have : r.kd ≠ .N := fun e => by rw [isNk_of.2 e] at hk; cases hk
      simp [this]
    | true =>
      have hk := isNk_of.1 hk
      cases hg : r.h'.get r.c with
      | none => simp
      | some ob =>
        simp only [List.mem_cons, hk, true_and, Option.some.injEq]
        constructor
        · rintro (rfl | h)
          · exact .inl ⟨rfl, rfl, rfl⟩
          · exact .inr h
        · rintro (⟨h1, h2, h3⟩ | h)
          · left
            obtain ⟨x1, x2, x3⟩ := x
            simp only at *
            rw [h1, h2, h3]
          · exact .inr h
theorem allN_iff {rs : List Rc} {x : Nat × Nat × Ob} : x ∈ allN 0 rs ↔ IsN rs x := by
  rw [allN_mem]
  simp [IsN]
open Classical in
noncomputable def pfl (ms : List Nat) (rs : List Rc) (ls : Array Bool) (q : Nat) : Pend := (allN 0 rs).filter fun x => ls.getD x.1 false && decide (Unabs ms rs q x.1)
theorem pfl_mem {ms : List Nat} {rs : List Rc} {ls : Array Bool} {q : Nat} {x : Nat × Nat × Ob} : x ∈ pfl ms rs ls q ↔ IsN rs x ∧ ls.getD x.1 false = true ∧ Unabs ms rs q x.1 := by
  unfold pfl
  rw [List.mem_filter, allN_iff]
  simp
/-- two lists of the same things -/
theorem ovL_ext {L L' : Pend} {h : HF} (hi : NmInj L) (hi' : NmInj L') (he : ∀ x, x ∈ L ↔ x ∈ L') : ovL L h = ovL L' h := by
  funext n
  rcases ovL_cases h hi n with ⟨x, hx, rfl, e⟩ | ⟨hn, e⟩
  · rw [e, ovL_in hi' ((he x).1 hx)]
  · rw [e, ovL_out fun x hx => hn x ((he x).2 hx)]
theorem RanF.congr {ρ ρ' : Rn} {h h' g g' : HF} {c c' : Nat} {w w' : World} (a : RanF ρ h c w ρ' h' c' w') (e : h = g) (e' : h' = g') : RanF ρ g c w ρ' g' c' w' := by subst e e'; exact a
theorem RanF.trans2 {ρ ρ1 ρ2 : Rn} {h h1 h2 : HF} {c cF c1 c2 : Nat} {w w1 w2 : World} (a : RanF ρ h c w ρ1 h1 cF w1) (b : RanF ρ1 h1 c1 w1 ρ2 h2 c2 w2) (hc : c ≤ c1) (hF : c2 ≤ cF) : RanF ρ h c w ρ2 h2 cF w2 where
  lay := b.lay
  le := a.le.trans b.le
  out := fun n hn => by
    have := b.cc
    rw [b.out n (by omega), a.out n hn]
  cc := a.cc
  os := b.os.trans a.os
  tape := b.tape.trans a.tape
  output := b.output.trans a.output
  size := Nat.le_trans a.size b.size
  frame := fun i hi ho => by
    rw [b.frame i (Nat.lt_of_lt_of_le hi a.size) (fun c => ho (a.own i hi c)), a.frame i hi ho]
  own := fun i hi o => a.own i hi (b.own i (Nat.lt_of_lt_of_le hi a.size) o)
end Cx
end Go.Proofs.YtonbjlkmcikbgaaGreatDoor
