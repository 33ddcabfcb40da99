/-
  Texts of the proofs, one behind the other: TintP.
-/
import Derived.Test.YtojlgfkjnkjcmaaGreatDoorPartV
import Derived.Lib.SplitLaws
/-
  Signs as UTF-8, and back; bands and their texts: plain.
-/
namespace Go.Proofs.YtojlgfkjnkjcmaaGreatDoor
open Go.RowKit
open Sy
set_option linter.unusedVariables false
set_option linter.unusedSimpArgs false
set_option maxRecDepth 100000
set_option maxHeartbeats 4000000

/-- a sign, by its number -/
def SignN (c : Nat) : Prop := c ≠ 44 ∧ c ≠ 58 ∧ c ≠ 173 ∧ ((33 ≤ c ∧ c ≤ 126) ∨ (161 ≤ c ∧ c ≤ 55295) ∨ (57344 ≤ c ∧ c ≤ 65532))
instance (c : Nat) : Decidable (SignN c) := by unfold SignN; exact inferInstance
def u8 (n : Nat) : UInt8 := UInt8.ofNat n
theorem u8_nat {n : Nat} (h : n < 256) : (u8 n).toNat = n := by unfold u8; rw [UInt8.toNat_ofNat']; omega
theorem u8_of {a : UInt8} {n : Nat} (h : a.toNat = n) : u8 n = a := by
  apply UInt8.toNat_inj.1
  rw [u8_nat (by have := a.toNat_lt; omega), h]
def utfN (c : Nat) : List UInt8 := if c < 128 then [u8 c] else if c < 2048 then [u8 (192 + c / 64), u8 (128 + c % 64)] else [u8 (224 + c / 4096), u8 (128 + c / 64 % 64), u8 (128 + c % 64)]
theorem utfN_ne (c : Nat) : utfN c ≠ [] := by unfold utfN; split <;> (try split) <;> simp
theorem utfN_len (c : Nat) : 1 ≤ (utfN c).length ∧ (utfN c).length ≤ 3 := by unfold utfN; split <;> (try split) <;> simp
/-- what stands at the head of a text -/
def dec (x : List UInt8) : Nat × Nat :=
  let b (k : Nat) : Nat := ((x[k]?).getD 0).toNat
  let cont (k : Nat) : Bool := k < x.length && b k / 64 == 2
  if b 0 < 0x80 then (b 0, 1)
  else if b 0 / 32 == 6 && cont 1 then
    let c := (b 0 % 32) * 64 + b 1 % 64
    if c ≥ 0x80 then (c, 2) else (Utf8.runeError, 1)
  else if b 0 / 16 == 14 && cont 1 && cont 2 then
    let c := (b 0 % 16) * 4096 + (b 1 % 64) * 64 + b 2 % 64
    if c ≥ 0x800 && Utf8.valid c then (c, 3) else (Utf8.runeError, 1)
  else if b 0 / 8 == 30 && cont 1 && cont 2 && cont 3 then
    let c := (b 0 % 8) * 262144 + (b 1 % 64) * 4096 + (b 2 % 64) * 64 + b 3 % 64
    if c ≥ 0x10000 && Utf8.valid c then (c, 4) else (Utf8.runeError, 1)
  else (Utf8.runeError, 1)
theorem get_bs (l : List UInt8) (i k : Nat) : ((bs l).get! (i + k)).toNat = (((l.drop i)[k]?).getD 0).toNat := by
  rw [List.getElem?_drop]
  unfold bs ByteArray.get!
  simp only [Array.getElem!_eq_getD, Array.getD_eq_getD_getElem?, List.getElem?_toArray]
  rfl
theorem decode_bs (l : List UInt8) (i : Nat) : Utf8.decode (bs l) i = dec (l.drop i) := by
  have h0 := get_bs l i
  have hc : ∀ k, decide (i + k < (bs l).size) = decide (k < (l.drop i).length) := fun k => by
    rw [bs_size, List.length_drop]
    exact decide_eq_decide.2 (by omega)
  unfold Utf8.decode dec
  simp only [h0, hc]
theorem dec_utf {c : Nat} (h : SignN c) (post : List UInt8) : dec (utfN c ++ post) = (c, (utfN c).length) := by
  unfold SignN at h
  unfold utfN
  split
  · rename_i h1
    have e0 : ((([u8 c] ++ post)[0]?).getD 0).toNat = c := by simp [u8_nat (show c < 256 by omega)]
    unfold dec
    simp only [e0]
    rw [if_pos (by omega)]
    rfl
  · split
    · rename_i h1 h2
      have e0 : ((([u8 (192 + c / 64), u8 (128 + c % 64)] ++ post)[0]?).getD 0).toNat = 192 + c / 64 := by simp [u8_nat (show 192 + c / 64 < 256 by omega)]
      have e1 : ((([u8 (192 + c / 64), u8 (128 + c % 64)] ++ post)[1]?).getD 0).toNat = 128 + c % 64 := by simp [u8_nat (show 128 + c % 64 < 256 by omega)]
      have el : decide (1 < ([u8 (192 + c / 64), u8 (128 + c % 64)] ++ post).length) = true := decide_eq_true (by simp)
      unfold dec
      simp only [e0, e1, el]
      have f1 : (192 + c / 64) / 32 = 6 := by omega
      have f2 : (128 + c % 64) / 64 = 2 := by omega
      have f3 : (192 + c / 64) % 32 * 64 + (128 + c % 64) % 64 = c := by omega
      rw [f1, f2, f3, if_neg (by omega)]
      simp only [beq_self_eq_true, Bool.and_self, if_true]
      rw [if_pos (by omega)]
      rfl
    · rename_i h1 h2
      have e0 : ((([u8 (224 + c / 4096), u8 (128 + c / 64 % 64), u8 (128 + c % 64)] ++ post)[0]?).getD 0).toNat = 224 + c / 4096 := by simp [u8_nat (show 224 + c / 4096 < 256 by omega)]
      have e1 : ((([u8 (224 + c / 4096), u8 (128 + c / 64 % 64), u8 (128 + c % 64)] ++ post)[1]?).getD 0).toNat = 128 + c / 64 % 64 := by simp [u8_nat (show 128 + c / 64 % 64 < 256 by omega)]
      have e2 : ((([u8 (224 + c / 4096), u8 (128 + c / 64 % 64), u8 (128 + c % 64)] ++ post)[2]?).getD 0).toNat = 128 + c % 64 := by simp [u8_nat (show 128 + c % 64 < 256 by omega)]
      have el : decide (1 < ([u8 (224 + c / 4096), u8 (128 + c / 64 % 64), u8 (128 + c % 64)] ++ post).length) = true := decide_eq_true (by simp)
      have el2 : decide (2 < ([u8 (224 + c / 4096), u8 (128 + c / 64 % 64), u8 (128 + c % 64)] ++ post).length) = true := decide_eq_true (by simp)
      unfold dec
      simp only [e0, e1, e2, el, el2]
      have f0 : ((224 + c / 4096) / 32 == 6) = false := by
        have : (224 + c / 4096) / 32 = 7 := by omega
        rw [this]; rfl
      have f1 : (224 + c / 4096) / 16 = 14 := by omega
      have f2 : (128 + c % 64) / 64 = 2 := by omega
      have f2' : (128 + c / 64 % 64) / 64 = 2 := by omega
      have f3 : (224 + c / 4096) % 16 * 4096 + (128 + c / 64 % 64) % 64 * 64 + (128 + c % 64) % 64 = c := by omega
      have fv : Utf8.valid (c : Int) = true := by
        unfold Utf8.valid
        simp only [Bool.or_eq_true, Bool.and_eq_true, decide_eq_true_eq]
        omega
      rw [f0, f1, f2, f2', f3, fv, if_neg (by omega)]
      simp only [Bool.false_and, Bool.false_eq_true, if_false, beq_self_eq_true, Bool.and_self, if_true, Bool.and_true, decide_eq_true_eq]
      rw [if_pos (by omega)]
      rfl
theorem utf_dec {x : List UInt8} {c k : Nat} (h : dec x = (c, k)) (hs : SignN c) : x.take k = utfN c ∧ k ≤ x.length := by
  unfold SignN at hs
  have herr : ∀ {q : Nat}, (Utf8.runeError, q) = (c, k) → False := fun e => by
    injection e with e _
    unfold Utf8.runeError at e
    omega
  cases x with
  | nil =>
    have : dec [] = (0, 1) := rfl
    rw [this] at h
    injection h with h _
    omega
  | cons a x =>
  unfold dec at h
  simp only [List.getElem?_cons_zero, Option.getD_some, List.getElem?_cons_succ] at h
  split at h
  · injection h with h1 h2
    subst h1 h2
    unfold utfN
    rename_i hlt
    rw [if_pos (by omega)]
    exact ⟨by rw [u8_of rfl]; rfl, by simp⟩
  · rename_i h128
    split at h
    · rename_i hc
      simp only [Bool.and_eq_true, beq_iff_eq, decide_eq_true_eq] at hc
      obtain ⟨hc0, hc1, hc2⟩ := hc
      cases x with
      | nil => simp at hc1
      | cons b x =>
      simp only [List.getElem?_cons_zero, Option.getD_some] at h hc2
      split at h
      · rename_i hge
        injection h with h1 h2
        subst h2
        have ha := a.toNat_lt
        have hb := b.toNat_lt
        unfold utfN
        rw [if_neg (by omega), if_pos (by omega)]
        refine ⟨?_, by simp⟩
        simp only [List.take_succ_cons, List.take_zero]
        rw [u8_of (a := a) (by omega), u8_of (a := b) (by omega)]
      · exact (herr h).elim
    · split at h
      · rename_i hc
        simp only [Bool.and_eq_true, beq_iff_eq, decide_eq_true_eq] at hc
        obtain ⟨⟨hc0, hc1, hc2⟩, hc3, hc4⟩ := hc
        cases x with
        | nil => simp at hc1
        | cons b x =>
        cases x with
        | nil => simp at hc3
        | cons d x =>
        simp only [List.getElem?_cons_zero, Option.getD_some, List.getElem?_cons_succ] at h hc2 hc4
        split at h
        · rename_i hge
          simp only [Bool.and_eq_true, decide_eq_true_eq] at hge
          injection h with h1 h2
          subst h2
          have ha := a.toNat_lt
          have hb := b.toNat_lt
          have hd := d.toNat_lt
          unfold utfN
          rw [if_neg (by omega), if_neg (by omega)]
          refine ⟨?_, by simp⟩
          simp only [List.take_succ_cons, List.take_zero]
          rw [u8_of (a := a) (by omega), u8_of (a := b) (by omega), u8_of (a := d) (by omega)]
        · exact (herr h).elim
      · split at h
        · split at h
          · rename_i hge
            simp only [Bool.and_eq_true, decide_eq_true_eq] at hge
            injection h with h1 h2
            omega
          · exact (herr h).elim
        · exact (herr h).elim
/-- no byte of a sign is a comma -/
theorem utfN_comma {c : Nat} (h : SignN c) : (44 : UInt8) ∉ utfN c := by
  unfold SignN at h
  have key : ∀ n, n < 256 → n ≠ 44 → (44 : UInt8) ≠ u8 n := fun n h1 h2 e => by
    have := congrArg UInt8.toNat e
    rw [u8_nat h1] at this
    exact h2 this.symm
  unfold utfN
  split
  · simp only [List.mem_singleton]; exact key _ (by omega) (by omega)
  · split
    · simp only [List.mem_cons, List.not_mem_nil, or_false, not_or]
      exact ⟨key _ (by omega) (by omega), key _ (by omega) (by omega)⟩
    · simp only [List.mem_cons, List.not_mem_nil, or_false, not_or]
      exact ⟨key _ (by omega) (by omega), key _ (by omega) (by omega), key _ (by omega) (by omega)⟩
/-! numbers at the head of a text -/
theorem nd_take {l : List UInt8} {k : Nat} (h : k ≤ nd l) : nd (l.take k) = k := by
  have h1 := nd_le l
  have h2 : ∀ c ∈ l.take k, isD c = true := fun c hc => nd_all l c (by
    have : l.take k = (l.take (nd l)).take k := by rw [List.take_take, Nat.min_eq_left h]
    rw [this] at hc
    exact List.mem_of_mem_take hc)
  have := nd_pre (rest := []) h2 (by simp)
  rw [List.append_nil, List.length_take] at this
  omega
theorem scan_fine {s : List UInt8} {n e : Int} (h : scan s 0 = (n, e, 0)) : ∃ k : Nat, e = (k : Int) ∧ k ≤ s.length ∧ s.take k = Lib.itoa n ∧ -9223372036854775808 ≤ n ∧ n ≤ 9223372036854775807 := by
  have hs := scan_of (l := s) (r := s) (q := s.drop (sgn s)) (n := 0) (Nat.zero_le _) rfl rfl rfl rfl
  rw [show ((0 : Nat) : Int) = 0 from rfl, h] at hs
  have hq := nd_le (s.drop (sgn s))
  have hsl := sgn_le s
  have hlen : (s.drop (sgn s)).length = s.length - sgn s := by simp
  by_cases c : nd (s.drop (sgn s)) = 0 ∨ ((s.drop (sgn s))[0]? = some 48 ∧ (1 < nd (s.drop (sgn s)) ∨ 0 < sgn s))
  · rw [if_pos c] at hs
    simp at hs
  rw [if_neg c] at hs
  by_cases hv : dv 0 ((s.drop (sgn s)).take (nd (s.drop (sgn s)))) ≤ 9223372036854775807 + sgn s
  · rw [if_pos hv] at hs
    obtain ⟨hn, he⟩ := Prod.ext_iff.1 hs
    simp only at hn he
    obtain ⟨he, -⟩ := Prod.ext_iff.1 he
    simp only at he
    generalize hK : sgn s + nd (s.drop (sgn s)) = K
    have hKs : K ≤ s.length := by omega
    have hnd0 : 0 < nd (s.drop (sgn s)) := by omega
    have hsg : sgn (s.take K) = sgn s := by
      cases s with
      | nil => simp [nd] at hnd0
      | cons a t =>
        obtain ⟨K', rfl⟩ : ∃ K', K = K' + 1 := ⟨K - 1, by omega⟩
        rfl
    have hdr : (s.take K).drop (sgn s) = (s.drop (sgn s)).take (nd (s.drop (sgn s))) := by
      rw [List.drop_take]
      congr 1
      omega
    have hnd : nd ((s.drop (sgn s)).take (nd (s.drop (sgn s)))) = nd (s.drop (sgn s)) := nd_take (Nat.le_refl _)
    have h0 : ((s.drop (sgn s)).take (nd (s.drop (sgn s))))[0]? = (s.drop (sgn s))[0]? := by rw [List.getElem?_take, if_pos hnd0]
    have h2 := scan_of (l := s.take K) (r := s.take K) (q := (s.drop (sgn s)).take (nd (s.drop (sgn s)))) (i := nd (s.drop (sgn s))) (sg := sgn s) (n := 0) (Nat.zero_le _) rfl hsg hdr hnd
    rw [show ((0 : Nat) : Int) = 0 from rfl, h0, if_neg c] at h2
    have htt : ((s.drop (sgn s)).take (nd (s.drop (sgn s)))).take (nd (s.drop (sgn s))) = (s.drop (sgn s)).take (nd (s.drop (sgn s))) := by rw [List.take_take, Nat.min_self]
    rw [htt, if_pos hv, ← hn] at h2
    have hr : read (s.take K) = (n, 0) := by
      unfold read
      rw [h2]
      have hl : (s.take K).length = K := by rw [List.length_take]; omega
      simp only [ne_eq, not_true_eq_false, if_false]
      rw [if_neg (by rw [hl]; omega)]
    have hb := read_rng (l := s.take K)
    rw [hr] at hb
    exact ⟨K, by omega, hKs, (itoa_read hr).symm, hb.1, hb.2⟩
  · rw [if_neg hv] at hs
    simp at hs
/-- a number further on -/
theorem scan_shift (s : List UInt8) {k : Nat} (hk : k ≤ s.length) : scan s (k : Int) = if (scan (s.drop k) 0).2.2 = 0 then ((scan (s.drop k) 0).1, (k : Int) + (scan (s.drop k) 0).2.1, 0) else scan (s.drop k) 0 := by
  have h1 := scan_of (l := s) (r := s.drop k) (q := (s.drop k).drop (sgn (s.drop k))) (n := k) hk rfl rfl rfl rfl
  have h2 := scan_of (l := s.drop k) (r := s.drop k) (q := (s.drop k).drop (sgn (s.drop k))) (n := 0) (Nat.zero_le _) rfl rfl rfl rfl
  rw [show ((0 : Nat) : Int) = 0 from rfl] at h2
  rw [h1, h2]
  split
  · rfl
  · split
    · rw [if_pos rfl]
      simp only [Prod.mk.injEq, true_and, and_true]
      omega
    · rfl

/-! texts between commas -/
def joinC : List (List UInt8) → List UInt8
  | [] => []
  | p :: ps => p ++ ps.flatMap fun q => 44 :: q
theorem joinC_nil {ps : List (List UInt8)} (h : ps ≠ []) : joinC ([] :: ps) = 44 :: joinC ps := by
  cases ps with
  | nil => exact absurd rfl h
  | cons q qs => simp [joinC]
def consH (c : UInt8) : List (List UInt8) → List (List UInt8)
  | [] => [[c]]
  | p :: ps => (c :: p) :: ps
theorem split_step {c : UInt8} (hc : c ≠ 44) (l : List UInt8) : ∀ k, Lib.splitK [44] 0 k (c :: l) = consH c (Lib.splitK [44] 0 k l)
  | 0 => rfl
  | k + 1 => by
    have hp : ([44] : List UInt8).isPrefixOf (c :: l) = false := by simp [List.isPrefixOf, Ne.symm hc]
    have hix : Lib.index (c :: l) [44] = if Lib.index l [44] == -1 then -1 else Lib.index l [44] + 1 := by rw [Lib.index, hp]; simp
    unfold Lib.splitK
    by_cases hm : Lib.index l [44] = -1
    · rw [hix, hm]; rfl
    · have hge := Lib.index_ge l [44]
      obtain ⟨j, hj⟩ : ∃ j : Nat, Lib.index l [44] = j := ⟨(Lib.index l [44]).toNat, by omega⟩
      have e1 : Lib.index (c :: l) [44] = ((j + 1 : Nat) : Int) := by rw [hix, if_neg (fun e => hm (beq_iff_eq.1 e)), hj]; omega
      rw [e1, hj, if_neg (fun e => by have := beq_iff_eq.1 e; omega), if_neg (fun e => by have := beq_iff_eq.1 e; omega)]
      simp [consH]
theorem split_spec : ∀ s : List UInt8, joinC (Lib.splitK [44] 0 (s.count 44) s) = s ∧ (∀ p ∈ Lib.splitK [44] 0 (s.count 44) s, (44 : UInt8) ∉ p) ∧ Lib.splitK [44] 0 (s.count 44) s ≠ []
  | [] => ⟨rfl, fun p hp => by simp [Lib.splitK] at hp; subst hp; simp, by simp [Lib.splitK]⟩
  | c :: l => by
    obtain ⟨h1, h2, h3⟩ := split_spec l
    by_cases hc : c = 44
    · subst hc
      have hix : Lib.index (44 :: l) [44] = 0 := by rw [Lib.index]; simp [List.isPrefixOf]
      have e : Lib.splitK [44] 0 ((44 :: l).count 44) (44 :: l) = [] :: Lib.splitK [44] 0 (l.count 44) l := by
        rw [List.count_cons_self]
        rw [Lib.splitK, hix]
        simp
      rw [e]
      refine ⟨by rw [joinC_nil h3, h1], fun p hp => ?_, by simp⟩
      rcases List.mem_cons.1 hp with rfl | hp
      · simp
      · exact h2 p hp
    · rw [List.count_cons_of_ne (by simpa using fun e => hc e), split_step hc]
      generalize Lib.splitK [44] 0 (l.count 44) l = ps at *
      cases ps with
      | nil => exact absurd rfl h3
      | cons p ps =>
        refine ⟨by show c :: (p ++ _) = _; rw [← h1]; rfl, fun q hq => ?_, by simp [consH]⟩
        rcases List.mem_cons.1 hq with rfl | hq
        · intro hm
          rcases List.mem_cons.1 hm with e | hm
          · exact hc e.symm
          · exact h2 p (by simp) hm
        · exact h2 q (List.mem_cons_of_mem _ hq)
/-- the text ahead of the first comma -/
theorem upto_comma {p q r t : List UInt8} (hp : (44 : UInt8) ∉ p) (hq : (44 : UInt8) ∉ q) (hr : r = [] ∨ ∃ r', r = 44 :: r') (ht : t = [] ∨ ∃ t', t = 44 :: t') (h : p ++ r = q ++ t) : p = q ∧ r = t := by
  induction p generalizing q with
  | nil =>
    cases q with
    | nil => exact ⟨rfl, h⟩
    | cons b q =>
      rcases hr with rfl | ⟨r', rfl⟩
      · simp at h
      · simp only [List.nil_append, List.cons_append, List.cons.injEq] at h
        exact absurd (by rw [h.1]; simp) hq
  | cons a p ih =>
    cases q with
    | nil =>
      rcases ht with rfl | ⟨t', rfl⟩
      · simp at h
      · simp only [List.nil_append, List.cons_append, List.cons.injEq] at h
        exact absurd (by rw [← h.1]; simp) hp
    | cons b q =>
      simp only [List.cons_append, List.cons.injEq] at h
      obtain ⟨e1, e2⟩ := ih (fun c => hp (List.mem_cons_of_mem _ c)) (fun c => hq (List.mem_cons_of_mem _ c)) h.2
      exact ⟨by rw [h.1, e1], e2⟩
theorem tail_form (ps : List (List UInt8)) : (ps.flatMap fun q => 44 :: q) = [] ∨ ∃ r', (ps.flatMap fun q => 44 :: q) = (44 : UInt8) :: r' := by
  cases ps with
  | nil => exact .inl rfl
  | cons p ps => exact .inr ⟨_, rfl⟩
theorem tails_inj : ∀ {ps qs : List (List UInt8)}, (∀ p ∈ ps, (44 : UInt8) ∉ p) → (∀ p ∈ qs, (44 : UInt8) ∉ p) → (ps.flatMap fun q => 44 :: q) = (qs.flatMap fun q => (44 : UInt8) :: q) → ps = qs
  | [], [], _, _, _ => rfl
  | [], q :: qs, _, _, h => by simp at h
  | p :: ps, [], _, _, h => by simp at h
  | p :: ps, q :: qs, hp, hq, h => by
    simp only [List.flatMap_cons, List.cons_append, List.cons.injEq, true_and] at h
    obtain ⟨e1, e2⟩ := upto_comma (hp p (by simp)) (hq q (by simp)) (tail_form ps) (tail_form qs) h
    rw [e1, tails_inj (fun x hx => hp x (List.mem_cons_of_mem _ hx)) (fun x hx => hq x (List.mem_cons_of_mem _ hx)) e2]
theorem joinC_inj {ps qs : List (List UInt8)} (h1 : ps ≠ []) (h2 : qs ≠ []) (hp : ∀ p ∈ ps, (44 : UInt8) ∉ p) (hq : ∀ p ∈ qs, (44 : UInt8) ∉ p) (h : joinC ps = joinC qs) : ps = qs := by
  cases ps with
  | nil => exact absurd rfl h1
  | cons p ps =>
  cases qs with
  | nil => exact absurd rfl h2
  | cons q qs =>
  obtain ⟨e1, e2⟩ := upto_comma (hp p (by simp)) (hq q (by simp)) (tail_form ps) (tail_form qs) h
  rw [e1, tails_inj (fun x hx => hp x (List.mem_cons_of_mem _ hx)) (fun x hx => hq x (List.mem_cons_of_mem _ hx)) e2]
end Go.Proofs.YtojlgfkjnkjcmaaGreatDoor

