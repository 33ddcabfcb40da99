/-
  Symbolic runs: regions that draw their order: all of them quiet, or quiet ones first and then a chain that waits for all of them.
-/
import Derived.Test.YteplckkoiffnnaaGreatDoorSyRules
import Derived.StillTail
namespace Go.Proofs.YteplckkoiffnnaaGreatDoor
open Go.RowKit
namespace Sy
set_option linter.unusedVariables false
set_option linter.unusedSimpArgs false

section
variable {P : Program} {ops : Array Oper} {C : World → Prop}
/-- whichever of the first n comes up, it is quiet; behind f of them L holds -/
def Firsts (P : Program) (ops : Array Oper) (C : World → Prop) (n : Nat) (L : Array Bool → Act → Prop) : Nat → Array Bool → Act → Prop
  | 0, ls, a => L ls a
  | f + 1, ls, a => (Region.ready .any ops ls ≠ []) ∧ ∀ i, i ∈ Region.ready .any ops ls → i < n ∧ qOp P ops C i (Firsts P ops C n L f (ls.setIfInBounds i true)) a

theorem Firsts.any {n g : Nat} {L : Array Bool → Act → Prop} {Q : Exit → Act → World → Prop} (hL : ∀ ls a w, C w → L ls a → wpAny P .any ops Q g ls a w) :
    ∀ (f : Nat) (ls : Array Bool) (a : Act) (w : World), C w → Firsts P ops C n L f ls a → wpAny P .any ops Q (f + g) ls a w := by
  intro f
  induction f with
  | zero => intro ls a w hw h; rw [Nat.zero_add]; exact hL ls a w hw h
  | succ f ih =>
    intro ls a w hw h
    have e : f + 1 + g = (f + g) + 1 := by omega
    rw [e]
    exact ⟨fun h0 => absurd h0 h.1, fun i hi => wpOp_of_qOp hw (fun a' w' hw' h' => ih _ a' w' hw' h') (h.2 i hi).2⟩

theorem Firsts.take {n i : Nat} {oi : Oper} {v : Value} {L : Array Bool → Act → Prop} (hi : ops[i]? = some oi) (hsel : Region.noSelect ops = true)
    (hs : Region.sinkB .any ops n = true) (hc : Region.chainB .any ops n = true) (hn : n < ops.size) (hin : i < n) (hdone : ∀ ls a, L ls a → ∀ j ∈ Region.ready .any ops ls, n ≤ j) :
    ∀ (f : Nat) (ls : Array Bool) (a : Act), HeadInv .any ops n ls →
      (∀ j oj, ops[j]? = some oj → j ≠ i → ls.getD j true = false → (∀ e ∈ oj.after, Region.binds .any e = true → e.on ≠ i) → oi.apart ops oj = true) →
      i ∈ Region.ready .any ops ls → YieldsIn P ops C oi v a → Firsts P ops C n L f (ls.setIfInBounds i true) (a.put oi.dst v) → Firsts P ops C n L (f + 1) ls a := by
  have sel := Region.noSelect_spec hsel
  intro f
  induction f with
  | zero =>
    intro ls a inv _ hr hy H
    have hun := (mem_ready.1 hr).1
    refine ⟨List.ne_nil_of_mem hr, fun j hj => ?_⟩
    have hjn : j < n := Nat.lt_of_not_le fun c => tail_waits hs hc hn inv _ i rfl hin hun j c hj
    refine ⟨hjn, ?_⟩
    by_cases hji : j = i
    · subst hji; exact hy.qOp hi H
    · have := hdone _ _ H j (ready_mono hj hji)
      omega
  | succ f ih =>
    intro ls a inv hfree hr hy H
    have hun := (mem_ready.1 hr).1
    refine ⟨List.ne_nil_of_mem hr, fun j hj => ?_⟩
    have hjn : j < n := Nat.lt_of_not_le fun c => tail_waits hs hc hn inv _ i rfl hin hun j c hj
    refine ⟨hjn, ?_⟩
    by_cases hji : j = i
    · subst hji; exact hy.qOp hi H
    · have h1 := (H.2 j (ready_mono hj hji)).2
      obtain ⟨hjun, oj, hoj, hall⟩ := mem_ready.1 hj
      have hnot : ∀ e ∈ oj.after, Region.binds .any e = true → e.on ≠ i := by
        intro e he hb heq
        have h3 := hall e he hb
        rw [heq, getD_both hun] at h3
        cases h3
      have h2 := qOp_put hoj (hfree j oj hoj hji hjun hnot) (fun cs b => sel i oi cs b hi) (fun cs b => sel j oj cs b hoj) hy h1
      refine qOp_mono (fun a' h3 => ih (ls.setIfInBounds j true) a' (inv.set hj hjn) ?_ (ready_mono hr (Ne.symm hji)) h3.1 ?_) h2
      · intro k ok hk hki hunk hno
        refine hfree k ok hk hki ?_ hno
        by_cases hjk : j = k
        · subst hjk; exact hjun
        · rw [getD_set_ne true hjk] at hunk; exact hunk
      · rw [Array.setIfInBounds_comm _ _ hji]
        exact h3.2

theorem Firsts.lex {n g : Nat} {Lq : Act → Prop} (hsel : Region.noSelect ops = true) (hs : Region.sinkB .any ops n = true) (hc : Region.chainB .any ops n = true) (hn : n < ops.size) :
    ∀ (l : List Oper) (k : Nat) (ls : Array Bool) (a : Act), (∀ j, j < l.length → l[j]? = ops[k + j]?) → k + l.length = n → HeadInv .any ops n ls →
      Region.lexHead .any ops g l.length k ls = true → wpQuiet P ops C Lq l a → Firsts P ops C n (fun ls' a' => Region.seqB .any ops g n ls' = true ∧ Lq a') l.length ls a := by
  intro l
  induction l with
  | nil =>
    intro k ls a _ hk _ hB h
    have hk' : k = n := by simpa using hk
    subst hk'
    exact ⟨by simpa [Region.lexHead] using hB, h⟩
  | cons o l ih =>
    intro k ls a hl hk inv hB h
    have h0 : ops[k]? = some o := by simpa using (hl 0 (by simp)).symm
    simp only [List.length_cons, Region.lexHead, Bool.and_eq_true] at hB
    obtain ⟨⟨hr, hf⟩, hB'⟩ := hB
    have hkn : k < n := by simp only [List.length_cons] at hk; omega
    have hr' : k ∈ Region.ready .any ops ls := by simpa using hr
    have hq : qOp P ops C k (wpQuiet P ops C Lq l) a := by unfold qOp; simp only [h0]; exact h
    obtain ⟨v, hy, hK⟩ := yieldsIn_of_qOp h0 hq
    refine Firsts.take h0 hsel hs hc hn hkn (fun ls' a' hL => seqB_ready hL.1) l.length ls a inv (Region.free_spec h0 hf) hr' hy ?_
    refine ih (k + 1) _ _ (fun j hj => ?_) (by simp only [List.length_cons] at hk; omega) (inv.set hr' hkn) hB' hK
    have := hl (j + 1) (by simp; omega)
    simpa [Nat.add_assoc, Nat.add_comm 1 j] using this

/-- quiet operations, in whatever order, and behind them a chain that waits for them all -/
theorem wp_quiet_tail {id : Nat} {Q : Exit → Act → World → Prop} {a : Act} {w : World} {l : List Oper} (n : Nat) (hm : P.follows .mixedOrders = true) (hB : Region.lexTailB .any l.toArray n = true) (hC : C { w with drawn := w.drawn + 1 })
    (h : wpQuiet P l.toArray C (fun a' => ∀ w', C w' → wpList P l.toArray Q (l.drop n) a' w') (l.take n) a) : (Code.region id l.toArray true).wp P Q a w := by
  simp only [Region.lexTailB, Bool.and_eq_true, decide_eq_true_eq] at hB
  obtain ⟨⟨⟨⟨hsel, hn⟩, hs⟩, hc⟩, hlex⟩ := hB
  have hn' : n < l.length := by simpa using hn
  have htl : (l.take n).length = n := by simp; omega
  have hdl : (l.drop n).length = l.toArray.size - n := by simp
  have inv0 : HeadInv .any l.toArray n (Array.replicate l.toArray.size false) :=
    ⟨by simp, fun j oj _ hl => (by rw [getD_replicate_false] at hl; cases hl), fun t _ ht => getD_in (by simpa using ht) (getD_replicate_false _ _)⟩
  have H := Firsts.lex (C := C) (g := l.toArray.size - n) hsel hs hc hn (l.take n) 0 _ a (fun j hj => by
    have hj' : j < n := by rw [htl] at hj; exact hj
    simp [hj']) (by simpa using htl) inv0 (by rw [htl]; exact hlex) h
  refine wp_region_any hm ?_
  have key := Firsts.any (Q := Q) (g := l.toArray.size - n) (fun ls a' w' hw' hL => by
    have := wpAny_of_seq (md := .any) (Q' := Q) (l.drop n) n ls a' w' (fun j => by simp [List.getElem?_drop]) (by rw [hdl]; exact hL.1) (hL.2 w' hw')
    rwa [hdl] at this) _ _ _ _ hC H
  rw [htl] at key
  have e : n + (l.toArray.size - n) = l.toArray.size := by omega
  rw [e] at key
  exact key
end

theorem wpQuiet_mono {P : Program} {ops : Array Oper} {C : World → Prop} {Q Q' : Act → Prop} (h : ∀ a, Q a → Q' a) : ∀ {l : List Oper} {a : Act}, wpQuiet P ops C Q l a → wpQuiet P ops C Q' l a
  | [], a, k => h a k
  | o :: l, a, k => by
    unfold wpQuiet at k ⊢
    split
    · rename_i hw
      rw [if_pos hw] at k
      exact Oper.quiet_mono (fun a => wpQuiet_mono h) k
    · rename_i hw
      rw [if_neg hw] at k
      exact wpQuiet_mono h k

theorem good_stp {K : St → Prop} : Good fun st => stp st K := fun st h => (stp_iff.1 h).1
theorem RegAt.quiet {G : Gl} {id : Nat} {l : List Oper} {st : St} {K : St → Prop} (hm : G.P.follows .mixedOrders = true) (hB : Region.lexB .any l.toArray = true) (h : opsG (opQ G) G l l st fun st => stp st K) : RegAt G id l.toArray st K := by
  refine .mk fun ρ a w m mm => ?_
  refine wp_region_quiet (C := Mem G st ρ) hm hB mm.drew ?_
  refine wpQuiet_mono ?_ ((opsQ_sound h good_stp).2 ρ a w m mm)
  rintro a' ⟨st', k, hs, m'⟩ w' mm'
  exact .inl ⟨rfl, { st' with c := True }, ρ, (stp_iff.1 k).2, m'.same rfl, (hs.mem.2 mm').same rfl rfl rfl⟩
theorem RegAt.tail {G : Gl} {id : Nat} {l : List Oper} {st : St} {K : St → Prop} (n : Nat) (hm : G.P.follows .mixedOrders = true) (hB : Region.lexTailB .any l.toArray n = true) (h : opsG (opQ G) G l (l.take n) st fun st => opsG (op1 G) G l (l.drop n) st fun st => stp st K) : RegAt G id l.toArray st K := by
  refine .mk fun ρ a w m mm => ?_
  refine wp_quiet_tail (C := Mem G st ρ) n hm hB mm.drew ?_
  have s1 : Step1 G (op1 G) := fun h hK => op1_sound h hK
  refine wpQuiet_mono ?_ ((opsQ_sound h fun st h => (ops_sound s1 h good_stp).1).2 ρ a w m mm)
  rintro a' ⟨st', k, hs, m'⟩ w' mm'
  refine (ops_sound s1 k good_stp).2 ρ a' w' _ (fun e a w hp => .inr hp) m' (hs.mem.2 mm') ?_
  intro st2 ρ2 a2 w2 k2 m2 mm2
  exact .inl ⟨rfl, { st2 with c := True }, ρ2, (stp_iff.1 k2).2, m2.same rfl, mm2.same rfl rfl rfl⟩

/-! quiet groups with an operation between them that waits for all ahead of it, and for which all behind it wait -/
def chainW (ops : Array Oper) (n : Nat) : Bool := (List.range ops.size).all fun t => decide (t ≤ n) || (List.range t).any fun j => decide (n ≤ j) && Region.waitsFor .any ops t j
def headW (ops : Array Oper) (n : Nat) (ls : Array Bool) : Bool := decide (ls.size = ops.size) && ((List.range ops.size).all fun j => !ls.getD j false || (match ops[j]? with | some oj => oj.after.all fun e => !Region.binds .any e || ls.getD e.on false | none => true)) && ((List.range ops.size).all fun t => decide (t < n) || !ls.getD t true)
theorem headW_spec {ops : Array Oper} {n : Nat} {ls : Array Bool} (h : headW ops n ls = true) : HeadInv .any ops n ls := by
  simp only [headW, Bool.and_eq_true, decide_eq_true_eq] at h
  obtain ⟨⟨h1, h2⟩, h3⟩ := h
  refine ⟨h1, fun j oj hj hl e he hb => ?_, fun t ht hts => ?_⟩
  · have hlt : j < ops.size := (Array.getElem?_eq_some_iff.1 hj).1
    have := List.all_eq_true.1 h2 j (List.mem_range.2 hlt)
    rw [hl] at this
    simp only [Bool.not_true, Bool.false_or, hj] at this
    have := Array.all_eq_true'.1 this e he
    rw [hb] at this
    simpa using this
  · have := List.all_eq_true.1 h3 t (List.mem_range.2 hts)
    simp only [Bool.or_eq_true, decide_eq_true_eq] at this
    rcases this with c | c
    · omega
    · simpa using c
theorem tail_waitsW {ops : Array Oper} {n : Nat} {ls : Array Bool} (hs : Region.sinkB .any ops n = true) (hc : chainW ops n = true) (hn : n < ops.size) (inv : HeadInv .any ops n ls) :
    ∀ (d i : Nat), n - i = d → i < n → ls.getD i true = false → ∀ t, n ≤ t → t ∉ Region.ready .any ops ls := by
  intro d
  induction d using Nat.strongRecOn with
  | _ d ih =>
    intro i hd hi hun t ht hr
    obtain ⟨_, ot, hot, hall⟩ := mem_ready.1 hr
    have htlt : t < ops.size := (Array.getElem?_eq_some_iff.1 hot).1
    by_cases htn : t = n
    · subst htn
      have h1 := List.all_eq_true.1 hs i (List.mem_range.2 hi)
      obtain ⟨j, hj, hj2⟩ := List.any_eq_true.1 h1
      simp only [Bool.and_eq_true, decide_eq_true_eq] at hj2
      obtain ⟨oj, hoj, e, he, hb, hon⟩ := Region.waitsFor_spec hj2.2
      have hjle : j ≤ t := by have := List.mem_range.1 hj; omega
      by_cases hjt : j = t
      · subst hjt
        have : oj = ot := Option.some.inj (hoj.symm.trans hot)
        subst this
        have h2 := hall e he hb
        rw [hon, getD_both hun] at h2
        cases h2
      · cases hl : ls.getD j false with
        | true =>
          have h2 := inv.closed j oj hoj hl e he hb
          rw [hon, getD_both hun] at h2
          cases h2
        | false =>
          have hjs : j < ls.size := by rw [inv.size]; omega
          exact ih (t - j) (by omega) j rfl (by omega) (getD_in hjs hl) t (Nat.le_refl _) hr
    · have h1 := List.all_eq_true.1 hc t (List.mem_range.2 htlt)
      simp only [Bool.or_eq_true, decide_eq_true_eq] at h1
      rcases h1 with h1 | h1
      · omega
      · obtain ⟨j, hj, hj2⟩ := List.any_eq_true.1 h1
        simp only [Bool.and_eq_true, decide_eq_true_eq] at hj2
        have hjt := List.mem_range.1 hj
        obtain ⟨o', ho', e, he, hb, hon⟩ := Region.waitsFor_spec hj2.2
        have : o' = ot := Option.some.inj (ho'.symm.trans hot)
        subst this
        have h2 := hall e he hb
        rw [hon, getD_both (inv.tail j hj2.1 (by omega))] at h2
        cases h2

section
variable {P : Program} {ops : Array Oper} {C : World → Prop}
theorem Firsts.takeW {n i : Nat} {oi : Oper} {v : Value} {L : Array Bool → Act → Prop} (hi : ops[i]? = some oi) (hsel : Region.noSelect ops = true)
    (hs : Region.sinkB .any ops n = true) (hc : chainW ops n = true) (hn : n < ops.size) (hin : i < n) (hdone : ∀ ls a, L ls a → ∀ j ∈ Region.ready .any ops ls, n ≤ j) :
    ∀ (f : Nat) (ls : Array Bool) (a : Act), HeadInv .any ops n ls →
      (∀ j oj, ops[j]? = some oj → j ≠ i → ls.getD j true = false → (∀ e ∈ oj.after, Region.binds .any e = true → e.on ≠ i) → oi.apart ops oj = true) →
      i ∈ Region.ready .any ops ls → YieldsIn P ops C oi v a → Firsts P ops C n L f (ls.setIfInBounds i true) (a.put oi.dst v) → Firsts P ops C n L (f + 1) ls a := by
  have sel := Region.noSelect_spec hsel
  intro f
  induction f with
  | zero =>
    intro ls a inv _ hr hy H
    have hun := (mem_ready.1 hr).1
    refine ⟨List.ne_nil_of_mem hr, fun j hj => ?_⟩
    have hjn : j < n := Nat.lt_of_not_le fun c => tail_waitsW hs hc hn inv _ i rfl hin hun j c hj
    refine ⟨hjn, ?_⟩
    by_cases hji : j = i
    · subst hji; exact hy.qOp hi H
    · have := hdone _ _ H j (ready_mono hj hji)
      omega
  | succ f ih =>
    intro ls a inv hfree hr hy H
    have hun := (mem_ready.1 hr).1
    refine ⟨List.ne_nil_of_mem hr, fun j hj => ?_⟩
    have hjn : j < n := Nat.lt_of_not_le fun c => tail_waitsW hs hc hn inv _ i rfl hin hun j c hj
    refine ⟨hjn, ?_⟩
    by_cases hji : j = i
    · subst hji; exact hy.qOp hi H
    · have h1 := (H.2 j (ready_mono hj hji)).2
      obtain ⟨hjun, oj, hoj, hall⟩ := mem_ready.1 hj
      have hnot : ∀ e ∈ oj.after, Region.binds .any e = true → e.on ≠ i := by
        intro e he hb heq
        have h3 := hall e he hb
        rw [heq, getD_both hun] at h3
        cases h3
      have h2 := qOp_put hoj (hfree j oj hoj hji hjun hnot) (fun cs b => sel i oi cs b hi) (fun cs b => sel j oj cs b hoj) hy h1
      refine qOp_mono (fun a' h3 => ih (ls.setIfInBounds j true) a' (inv.set hj hjn) ?_ (ready_mono hr (Ne.symm hji)) h3.1 ?_) h2
      · intro k ok hk hki hunk hno
        refine hfree k ok hk hki ?_ hno
        by_cases hjk : j = k
        · subst hjk; exact hjun
        · rw [getD_set_ne true hjk] at hunk; exact hunk
      · rw [Array.setIfInBounds_comm _ _ hji]
        exact h3.2

def lexW (ops : Array Oper) (F : Array Bool → Bool) : Nat → Nat → Array Bool → Bool
  | 0, _, ls => F ls
  | f + 1, k, ls => (Region.ready .any ops ls).contains k && Region.free .any ops ls k && lexW ops F f (k + 1) (ls.setIfInBounds k true)
theorem Firsts.lexW {n : Nat} {Lq : Act → Prop} {F : Array Bool → Bool} (hsel : Region.noSelect ops = true) (hs : Region.sinkB .any ops n = true) (hc : chainW ops n = true) (hn : n < ops.size) (hF : ∀ ls, F ls = true → Region.ready .any ops ls = [n]) :
    ∀ (l : List Oper) (k : Nat) (ls : Array Bool) (a : Act), (∀ j, j < l.length → l[j]? = ops[k + j]?) → k + l.length = n → HeadInv .any ops n ls →
      Sy.lexW ops F l.length k ls = true → wpQuiet P ops C Lq l a → Firsts P ops C n (fun ls' a' => F ls' = true ∧ Lq a') l.length ls a := by
  intro l
  induction l with
  | nil =>
    intro k ls a _ hk _ hB h
    exact ⟨by simpa [Sy.lexW] using hB, h⟩
  | cons o l ih =>
    intro k ls a hl hk inv hB h
    have h0 : ops[k]? = some o := by simpa using (hl 0 (by simp)).symm
    simp only [List.length_cons, Sy.lexW, Bool.and_eq_true] at hB
    obtain ⟨⟨hr, hf⟩, hB'⟩ := hB
    have hkn : k < n := by simp only [List.length_cons] at hk; omega
    have hr' : k ∈ Region.ready .any ops ls := by simpa using hr
    have hq : qOp P ops C k (wpQuiet P ops C Lq l) a := by unfold qOp; simp only [h0]; exact h
    obtain ⟨v, hy, hK⟩ := yieldsIn_of_qOp h0 hq
    refine Firsts.takeW h0 hsel hs hc hn hkn (fun ls' a' hL => ?_) l.length ls a inv (Region.free_spec h0 hf) hr' hy ?_
    · rw [hF _ hL.1]; intro j hj; simp at hj; omega
    refine ih (k + 1) _ _ (fun j hj => ?_) (by simp only [List.length_cons] at hk; omega) (inv.set hr' hkn) hB' hK
    have := hl (j + 1) (by simp; omega)
    simpa [Nat.add_assoc, Nat.add_comm 1 j] using this
end

def segB (ops : Array Oper) : List Nat → Nat → Array Bool → Bool
  | [], k, ls => Region.lexFrom .any ops (ops.size - k) k ls
  | b :: bs, k, ls => decide (k ≤ b) && decide (b < ops.size) && Region.sinkB .any ops b && chainW ops b && headW ops b ls &&
      lexW ops (fun ls' => decide (Region.ready .any ops ls' = [b]) && segB ops bs (b + 1) (ls'.setIfInBounds b true)) (b - k) k ls
def segsB (l : List Oper) (bs : List Nat) : Bool := Region.noSelect l.toArray && segB l.toArray bs 0 (Array.replicate l.toArray.size false)
def segG (G : Gl) (all : List Oper) : List Nat → Nat → St → (St → Prop) → Prop
  | [], k, st, K => opsG (opQ G) G all (all.drop k) st fun st => stp st K
  | b :: bs, k, st, K => opsG (opQ G) G all ((all.drop k).take (b - k)) st fun st => match all[b]? with
    | some o => match o.guard with
      | none => op1 G o st fun st => segG G all bs (b + 1) st K
      | some _ => False
    | none => False
theorem segG_good {G : Gl} {all : List Oper} : ∀ {bs : List Nat} {k : Nat} {K : St → Prop}, Good fun st => segG G all bs k st K
  | [], k, K => fun st h => (opsQ_sound h good_stp).1
  | b :: bs, k, K => fun st h => by
    unfold segG at h
    refine (opsQ_sound h fun st h => ?_).1
    split at h
    · split at h
      · exact (op1_sound h segG_good).1
      · exact h.elim
    · exact h.elim
theorem segG_sound {G : Gl} {all : List Oper} {Q : Exit → Act → World → Prop} {K : St → Prop} (hx : ∀ e a w, PXE G e a w → Q e a w) (hsel : Region.noSelect all.toArray = true) (hQ : ∀ st ρ a w, K st → Tm G st ρ a → Mem G st ρ w → Q .normal a w) :
    ∀ (bs : List Nat) (k : Nat) (ls : Array Bool) (st : St) (ρ : List Nat) (a : Act) (w : World), k ≤ all.length → segB all.toArray bs k ls = true → segG G all bs k st K → Tm G st ρ a → Mem G st ρ w → wpAny G.P .any all.toArray Q (all.toArray.size - k) ls a w
  | [], k, ls, st, ρ, a, w, hk, hB, h, m, mm => by
    have hlen : (all.drop k).length = all.toArray.size - k := by simp
    have hq := (opsQ_sound h good_stp).2 ρ a w m mm
    have := wpAnyQ_lex (C := Mem G st ρ) (md := .any) (Q := fun a' => ∃ st', stp st' K ∧ SameM st st' ∧ Tm G st' ρ a') hsel (all.drop k) k ls a (fun j => by simp [List.getElem?_drop]) (by rw [hlen]; exact hB) hq
    rw [hlen] at this
    refine wpAny_of_quiet ?_ _ _ _ _ mm this
    rintro a' w' mm' ⟨st', hs, hsame, m'⟩
    exact hQ { st' with c := True } ρ a' w' (stp_iff.1 hs).2 (m'.same rfl) ((hsame.mem.2 mm').same rfl rfl rfl)
  | b :: bs, k, ls, st, ρ, a, w, hk, hB, h, m, mm => by
    unfold segG at h
    simp only [segB, Bool.and_eq_true, decide_eq_true_eq] at hB
    obtain ⟨⟨⟨⟨⟨hkb, hbs⟩, hsink⟩, hchain⟩, hhead⟩, hlex⟩ := hB
    have hbs' : b < all.length := by simpa using hbs
    have good : Good fun st => match all[b]? with
      | some o => match o.guard with
        | none => op1 G o st fun st => segG G all bs (b + 1) st K
        | some _ => False
      | none => False := fun st h => by
        split at h
        · split at h
          · exact (op1_sound h segG_good).1
          · exact h.elim
        · exact h.elim
    have hq := (opsQ_sound h good).2 ρ a w m mm
    have htl : ((all.drop k).take (b - k)).length = b - k := by simp; omega
    have key := Firsts.lexW (C := Mem G st ρ) (F := fun ls' => decide (Region.ready .any all.toArray ls' = [b]) && segB all.toArray bs (b + 1) (ls'.setIfInBounds b true)) hsel hsink hchain hbs (fun ls' h => by simp only [Bool.and_eq_true, decide_eq_true_eq] at h; exact h.1)
      ((all.drop k).take (b - k)) k ls a (fun j hj => by
        rw [htl] at hj
        simp [hj, List.getElem?_drop]) (by rw [htl]; omega) (headW_spec hhead) (by rw [htl]; exact hlex) hq
    have key := Firsts.any (Q := Q) (g := all.toArray.size - b) (fun ls' a' w' mm' hL => by
      obtain ⟨hF, st', hs, hsame, m'⟩ := hL
      simp only [Bool.and_eq_true, decide_eq_true_eq] at hF
      have e : all.toArray.size - b = (all.toArray.size - (b + 1)) + 1 := by omega
      rw [e]
      refine ⟨(fun h1 => by rw [hF.1] at h1; cases h1), fun i hi => ?_⟩
      rw [hF.1] at hi
      have hib : i = b := by simpa using hi
      subst hib
      split at hs
      · rename_i o ho
        split at hs
        · rename_i hg
          have ho' : all.toArray[i]? = some o := by simpa using ho
          unfold wpOp
          simp only [ho']
          rw [if_pos (wanted_none hg _)]
          left
          refine Oper.wp_mono (fun a2 w2 ⟨st2, ρ2, k2, m2, mm2⟩ => ?_) ((op1_sound hs segG_good).2 ρ a' w' Q hx m' (hsame.mem.2 mm'))
          exact segG_sound hx hsel hQ bs (i + 1) _ st2 ρ2 a2 w2 (by omega) hF.2 k2 m2 mm2
        · exact hs.elim
      · exact hs.elim) _ _ _ _ mm key
    rw [htl] at key
    have e : b - k + (all.toArray.size - b) = all.toArray.size - k := by omega
    rwa [e] at key
/-- a region that draws its order: quiet groups, with the operations 'bs' between them -/
theorem RegAt.segs {G : Gl} {id : Nat} {l : List Oper} {st : St} {K : St → Prop} (bs : List Nat) (hm : G.P.follows .mixedOrders = true) (hB : segsB l bs = true) (h : segG G l bs 0 st K) : RegAt G id l.toArray st K := by
  simp only [segsB, Bool.and_eq_true] at hB
  refine .mk fun ρ a w m mm => ?_
  refine wp_region_any hm ?_
  exact segG_sound (fun e a w hp => .inr hp) hB.1 (fun st ρ a w k m mm => .inl ⟨rfl, st, ρ, k, m, mm⟩) bs 0 _ st ρ a _ (Nat.zero_le _) hB.2 h m mm.drew
end Sy
end Go.Proofs.YteplckkoiffnnaaGreatDoor
