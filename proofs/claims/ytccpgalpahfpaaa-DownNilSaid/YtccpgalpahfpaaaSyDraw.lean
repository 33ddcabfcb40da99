/-
  Symbolic runs: regions that draw their order: all of them quiet, or quiet ones first and then a chain that waits for all of them.
-/
import Derived.Test.YtccpgalpahfpaaaSyRules
import Derived.StillTail
namespace Go.Proofs.Ytccpgalpahfpaaa
open Go.RowKit
namespace Sy
set_option linter.unusedVariables false
set_option linter.unusedSimpArgs false

section
variable {P : Program} {ops : Array Oper} {C : World → Prop}
/-- whichever of the first n comes up, it is quiet; behind f of them L holds -/
def Firsts (P : Program) (ops : Array Oper) (C : World → Prop) (n : Nat) (L : Array Bool → Act → Prop) : Nat → Array Bool → Act → Prop
  | 0, ls, a => L ls a
  | f + 1, ls, a => (Region.ready .any ops ls ≠ []) ∧ ∀ i, i ∈ Region.ready .any ops ls → i < n ∧ qOp P ops C i (Firsts P ops C n L f (ls.setIfInBounds i true)) a

theorem Firsts.any {n g : Nat} {L : Array Bool → Act → Prop} {Q : Exit → Act → World → Prop} (hL : ∀ ls a w, C w → L ls a → wpAny P .any ops Q g ls a w) :
    ∀ (f : Nat) (ls : Array Bool) (a : Act) (w : World), C w → Firsts P ops C n L f ls a → wpAny P .any ops Q (f + g) ls a w := by
  intro f
  induction f with
  | zero => intro ls a w hw h; rw [Nat.zero_add]; exact hL ls a w hw h
  | succ f ih =>
    intro ls a w hw h
    have e : f + 1 + g = (f + g) + 1 := by omega
    rw [e]
    exact ⟨fun h0 => absurd h0 h.1, fun i hi => wpOp_of_qOp hw (fun a' w' hw' h' => ih _ a' w' hw' h') (h.2 i hi).2⟩

theorem Firsts.take {n i : Nat} {oi : Oper} {v : Value} {L : Array Bool → Act → Prop} (hi : ops[i]? = some oi) (hsel : Region.noSelect ops = true)
    (hs : Region.sinkB .any ops n = true) (hc : Region.chainB .any ops n = true) (hn : n < ops.size) (hin : i < n) (hdone : ∀ ls a, L ls a → ∀ j ∈ Region.ready .any ops ls, n ≤ j) :
    ∀ (f : Nat) (ls : Array Bool) (a : Act), HeadInv .any ops n ls →
      (∀ j oj, ops[j]? = some oj → j ≠ i → ls.getD j true = false → (∀ e ∈ oj.after, Region.binds .any e = true → e.on ≠ i) → oi.apart ops oj = true) →
      i ∈ Region.ready .any ops ls → YieldsIn P ops C oi v a → Firsts P ops C n L f (ls.setIfInBounds i true) (a.put oi.dst v) → Firsts P ops C n L (f + 1) ls a := by
  have sel := Region.noSelect_spec hsel
  intro f
  induction f with
  | zero =>
    intro ls a inv _ hr hy H
    have hun := (mem_ready.1 hr).1
    refine ⟨List.ne_nil_of_mem hr, fun j hj => ?_⟩
    have hjn : j < n := Nat.lt_of_not_le fun c => tail_waits hs hc hn inv _ i rfl hin hun j c hj
    refine ⟨hjn, ?_⟩
    by_cases hji : j = i
    · subst hji; exact hy.qOp hi H
    · have := hdone _ _ H j (ready_mono hj hji)
      omega
  | succ f ih =>
    intro ls a inv hfree hr hy H
    have hun := (mem_ready.1 hr).1
    refine ⟨List.ne_nil_of_mem hr, fun j hj => ?_⟩
    have hjn : j < n := Nat.lt_of_not_le fun c => tail_waits hs hc hn inv _ i rfl hin hun j c hj
    refine ⟨hjn, ?_⟩
    by_cases hji : j = i
    · subst hji; exact hy.qOp hi H
    · have h1 := (H.2 j (ready_mono hj hji)).2
      obtain ⟨hjun, oj, hoj, hall⟩ := mem_ready.1 hj
      have hnot : ∀ e ∈ oj.after, Region.binds .any e = true → e.on ≠ i := by
        intro e he hb heq
        have h3 := hall e he hb
        rw [heq, getD_both hun] at h3
        cases h3
      have h2 := qOp_put hoj (hfree j oj hoj hji hjun hnot) (fun cs b => sel i oi cs b hi) (fun cs b => sel j oj cs b hoj) hy h1
      refine qOp_mono (fun a' h3 => ih (ls.setIfInBounds j true) a' (inv.set hj hjn) ?_ (ready_mono hr (Ne.symm hji)) h3.1 ?_) h2
      · intro k ok hk hki hunk hno
        refine hfree k ok hk hki ?_ hno
        by_cases hjk : j = k
        · subst hjk; exact hjun
        · rw [getD_set_ne true hjk] at hunk; exact hunk
      · rw [Array.setIfInBounds_comm _ _ hji]
        exact h3.2

theorem Firsts.lex {n g : Nat} {Lq : Act → Prop} (hsel : Region.noSelect ops = true) (hs : Region.sinkB .any ops n = true) (hc : Region.chainB .any ops n = true) (hn : n < ops.size) :
    ∀ (l : List Oper) (k : Nat) (ls : Array Bool) (a : Act), (∀ j, j < l.length → l[j]? = ops[k + j]?) → k + l.length = n → HeadInv .any ops n ls →
      Region.lexHead .any ops g l.length k ls = true → wpQuiet P ops C Lq l a → Firsts P ops C n (fun ls' a' => Region.seqB .any ops g n ls' = true ∧ Lq a') l.length ls a := by
  intro l
  induction l with
  | nil =>
    intro k ls a _ hk _ hB h
    have hk' : k = n := by simpa using hk
    subst hk'
    exact ⟨by simpa [Region.lexHead] using hB, h⟩
  | cons o l ih =>
    intro k ls a hl hk inv hB h
    have h0 : ops[k]? = some o := by simpa using (hl 0 (by simp)).symm
    simp only [List.length_cons, Region.lexHead, Bool.and_eq_true] at hB
    obtain ⟨⟨hr, hf⟩, hB'⟩ := hB
    have hkn : k < n := by simp only [List.length_cons] at hk; omega
    have hr' : k ∈ Region.ready .any ops ls := by simpa using hr
    have hq : qOp P ops C k (wpQuiet P ops C Lq l) a := by unfold qOp; simp only [h0]; exact h
    obtain ⟨v, hy, hK⟩ := yieldsIn_of_qOp h0 hq
    refine Firsts.take h0 hsel hs hc hn hkn (fun ls' a' hL => seqB_ready hL.1) l.length ls a inv (Region.free_spec h0 hf) hr' hy ?_
    refine ih (k + 1) _ _ (fun j hj => ?_) (by simp only [List.length_cons] at hk; omega) (inv.set hr' hkn) hB' hK
    have := hl (j + 1) (by simp; omega)
    simpa [Nat.add_assoc, Nat.add_comm 1 j] using this

/-- quiet operations, in whatever order, and behind them a chain that waits for them all -/
theorem wp_quiet_tail {id : Nat} {Q : Exit → Act → World → Prop} {a : Act} {w : World} {l : List Oper} (n : Nat) (hm : P.follows .mixedOrders = true) (hB : Region.lexTailB .any l.toArray n = true) (hC : C { w with drawn := w.drawn + 1 })
    (h : wpQuiet P l.toArray C (fun a' => ∀ w', C w' → wpList P l.toArray Q (l.drop n) a' w') (l.take n) a) : (Code.region id l.toArray true).wp P Q a w := by
  simp only [Region.lexTailB, Bool.and_eq_true, decide_eq_true_eq] at hB
  obtain ⟨⟨⟨⟨hsel, hn⟩, hs⟩, hc⟩, hlex⟩ := hB
  have hn' : n < l.length := by simpa using hn
  have htl : (l.take n).length = n := by simp; omega
  have hdl : (l.drop n).length = l.toArray.size - n := by simp
  have inv0 : HeadInv .any l.toArray n (Array.replicate l.toArray.size false) :=
    ⟨by simp, fun j oj _ hl => (by rw [getD_replicate_false] at hl; cases hl), fun t _ ht => getD_in (by simpa using ht) (getD_replicate_false _ _)⟩
  have H := Firsts.lex (C := C) (g := l.toArray.size - n) hsel hs hc hn (l.take n) 0 _ a (fun j hj => by
    have hj' : j < n := by rw [htl] at hj; exact hj
    simp [hj']) (by simpa using htl) inv0 (by rw [htl]; exact hlex) h
  refine wp_region_any hm ?_
  have key := Firsts.any (Q := Q) (g := l.toArray.size - n) (fun ls a' w' hw' hL => by
    have := wpAny_of_seq (md := .any) (Q' := Q) (l.drop n) n ls a' w' (fun j => by simp [List.getElem?_drop]) (by rw [hdl]; exact hL.1) (hL.2 w' hw')
    rwa [hdl] at this) _ _ _ _ hC H
  rw [htl] at key
  have e : n + (l.toArray.size - n) = l.toArray.size := by omega
  rw [e] at key
  exact key
end

theorem wpQuiet_mono {P : Program} {ops : Array Oper} {C : World → Prop} {Q Q' : Act → Prop} (h : ∀ a, Q a → Q' a) : ∀ {l : List Oper} {a : Act}, wpQuiet P ops C Q l a → wpQuiet P ops C Q' l a
  | [], a, k => h a k
  | o :: l, a, k => by
    unfold wpQuiet at k ⊢
    split
    · rename_i hw
      rw [if_pos hw] at k
      exact Oper.quiet_mono (fun a => wpQuiet_mono h) k
    · rename_i hw
      rw [if_neg hw] at k
      exact wpQuiet_mono h k

theorem good_stp {K : St → Prop} : Good fun st => stp st K := fun st h => (stp_iff.1 h).1
theorem RegAt.quiet {G : Gl} {id : Nat} {l : List Oper} {st : St} {K : St → Prop} (hm : G.P.follows .mixedOrders = true) (hB : Region.lexB .any l.toArray = true) (h : opsG (opQ G) G l l st fun st => stp st K) : RegAt G id l.toArray st K := by
  refine .mk fun ρ a w m mm => ?_
  refine wp_region_quiet (C := Mem G st ρ) hm hB mm.drew ?_
  refine wpQuiet_mono ?_ ((opsQ_sound h good_stp).2 ρ a w m mm)
  rintro a' ⟨st', k, hs, m'⟩ w' mm'
  exact ⟨rfl, { st' with c := True }, ρ, (stp_iff.1 k).2, m'.same rfl, (hs.mem.2 mm').same rfl rfl rfl⟩
theorem RegAt.tail {G : Gl} {id : Nat} {l : List Oper} {st : St} {K : St → Prop} (n : Nat) (hm : G.P.follows .mixedOrders = true) (hB : Region.lexTailB .any l.toArray n = true) (h : opsG (opQ G) G l (l.take n) st fun st => opsG (op1 G) G l (l.drop n) st fun st => stp st K) : RegAt G id l.toArray st K := by
  refine .mk fun ρ a w m mm => ?_
  refine wp_quiet_tail (C := Mem G st ρ) n hm hB mm.drew ?_
  have s1 : Step1 G (op1 G) := fun h hK => op1_sound h hK
  refine wpQuiet_mono ?_ ((opsQ_sound h fun st h => (ops_sound s1 h good_stp).1).2 ρ a w m mm)
  rintro a' ⟨st', k, hs, m'⟩ w' mm'
  refine (ops_sound s1 k good_stp).2 ρ a' w' _ m' (hs.mem.2 mm') ?_
  intro st2 ρ2 a2 w2 k2 m2 mm2
  exact ⟨rfl, { st2 with c := True }, ρ2, (stp_iff.1 k2).2, m2.same rfl, mm2.same rfl rfl rfl⟩
end Sy
end Go.Proofs.Ytccpgalpahfpaaa
