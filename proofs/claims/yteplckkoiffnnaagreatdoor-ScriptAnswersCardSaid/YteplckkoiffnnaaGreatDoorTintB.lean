/-
  tint.Right; the document's Right.
-/
import Derived.Test.YteplckkoiffnnaaGreatDoorTintA
namespace Go.Proofs.YteplckkoiffnnaaGreatDoor
open Go.RowKit
open Sy
set_option linter.unusedVariables false
set_option linter.unusedSimpArgs false
set_option maxRecDepth 100000
set_option maxHeartbeats 4000000

theorem bF_eq {l : List Bd} {i : Nat} (h : i < l.length) : bF l i = l[i].f := by unfold bF; rw [List.getD_eq_getElem?_getD, List.getElem?_eq_getElem h]; rfl
theorem bS_eq {l : List Bd} {i : Nat} (h : i < l.length) : bS l i = l[i].s := by unfold bS; rw [List.getD_eq_getElem?_getD, List.getElem?_eq_getElem h]; rfl
theorem bcel_F {l : List Bd} {i : Nat} (h : i < l.length) : (bcel l)[i * 2]? = some (.int .i64 (bF l i)) ∧ (bcel l)[i * 2 + 1]? = some (.int .i32 (bS l i)) := by rw [bF_eq h, bS_eq h]; exact bcel_at h
theorem bandOk_next {l : List Bd} {i : Nat} (h0 : ∀ j, j < i → BandOk l j) (h1 : MayI (bF l i)) (h2 : SignI (bS l i)) (h3 : 0 < i → bF l (i - 1) < bF l i) (h4 : ∀ k, k < i → bS l k ≠ bS l i) : BandOk l i := by
  refine ⟨h1, h2, fun k hk => ⟨?_, h4 k hk⟩⟩
  have h5 := h3 (by omega)
  by_cases c : k = i - 1
  · rw [c]; exact h5
  · have := ((h0 (i - 1) (by omega)).2.2 k (by omega)).1
    omega
theorem Sl.takeB {R : HP} {A : Option Addr} {n i : Nat} {l : List Bd} (h : Sl R A n 2 (bcel l)) (hi : i ≤ n) (hl : l.length = n) : Sl R A i 2 (bcel (l.take i)) := fun w s => by
  have hr := h w s
  refine ⟨by rw [bcel_len, List.length_take]; omega, fun h0 => ?_⟩
  obtain ⟨ad, e, hb, hc⟩ := hr.2 (by omega)
  refine ⟨ad, e, hb, fun j u hu => hc j u ?_⟩
  rw [← bcel_take, List.getElem?_take] at hu
  split at hu
  · exact hu
  · cases hu
theorem mem_takeB {l : List Bd} {i : Nat} (hi : i ≤ l.length) {s : Int} : (∃ x ∈ l.take i, x.s = s) ↔ ∃ k, k < i ∧ bS l k = s := by
  constructor
  · rintro ⟨x, hx, e⟩
    obtain ⟨k, hk, rfl⟩ := List.getElem_of_mem hx
    rw [List.length_take] at hk
    refine ⟨k, by omega, ?_⟩
    rw [bS_eq (by omega), ← e, List.getElem_take]
  · rintro ⟨k, hk, e⟩
    rw [bS_eq (by omega)] at e
    exact ⟨_, List.mem_take_iff_getElem.2 ⟨k, by omega, rfl⟩, e⟩
theorem sTRight {R : HP} {A : Option Addr} {n c : Nat} {l : List Bd} (hn : n ≤ 9223372036854775807) (hc : n ≤ c) (ha : Sl R A n 2 (bcel l)) : PureR Tryz.prog R 182 [.slice A n c] (.bool (decide (RightL l))) := by
  refine PureR.of_sat fun w hs => ?_
  obtain ⟨hl, sa⟩ := ha.spot (by omega) hs
  rw [bcel_len] at hl
  have e1 : l.length = n := by omega
  clear hs hl
  have hyes : 1 ≤ n → n ≤ 12 → (∀ i, i < n → BandOk l i) → decide (RightL l) = true := fun h1 h2 h3 => decide_eq_true ⟨by omega, by omega, fun i hi => h3 i (by omega)⟩
  have hno1 : n < 1 → decide (RightL l) = false := fun h => decide_eq_false fun c => by have := c.1; omega
  have hno2 : 12 < n → decide (RightL l) = false := fun h => decide_eq_false fun c => by have := c.2.1; omega
  have hno : ∀ i, i < n → ¬ BandOk l i → decide (RightL l) = false := fun i hi h => decide_eq_false fun c => h (c.2.2 i (by omega))
  generalize decide (RightL l) = d at *
  refine fn_of_run0 false Tryz.func182 rfl hmix rfl fun w0 => ?_
  conv => whnf
  refine ⟨fun h1 => ?_, fun h1 => ?_⟩
  · have h1 : ¬ ((n : Int) < 1) := by simpa using h1
    conv => whnf
    refine ⟨fun h2 => ?_, fun h2 => ?_⟩
    · have h2 : (12 : Int) < n := by simpa using h2
      rw [hno2 (by omega)]
      conv => whnf
      exact ⟨trivial, fin_pure rfl rfl⟩
    · have h2 : ¬ (12 : Int) < n := by simpa using h2
      conv => whnf
      refine ⟨trivial, LoopAt.of (α := Nat) [0, 14, 15] (fun i => [(16, .v (.int .i64 (i : Int)))]) (fun _ => []) (fun _ => []) (fun i => i ≤ n ∧ ∀ j, j < i → BandOk l j) (fun i => n - i) 0 ⟨Nat.zero_le _, fun j hj => absurd hj (Nat.not_lt_zero _)⟩
        (Le.of (Nat.le_of_ble_eq_true rfl) (Nat.zero_le _) ⟨⟨rfl, rfl⟩, ⟨rfl, rfl⟩, ⟨rfl, rfl⟩, ⟨rfl, rfl⟩, trivial⟩ trivial fun h s => sub_same s) ?_⟩
      rintro i ⟨hi, h0⟩
      conv => whnf
      refine ⟨fun h3 => ?_, fun h3 => ?_⟩
      · have g3 : i < n := by simpa using h3
        rcases sa with sa | ⟨b, off, rfl, sa⟩
        · omega
        obtain ⟨f1, f2⟩ := bcel_F (l := l) (i := i) (by omega)
        have hnoi := hno i g3
        have hp : 0 < i → ∀ w, Sat R w → w.cell? ⟨b, off + (i - 1) * 2, none⟩ = some (.int .i64 (bF l (i - 1))) := fun h w s => sa w s _ _ (bcel_F (l := l) (i := i - 1) (by omega)).1
        have hnext := bandOk_next h0
        have hbad1 : ¬ MayI (bF l i) → d = false := fun h => hnoi fun c => h c.1
        have hbad2 : ¬ SignI (bS l i) → d = false := fun h => hnoi fun c => h c.2.1
        have hbad3 : 0 < i → ¬ bF l (i - 1) < bF l i → d = false := fun h h' => hnoi fun c => h' (c.2.2 (i - 1) (by omega)).1
        have hbad4 : (∃ k, k < i ∧ bS l k = bS l i) → d = false := fun ⟨k, h, h'⟩ => hnoi fun c => (c.2.2 k h).2 h'
        have hmem := mem_takeB (l := l) (i := i) (by omega) (s := bS l i)
        generalize bF l (i - 1) = y at *
        generalize hx : bF l i = x at *
        generalize hs : bS l i = s at *
        conv => whnf
        refine ⟨⟨trivial, by omega⟩, LoadAt.agg [.int .i64 x, .int .i32 s] rfl rfl rfl (fun w hw j v hj => ?_) ?_⟩
        · rw [Int.toNat_natCast, Nat.add_assoc]
          rcases j with _ | _ | j
          · simp at hj; rw [← hj]; exact sa w hw _ _ f1
          · simp at hj; rw [← hj]; exact sa w hw _ _ f2
          · simp at hj
        conv => whnf
        refine ⟨fun a1 => ?_, fun a1 => ?_⟩
        · have a1 : ¬ x < -2147483648 := of_decide_eq_false a1
          conv => whnf
          refine ⟨fun a2 => ?_, fun a2 => ?_⟩
          · have a2 : ¬ 2147483647 < x := of_decide_eq_false a2
            conv => whnf
            refine ⟨⟨trivial, by omega, by omega⟩, CallAt.pure (fun R' hR' => sTSign s) ?_⟩
            conv => whnf
            refine ⟨fun a3 => ?_, fun a3 => ?_⟩
            · rw [hbad2 (by simpa using a3)]
              conv => whnf
              exact ⟨trivial, fin_pure rfl rfl⟩
            · have a3 : SignI s := by simpa using a3
              conv => whnf
              refine ⟨trivial, RegAt.quiet hmix (by kernel_rfl) ?_⟩
              conv => whnf
              refine ⟨fun b1 => ?_, fun b1 => ?_⟩
              · have b1 : 0 < i := by simpa using b1
                conv => whnf
                refine ⟨⟨⟨trivial, by unfold rng; omega⟩, by omega, by omega⟩, LoadAt.cell (.int .i64 y) rfl rfl (fun w hw => ?_) ?_⟩
                · have := hp b1 w hw
                  have e : (((i : Int) - 1).toNat) = i - 1 := by omega
                  simpa [e] using this
                conv => whnf
                refine ⟨trivial, ?_⟩
                conv => whnf
                refine ⟨fun b2 => ?_, fun b2 => ?_⟩
                · rw [hbad3 b1 (by simp at b2; omega)]
                  conv => whnf
                  exact ⟨trivial, fin_pure rfl rfl⟩
                · have b2 : y < x := by simp at b2; omega
                  conv => whnf
                  intro tb _
                  conv => whnf
                  refine ⟨trivial, CallAt.pure (fun R' hR' => sContainsR (n := i) (s := s) (by omega) (Sl.takeB (ha.mono fun w s => (hR' w s).rest) (by omega) e1) (fun w s => (blk_sat ((hR' w s).in_ 0 rfl)).cell 1)) ?_⟩
                  conv => whnf
                  refine ⟨fun z => ?_, fun z => ?_⟩
                  · rw [hbad4 (hmem.1 (of_decide_eq_true z))]
                    conv => whnf
                    exact ⟨trivial, fin_drop rfl⟩
                  · have z := of_decide_eq_false z
                    conv => whnf
                    refine ⟨⟨trivial, by unfold rng; omega⟩, .mk (i + 1) ⟨by omega, fun j hj => ?_⟩ (by omega) (Le.of (Nat.le_of_ble_eq_true rfl) (Nat.zero_le _) ⟨⟨rfl, rfl⟩, ⟨rfl, rfl⟩, ⟨rfl, rfl⟩, ⟨rfl, rfl⟩, trivial⟩ trivial fun h s => sub_nil s)⟩
                    rcases Nat.lt_or_ge j i with c | c
                    · exact h0 j c
                    · rw [show j = i by omega]
                      exact hnext ⟨by omega, by omega⟩ a3 (fun _ => b2) fun k hk e => z (hmem.2 ⟨k, hk, e⟩)
              · have b1 : ¬ 0 < i := by simpa using b1
                conv => whnf
                refine ⟨trivial, ?_⟩
                conv => whnf
                intro tb _
                conv => whnf
                refine ⟨trivial, CallAt.pure (fun R' hR' => sContainsR (n := i) (s := s) (by omega) (Sl.takeB (ha.mono fun w s => (hR' w s).rest) (by omega) e1) (fun w s => (blk_sat ((hR' w s).in_ 0 rfl)).cell 1)) ?_⟩
                conv => whnf
                refine ⟨fun z => ?_, fun z => ?_⟩
                · rw [hbad4 (hmem.1 (of_decide_eq_true z))]
                  conv => whnf
                  exact ⟨trivial, fin_drop rfl⟩
                · have z := of_decide_eq_false z
                  conv => whnf
                  refine ⟨⟨trivial, by unfold rng; omega⟩, .mk (i + 1) ⟨by omega, fun j hj => ?_⟩ (by omega) (Le.of (Nat.le_of_ble_eq_true rfl) (Nat.zero_le _) ⟨⟨rfl, rfl⟩, ⟨rfl, rfl⟩, ⟨rfl, rfl⟩, ⟨rfl, rfl⟩, trivial⟩ trivial fun h s => sub_nil s)⟩
                  rcases Nat.lt_or_ge j i with c | c
                  · exact h0 j c
                  · rw [show j = i by omega]
                    exact hnext ⟨by omega, by omega⟩ a3 (fun c => absurd c b1) fun k hk e => z (hmem.2 ⟨k, hk, e⟩)
          · have a2 : 2147483647 < x := by simpa using a2
            rw [hbad1 (fun c => by have := c.2; omega)]
            conv => whnf
            exact ⟨⟨trivial, by omega, by omega⟩, fin_pure rfl rfl⟩
        · have a1 : x < -2147483648 := by simpa using a1
          rw [hbad1 (fun c => by have := c.1; omega)]
          conv => whnf
          exact ⟨⟨trivial, by omega, by omega⟩, fin_pure rfl rfl⟩
      · have g3 : i = n := by simp at h3; omega
        subst g3
        rw [hyes (by omega) (by omega) h0]
        conv => whnf
        exact ⟨trivial, fin_pure rfl rfl⟩
  · have h1 : (n : Int) < 1 := by simpa using h1
    rw [hno1 (by omega)]
    conv => whnf
    exact ⟨trivial, fin_pure rfl rfl⟩
end Go.Proofs.YteplckkoiffnnaaGreatDoor
