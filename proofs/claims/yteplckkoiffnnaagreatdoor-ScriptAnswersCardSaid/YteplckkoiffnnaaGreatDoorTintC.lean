/-
  tint.Of, tint.Back; the document's Of.
-/
import Derived.Test.YteplckkoiffnnaaGreatDoorTintB
namespace Go.Proofs.YteplckkoiffnnaaGreatDoor
open Go.RowKit
open Sy
set_option linter.unusedVariables false
set_option linter.unusedSimpArgs false
set_option maxRecDepth 100000
set_option maxHeartbeats 4000000

/-- the sign behind k bands -/
def ofK (l : List Bd) (v : Int) : Nat → Int
  | 0 => bS l 0
  | k + 1 => if bF l k ≤ v then bS l k else ofK l v k
def ofV (l : List Bd) (v : Int) : Int × Int := if RightL l then (ofK l v l.length, 0) else (0, 13)
noncomputable def backV (l : List Bd) (r : Int) : Int × Int := if RightL l then (if ixB (fun x => decide (x.s = r)) l < 0 then (0, 15) else (bF l (ixB (fun x => decide (x.s = r)) l).toNat, 0)) else (0, 13)
theorem sTOf {R : HP} {A : Option Addr} {n c : Nat} {l : List Bd} (v : Int) (hn : n ≤ 9223372036854775807) (hc : n ≤ c) (ha : Sl R A n 2 (bcel l)) : PureR Tryz.prog R 183 [.slice A n c, .int .i64 v] (.tuple #[.int .i32 (ofV l v).1, .int .i64 (ofV l v).2]) := by
  refine PureR.of_sat fun w hs => ?_
  obtain ⟨hl, sa⟩ := ha.spot (by omega) hs
  rw [bcel_len] at hl
  have e1 : l.length = n := by omega
  clear hs hl
  have hr := fun R' (h : ∀ w, Sat R' w → Sat R w) => sTRight (c := c) hn hc (ha.mono h)
  by_cases hR : RightL l
  · have hn1 : 1 ≤ n := by have := hR.1; omega
    have e2 : ofV l v = (ofK l v n, 0) := by unfold ofV; rw [if_pos hR, e1]
    rw [e2]
    rw [decide_eq_true hR] at hr
    rcases sa with sa | ⟨b, off, rfl, sa⟩
    · omega
    have hcel : ∀ j, j < n → ∀ w, Sat R w → w.cell? ⟨b, off + j * 2, none⟩ = some (.int .i64 (bF l j)) ∧ w.cell? ⟨b, off + j * 2 + 1, none⟩ = some (.int .i32 (bS l j)) := fun j hj w s => by
      obtain ⟨f1, f2⟩ := bcel_F (l := l) (i := j) (by omega)
      exact ⟨sa w s _ _ f1, by rw [Nat.add_assoc]; exact sa w s _ _ f2⟩
    refine fn_of_run0 false Tryz.func183 rfl hmix rfl fun w0 => ?_
    conv => whnf
    refine ⟨trivial, CallAt.pure (fun R' hR' => hr R' hR') ?_⟩
    conv => whnf
    refine iff_f rfl ?_
    conv => whnf
    refine ⟨⟨trivial, by omega⟩, LoadAt.cell (.int .i32 (bS l 0)) rfl rfl (fun w hw => ?_) ?_⟩
    · simpa using (hcel 0 hn1 w hw).2
    conv => whnf
    refine ⟨trivial, LoopAt.of (α := Nat) [1, 16, 17] (fun i => [(6, .v (.int .i32 (ofK l v i))), (18, .v (.int .i64 (i : Int)))]) (fun _ => []) (fun _ => []) (fun i => i ≤ n) (fun i => n - i) 0 (Nat.zero_le _)
      (Le.of (Nat.le_of_ble_eq_true rfl) (Nat.zero_le _) ⟨⟨rfl, rfl⟩, ⟨rfl, rfl⟩, ⟨rfl, rfl⟩, ⟨rfl, rfl⟩, ⟨rfl, rfl⟩, trivial⟩ trivial fun h s => sub_same s) ?_⟩
    intro i hi
    conv => whnf
    refine ⟨fun h3 => ?_, fun h3 => ?_⟩
    · have g3 : i < n := by simpa using h3
      have hcl := hcel i g3
      have ek : ofK l v (i + 1) = if bF l i ≤ v then bS l i else ofK l v i := rfl
      generalize bF l i = x at *
      generalize bS l i = s at *
      conv => whnf
      refine ⟨⟨trivial, by omega⟩, LoadAt.agg [.int .i64 x, .int .i32 s] rfl rfl rfl (fun w hw j u hj => ?_) ?_⟩
      · rw [Int.toNat_natCast]
        rcases j with _ | _ | j
        · simp at hj; rw [← hj]; exact (hcl w hw).1
        · simp at hj; rw [← hj]; exact (hcl w hw).2
        · simp at hj
      conv => whnf
      refine ⟨fun b1 => ?_, fun b1 => ?_⟩
      · rw [if_pos (of_decide_eq_true b1)] at ek
        conv => whnf
        exact ⟨⟨trivial, by unfold rng; omega⟩, .mk (i + 1) (by omega) (by omega) (Le.of (Nat.le_of_ble_eq_true rfl) (Nat.zero_le _) ⟨⟨congrArg (fun z => some (SV.v (Value.int .i32 z))) ek.symm, rfl⟩, ⟨rfl, rfl⟩, ⟨rfl, rfl⟩, ⟨rfl, rfl⟩, ⟨rfl, rfl⟩, trivial⟩ trivial fun h s => sub_nil s)⟩
      · rw [if_neg (of_decide_eq_false b1)] at ek
        conv => whnf
        exact ⟨⟨trivial, by unfold rng; omega⟩, .mk (i + 1) (by omega) (by omega) (Le.of (Nat.le_of_ble_eq_true rfl) (Nat.zero_le _) ⟨⟨congrArg (fun z => some (SV.v (Value.int .i32 z))) ek.symm, rfl⟩, ⟨rfl, rfl⟩, ⟨rfl, rfl⟩, ⟨rfl, rfl⟩, ⟨rfl, rfl⟩, trivial⟩ trivial fun h s => sub_nil s)⟩
    · have g3 : i = n := by simp at h3; omega
      subst g3
      conv => whnf
      exact ⟨trivial, fin_pure rfl rfl⟩
  · have e2 : ofV l v = (0, 13) := by unfold ofV; rw [if_neg hR]
    rw [e2]
    rw [decide_eq_false hR] at hr
    refine fn_of_run0 false Tryz.func183 rfl hmix rfl fun w0 => ?_
    conv => whnf
    refine ⟨trivial, CallAt.pure (fun R' hR' => hr R' hR') ?_⟩
    conv => whnf
    refine iff_t rfl ?_
    conv => whnf
    exact ⟨trivial, fin_pure rfl rfl⟩
end Go.Proofs.YteplckkoiffnnaaGreatDoor
