/-
  tint: Sign, Right; the document's.
-/
import Derived.Test.YteplckkoiffnnaaGreatDoorTintQ
import Derived.Test.YteplckkoiffnnaaGreatDoorSySl
import Derived.Test.YteplckkoiffnnaaGreatDoorSySub
namespace Go.Proofs.YteplckkoiffnnaaGreatDoor
open Go.RowKit
open Sy
set_option linter.unusedVariables false
set_option linter.unusedSimpArgs false
set_option maxRecDepth 100000
set_option maxHeartbeats 4000000

def bdC (b : Bd) : List Value := [.int .i64 b.f, .int .i32 b.s]
def bcel (l : List Bd) : List Value := l.flatMap bdC
theorem bcel_len (l : List Bd) : (bcel l).length = l.length * 2 := by
  induction l with
  | nil => rfl
  | cons a l ih =>
    have e : bcel (a :: l) = bdC a ++ bcel l := rfl
    rw [e, List.length_append, ih]
    simp [bdC]; omega
theorem bcel_at : ∀ {l : List Bd} {i : Nat} (h : i < l.length), (bcel l)[i * 2]? = some (.int .i64 l[i].f) ∧ (bcel l)[i * 2 + 1]? = some (.int .i32 l[i].s)
  | f :: l, 0, _ => ⟨rfl, rfl⟩
  | f :: l, i + 1, h => by
    have := bcel_at (l := l) (i := i) (by simpa using h)
    have e : bcel (f :: l) = .int .i64 f.f :: .int .i32 f.s :: bcel l := rfl
    rw [e, show (i + 1) * 2 = i * 2 + 2 by omega]
    simpa using this
theorem bcel_take : ∀ (l : List Bd) (i : Nat), (bcel l).take (i * 2) = bcel (l.take i)
  | [], i => by simp [bcel]
  | a :: l, 0 => by simp [bcel]
  | a :: l, i + 1 => by
    have := bcel_take l i
    simp only [bcel, List.flatMap_cons, List.take_succ_cons] at *
    rw [show (i + 1) * 2 = i * 2 + 1 + 1 by omega]
    simp only [bdC, List.cons_append, List.nil_append, List.take_succ_cons] at *
    rw [this]
theorem SignI_iff {r : Int} : SignI r ↔ (r ≠ 44 ∧ r ≠ 58 ∧ r ≠ 173 ∧ ((33 ≤ r ∧ r ≤ 126) ∨ (161 ≤ r ∧ r ≤ 55295) ∨ (57344 ≤ r ∧ r ≤ 65532))) := by
  unfold SignI SignN
  omega
theorem bool_key {r : Int} {b : Bool} (h : b = true ↔ SignI r) : Value.bool b = .bool (decide (SignI r)) := by
  congr 1
  rw [Bool.eq_iff_iff, h, decide_eq_true_eq]
theorem sTSign {R : HP} (r : Int) : PureR Tryz.prog R 266 [.int .i32 r] (.bool (decide (SignI r))) := by
  have key : ∀ b : Bool, (b = true ↔ (r ≠ 44 ∧ r ≠ 58 ∧ r ≠ 173 ∧ ((33 ≤ r ∧ r ≤ 126) ∨ (161 ≤ r ∧ r ≤ 55295) ∨ (57344 ≤ r ∧ r ≤ 65532)))) → Value.bool b = .bool (decide (SignI r)) := fun b h => bool_key (h.trans SignI_iff.symm)
  generalize decide (SignI r) = d at *
  refine fn_of_run0 false Tryz.func266 rfl hmix rfl fun w0 => ?_
  conv => whnf
  repeat' (first | (refine ⟨fun h => ?_, fun h => ?_⟩ <;> (have h := h; conv => whnf)) | fail)
  all_goals (refine ⟨trivial, fin_pure rfl (key _ ?_)⟩; simp at *; omega)
/-- where the first is that p takes; -1: none -/
def ixB (p : Bd → Bool) (l : List Bd) : Int := if l.findIdx p < l.length then (l.findIdx p : Int) else -1
theorem sIndexR {R : HP} {A : Option Addr} {n c : Nat} {l : List Bd} {p1 : Value} {p : Bd → Bool} (hn : n ≤ 9223372036854775807) (ha : Sl R A n 2 (bcel l))
    (hp : ∀ R' : HP, (∀ w, Sat R' w → Sat R w) → ∀ x ∈ l, PureR Tryz.prog R' 268 [.agg #[.int .i64 x.f, .int .i32 x.s], p1] (.bool (p x))) :
    PureR Tryz.prog R 307 [.slice A n c, .func (.func 268) #[] #[p1]] (.int .i64 (ixB p l)) := by
  refine PureR.of_sat fun w hs => ?_
  obtain ⟨hl, sa⟩ := ha.spot (by omega) hs
  rw [bcel_len] at hl
  have e1 : l.length = n := by omega
  clear hs hl
  have hix : ∀ k (h : k < l.length), (∀ j (hj : j < k), p (l[j]'(by omega)) = false) → p l[k] = true → ixB p l = (k : Int) := fun k h h0 h1 => by
    have : l.findIdx p = k := (List.findIdx_eq h).2 ⟨h1, fun j hj => h0 j hj⟩
    unfold ixB
    rw [this, if_pos h]
  have hno : (∀ j (hj : j < n), p (l[j]'(by omega)) = false) → ixB p l = -1 := fun h => by
    have : l.findIdx p = l.length := List.findIdx_eq_length.2 fun x hx => by
      obtain ⟨j, hj, e⟩ := List.mem_iff_getElem.1 hx
      rw [← e]; exact h j (by omega)
    unfold ixB
    rw [this, if_neg (Nat.lt_irrefl _)]
  generalize ixB p l = ix at *
  refine fn_of_run0 false Tryz.func307 rfl hmix rfl fun w0 => ?_
  conv => whnf
  refine ⟨trivial, LoopAt.keep (α := Nat) [0, 1, 7] (fun k => [(8, .v (.int .i64 (k : Int)))]) (fun k => k ≤ n ∧ ∀ j (hj : j < k) (hj' : j < l.length), p l[j] = false) (fun k => n - k) 0 ⟨Nat.zero_le _, fun j hj => absurd hj (Nat.not_lt_zero _)⟩ rfl ⟨⟨rfl, rfl⟩, trivial⟩ ⟨⟨rfl, rfl⟩, ⟨rfl, rfl⟩, ⟨rfl, rfl⟩, trivial⟩ trivial ?_⟩
  rintro k ⟨hk, h0⟩
  conv => whnf
  refine ⟨fun h2 => ?_, fun h2 => ?_⟩
  · have g2 : k < n := by simpa using h2
    rcases sa with sa | ⟨b, off, rfl, sa⟩
    · omega
    have hk' : k < l.length := by omega
    obtain ⟨f1, f2⟩ := bcel_at (l := l) (i := k) hk'
    have hpk := fun R' h => hp R' h _ (List.getElem_mem hk')
    have hixk := hix k hk' (fun j hj => h0 j hj (by omega))
    have hsucc : p l[k] = false → ∀ j (hj : j < k + 1) (hj' : j < l.length), p l[j] = false := fun h j hj hj' => by
      rcases Nat.lt_or_ge j k with c | c
      · exact h0 j c hj'
      · have : j = k := by omega
        subst this; exact h
    generalize l[k] = x at *
    conv => whnf
    refine ⟨⟨trivial, by omega⟩, LoadAt.agg [.int .i64 x.f, .int .i32 x.s] rfl rfl rfl (fun w hw j v hj => ?_) ?_⟩
    · rw [Int.toNat_natCast, Nat.add_assoc]
      rcases j with _ | _ | j
      · simp at hj; rw [← hj]; exact sa w hw _ _ f1
      · simp at hj; rw [← hj]; exact sa w hw _ _ f2
      · simp at hj
    conv => whnf
    refine ⟨trivial, CallAt.pure (fun R' hR' => hpk R' hR') ?_⟩
    conv => whnf
    refine ⟨fun h3 => ?_, fun h3 => ?_⟩
    · rw [hixk h3]
      conv => whnf
      exact ⟨trivial, fin_pure rfl rfl⟩
    · conv => whnf
      exact ⟨⟨trivial, by unfold rng; omega⟩, Next.keep (k + 1) ⟨by omega, hsucc h3⟩ (by omega) ⟨⟨rfl, rfl⟩, trivial⟩ ⟨⟨rfl, rfl⟩, ⟨rfl, rfl⟩, ⟨rfl, rfl⟩, trivial⟩ trivial rfl rfl rfl⟩
  · have g2 : k = n := by simp at h2; omega
    subst g2
    rw [hno fun j hj => h0 j hj (by omega)]
    conv => whnf
    exact ⟨trivial, fin_pure rfl rfl⟩
/-- the closures ask for a sign -/
theorem sRight1 {R : HP} {tb : Nat} {s : Int} (x : Bd) (hR : ∀ w, Sat R w → w.cell? ⟨tb, 1, none⟩ = some (.int .i32 s)) : PureR Tryz.prog R 268 [.agg #[.int .i64 x.f, .int .i32 x.s], .pointer (some ⟨tb, 0, none⟩)] (.bool (decide (x.s = s))) := by
  refine fn_of_run0 false Tryz.func268 rfl hmix rfl fun w0 => ?_
  conv => whnf
  refine ⟨trivial, LoadAt.cell (.int .i32 s) rfl rfl (fun w hw => hR w hw) ?_⟩
  conv => whnf
  exact ⟨trivial, fin_pure rfl rfl⟩
theorem ixB_no {p : Bd → Bool} {l : List Bd} : (0 ≤ ixB p l) ↔ ∃ x ∈ l, p x = true := by
  unfold ixB
  by_cases h : l.findIdx p < l.length
  · rw [if_pos h]
    exact ⟨fun _ => ⟨_, List.getElem_mem h, List.findIdx_getElem⟩, fun _ => by omega⟩
  · rw [if_neg h]
    refine ⟨fun c => by omega, fun ⟨x, hx, hp⟩ => absurd (List.findIdx_lt_length_of_exists ⟨x, hx, hp⟩) h⟩
theorem sContainsR {R : HP} {A : Option Addr} {n c tb : Nat} {s : Int} {l : List Bd} (hn : n ≤ 9223372036854775807) (ha : Sl R A n 2 (bcel l)) (hR : ∀ w, Sat R w → w.cell? ⟨tb, 1, none⟩ = some (.int .i32 s)) :
    PureR Tryz.prog R 267 [.slice A n c, .func (.func 268) #[] #[.pointer (some ⟨tb, 0, none⟩)]] (.bool (decide (∃ x ∈ l, x.s = s))) := by
  have hi := fun R' (h : ∀ w, Sat R' w → Sat R w) => sIndexR (c := c) (p1 := .pointer (some ⟨tb, 0, none⟩)) (p := fun x => decide (x.s = s)) hn (ha.mono h) fun R'' h' x hx => sRight1 x fun w s => hR w (h w (h' w s))
  have e : decide (0 ≤ ixB (fun x => decide (x.s = s)) l) = decide (∃ x ∈ l, x.s = s) := decide_eq_decide.2 (by rw [ixB_no]; simp)
  rw [← e]
  generalize ixB (fun x => decide (x.s = s)) l = ix at *
  refine fn_of_run0 false Tryz.func267 rfl hmix rfl fun w0 => ?_
  conv => whnf
  refine ⟨trivial, CallAt.pure (fun R' hR' => hi R' hR') ?_⟩
  conv => whnf
  exact ⟨trivial, fin_pure rfl rfl⟩
end Go.Proofs.YteplckkoiffnnaaGreatDoor
