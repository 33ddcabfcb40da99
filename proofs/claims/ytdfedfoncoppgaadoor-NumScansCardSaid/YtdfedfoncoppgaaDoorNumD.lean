/-
  How many digits a string begins with.
-/
import Derived.Test.YtdfedfoncoppgaaDoorSyStr
import Derived.Test.YtdfedfoncoppgaaDoorProg
import Derived.KernelRfl
namespace Go.Proofs.YtdfedfoncoppgaaDoor
open Go.RowKit
open Sy
set_option linter.unusedVariables false
set_option linter.unusedSimpArgs false
set_option maxRecDepth 100000
set_option maxHeartbeats 4000000

theorem hmix : Tryd.prog.follows .mixedOrders = true := by kernel_rfl
def isD (b : UInt8) : Bool := decide (48 ≤ b.toNat) && decide (b.toNat ≤ 57)
def nd : List UInt8 → Nat
  | [] => 0
  | b :: l => if isD b then nd l + 1 else 0
theorem nd_le : ∀ l : List UInt8, nd l ≤ l.length
  | [] => Nat.le_refl _
  | b :: l => by
    unfold nd
    have := nd_le l
    split <;> simp <;> omega
theorem drop_at {l : List UInt8} {a : Nat} (h : a < l.length) : l.drop a = l[a] :: l.drop (a + 1) := List.drop_eq_getElem_cons h
theorem nd_step {l : List UInt8} {a : Nat} (h : a < l.length) (hD : isD l[a] = true) : nd (l.drop a) = nd (l.drop (a + 1)) + 1 := by
  rw [drop_at h]
  show (if isD l[a] = true then _ else _) = _
  rw [if_pos hD]
theorem nd_stop {l : List UInt8} {a : Nat} (h : a < l.length) (hD : isD l[a] = false) : nd (l.drop a) = 0 := by
  rw [drop_at h]
  show (if isD l[a] = true then _ else _) = _
  rw [hD]
  rfl
theorem bs_get {l : List UInt8} {a : Nat} (h : a < (bs l).size) : (bs l)[a]'h = l[a]'(by simpa using h) := by
  show (bs l).data[a] = _
  simp [bs]
theorem sDigits {R : HP} (l : List UInt8) (hl : l.length ≤ 4611686018427387904) : PureR Tryd.prog R 14 [.string (bs l)] (.int .i64 (nd l : Int)) := by
  refine fn_of_run0 false Tryd.func14 rfl hmix rfl fun w0 => ?_
  conv => whnf
  refine ⟨trivial, OpAt.range (bs l) rfl rfl rfl rfl fun b => ?_⟩
  conv => whnf
  refine ⟨trivial, LoopAt.heap (α := Nat) [0, 6] (fun a => []) (fun a => [itH b (bs l) a]) (fun a => a ≤ l.length ∧ nd l = a + nd (l.drop a)) (fun a => l.length - a) 0 ⟨Nat.zero_le _, by simp⟩ rfl trivial ⟨⟨rfl, rfl⟩, ⟨rfl, rfl⟩, trivial⟩ trivial (fun h s => sub_same s) ?_⟩
  rintro a ⟨ha, hn⟩
  conv => whnf
  by_cases c : a < l.length
  · have c' : a < (bs l).size := by simpa using c
    have hd := drop_at c
    by_cases c2 : l[a].toNat < 128
    · refine ⟨trivial, OpAt.next b (bs l) a [] rfl (fun h s => s) rfl rfl c' ?_⟩
      rw [decode_ascii (bs l) a c' (by rw [bs_get]; exact c2), bs_get]
      conv => whnf
      refine iff_t rfl ?_
      conv => whnf
      refine ⟨fun h => ?_, fun h => ?_⟩
      · have h : ¬ (l[a].toNat : Int) < 48 := of_decide_eq_false h
        conv => whnf
        refine ⟨fun h2 => ?_, fun h2 => ?_⟩
        · have h2 : (57 : Int) < l[a].toNat := of_decide_eq_true h2
          conv => whnf
          refine ⟨trivial, fin_drop ?_⟩
          have : nd l = a := by rw [hn, hd]; simp [nd, isD]; omega
          rw [this]; rfl
        · have h2 : ¬ (57 : Int) < l[a].toNat := of_decide_eq_false h2
          conv => whnf
          refine ⟨trivial, Next.heap (a + 1) ⟨c, ?_⟩ (by omega) trivial ⟨⟨rfl, rfl⟩, ⟨rfl, rfl⟩, trivial⟩ trivial rfl rfl fun h s => sub_same s⟩
          have := nd_step c (by simp [isD]; omega)
          show nd l = _
          omega
      · have h : (l[a].toNat : Int) < 48 := of_decide_eq_true h
        conv => whnf
        refine ⟨trivial, fin_drop ?_⟩
        have : nd l = a := by rw [hn, hd]; simp [nd, isD]; omega
        rw [this]; rfl
    · refine ⟨trivial, OpAt.next b (bs l) a [] rfl (fun h s => s) rfl rfl c' ?_⟩
      have h3 := (decode_high (bs l) a c' (by rw [bs_get]; omega)).1
      have : nd l = a := by rw [hn, hd]; simp [nd, isD]; omega
      rw [this]
      generalize Utf8.decode (bs l) a = z at h3 ⊢
      conv => whnf
      refine iff_t rfl ?_
      conv => whnf
      refine ⟨fun h => ?_, fun h => ?_⟩
      · conv => whnf
        refine ⟨fun h2 => ?_, fun h2 => ?_⟩
        · conv => whnf
          exact ⟨trivial, fin_drop rfl⟩
        · have h2 := of_decide_eq_false h2
          exfalso; omega
      · have h := of_decide_eq_true h
        exfalso; omega
  · refine ⟨trivial, OpAt.nextEnd b (bs l) a [] rfl (fun h s => s) rfl rfl (by simpa using c) ?_⟩
    have : nd l = (bs l).size := by
      have e : l.drop a = [] := List.drop_eq_nil_of_le (by omega)
      rw [hn, e, bs_size]; simp [nd]; omega
    rw [this]
    conv => whnf
    refine iff_f rfl ?_
    conv => whnf
    exact ⟨trivial, fin_drop rfl⟩
end Go.Proofs.YtdfedfoncoppgaaDoor
