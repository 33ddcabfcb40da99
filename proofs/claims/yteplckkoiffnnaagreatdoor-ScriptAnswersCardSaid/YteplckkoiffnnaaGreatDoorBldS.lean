/-
  strings.Builder: the string. tint.Print.
-/
import Derived.Test.YteplckkoiffnnaaGreatDoorBld
namespace Go.Proofs.YteplckkoiffnnaaGreatDoor
open Go.RowKit
open Sy
set_option linter.unusedVariables false
set_option linter.unusedSimpArgs false
set_option maxRecDepth 100000
set_option maxHeartbeats 4000000

theorem row_capS {A : Option Addr} {n c size : Nat} {e : TypeId} {xs : List Value} {w : World} (s : Sat (rowH (.slice A n c) n e size xs) w) : n ≤ c := by
  obtain ⟨h, _, _, r⟩ := s
  rcases r with ⟨e, h0, _⟩ | ⟨g, cap, cur, e, _, h1, _⟩
  · omega
  · injection e with _ _ e
    omega
/-- where a slice's elements lie -/
theorem OpAt.sliceData {G : Gl} {o : Oper} {st : St} {K : St → Prop} {x : Operand} {t : TypeId} (a : Addr) (n c : Nat) (hc : c ≠ 0) (ho : o.op = .call { callee := .builtin .unsafeSliceData, args := #[x], argTypes := #[t] }) (hx : evR st x = .slice (some a) n c) (hr : allR st o.op.operands.toList = true) (k : putK G st o.dst (.v (.pointer (some a))) none K) : OpAt G o st K := by
  refine OpAt.val (.pointer (some a)) (by rw [ho]; rfl) hr (fun w sat => ?_) k
  have ha : (#[x] : Array Operand).map (evR st) = #[.slice (some a) n c] := by simp [hx]
  simp only [execOp, ho, resolve, invoke, builtin, Sem.run_bind, Sem.run_pure, Result.andThen_ok, ha, Lib.run_unsafeSliceData_row (P := G.P) w _ _ a n c hc]
  try rfl
theorem sBString {R : HP} {b : Nat} {l : List UInt8} (h0 : l ≠ []) (hl : l.length ≤ 1000000) :
    FnR Tryz.prog R 32 [.pointer (some ⟨b, 0, none⟩)] [bldH b l] fun r hs => r = .string (bs l) ∧ hs = [] := by
  refine FnR.unbox fun ⟨u, A, c⟩ => ?_
  rw [List.append_nil]
  refine FnR.of_sat fun wS hsat => ?_
  have hp : 0 < l.length := List.length_pos_iff.2 h0
  obtain ⟨ad, hA, _, _⟩ := (rowH_reads rfl (hsat.in_ 1 rfl)).2 hp
  obtain ⟨g, hg⟩ : ∃ g, A = some ⟨g, 0, none⟩ := by
    obtain ⟨h, _, _, r⟩ := hsat.in_ 1 rfl
    rcases r with ⟨e, _, _⟩ | ⟨g, _, _, e, _⟩
    · injection e with e
      rw [e] at hA
      cases hA
    · injection e with e
      exact ⟨g, e⟩
  subst hg
  clear hA
  have hcl : l.length ≤ c := row_capS (hsat.in_ 1 rfl)
  refine fn_of_run0 false Tryz.func32 rfl hmix rfl fun w0 => ?_
  conv => whnf
  refine ⟨trivial, RegAt.groups [([.T 0, .T 1, .T 2, .T 3, .T 5, .T 6, .T 7, .T 8, .T 9, .H 4], 10), ([.H 10], 11), ([.T 11], 12)] hmix (by kernel_rfl) ?_⟩
  conv => whnf
  refine ⟨trivial, LoadAt.cell (.slice (some ⟨g, 0, none⟩) l.length c) rfl rfl (fun w hw => (blk_sat (show Sat (bldHd b u (.slice (some ⟨g, 0, none⟩) l.length c)) w from hw.in_ 0 rfl)).cell 1) ?_⟩
  conv => whnf
  refine ⟨trivial, LoadAt.cell (.slice (some ⟨g, 0, none⟩) l.length c) rfl rfl (fun w hw => (blk_sat (show Sat (bldHd b u (.slice (some ⟨g, 0, none⟩) l.length c)) w from hw.in_ 0 rfl)).cell 1) ?_⟩
  conv => whnf
  refine ⟨trivial, OpAt.sliceData ⟨g, 0, none⟩ l.length c (by omega) rfl rfl rfl ?_⟩
  conv => whnf
  refine ⟨trivial, ⟨⟨rfl, rfl⟩, fun h s => sub_same s⟩, ?_⟩
  conv => whnf
  refine ⟨trivial, OpAt.unsafeStr g c l [bldHd b u (.slice (some ⟨g, 0, none⟩) l.length c)] rfl (fun h s => sepL_pull 1 s) rfl rfl rfl rfl rfl h0 (by omega) ?_⟩
  conv => whnf
  refine ⟨trivial, ?_⟩
  conv => whnf
  exact ⟨trivial, fin_drop rfl⟩
end Go.Proofs.YteplckkoiffnnaaGreatDoor
