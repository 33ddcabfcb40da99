/-
  Texts of the proofs, one behind the other: TintI.
-/
import Derived.Test.YtihkhomnhggifaaGreatDoorSPg11
/-
  strings.Builder: a sign is written.
-/
namespace Go.Proofs.YtihkhomnhggifaaGreatDoor
open Go.RowKit
open Sy
set_option linter.unusedVariables false
set_option linter.unusedSimpArgs false
set_option maxRecDepth 100000
set_option maxHeartbeats 4000000

theorem sWriteRune {R : HP} {b : Nat} {l : List UInt8} (x : Nat) (hx : SignN x) (hl : l.length ≤ 1000000) :
    FnR Tryz.prog R 69 [.pointer (some ⟨b, 0, none⟩), .int .i32 (x : Int)] [bldH b l] fun r hs => r = .tuple #[.int .i64 ((utfN x).length : Int), .nilIface] ∧ hs = [bldH b (l ++ utfN x)] := by
  refine FnR.unbox fun ⟨u, A, c⟩ => ?_
  rw [List.append_nil]
  have hcc : ∀ R', FnR Tryz.prog R' 56 [.pointer (some ⟨b, 0, none⟩)] [bldHd b u (.slice A l.length c)] fun r hs => r = .tuple #[] ∧ hs = [bldHd b true (.slice A l.length c)] := fun R' => by
    cases u
    · exact sCopyCheckF
    · exact sCopyCheckU
  have hul := utfN_len x
  refine fn_of_run0 false Tryz.func69 rfl hmix rfl fun w0 => ?_
  conv => whnf
  refine ⟨trivial, CallAt.fn (pre := [bldHd b u (.slice A l.length c)]) _ (fun h s => s) (fun R' hR' => hcc R') ?_⟩
  rintro r hs ⟨rfl, rfl⟩
  conv => whnf
  refine ⟨trivial, LoadAt.cell (.slice A l.length c) rfl rfl (fun w hw => (blk_sat (show Sat (bldHd b true (.slice A l.length c)) w from hw.in_ 0 rfl)).cell 1) ?_⟩
  conv => whnf
  refine ⟨trivial, LoadAt.cell (.slice A l.length c) rfl rfl (fun w hw => (blk_sat (show Sat (bldHd b true (.slice A l.length c)) w from hw.in_ 0 rfl)).cell 1) ?_⟩
  conv => whnf
  refine ⟨trivial, CallAt.fn (pre := [rowH (.slice A l.length c) l.length 5 1 (byV l)]) _ (fun h s => sepL_pull 1 s) (fun R' hR' => sAppendRune x hx hl) ?_⟩
  rintro r hs ⟨A', c', rfl, rfl⟩
  conv => whnf
  refine ⟨trivial, OpAt.store b 1 (.slice A' (l.length + (utfN x).length) c') _ rfl (fun h s => sepL_pull 1 s) rfl rfl rfl rfl rfl (by simp [Value.cells, Value.oneCell']) (fun h r => blk_put (by show 1 + 1 ≤ 2; omega) r) ?_⟩
  conv => whnf
  refine ⟨trivial, LoadAt.cell (.slice A' (l.length + (utfN x).length) c') rfl rfl (fun w hw => (blk_sat (show Sat (bldHd b true (.slice A' (l.length + (utfN x).length) c')) w from hw.in_ 0 rfl)).cell 1) ?_⟩
  conv => whnf
  have e1 : ((l.length + (utfN x).length : Nat) : Int) - (l.length : Int) = ((utfN x).length : Int) := by omega
  rw [e1]
  refine ⟨⟨trivial, by unfold rng; omega⟩, .mk [bldH b (l ++ utfN x)] (fun w ⟨h, hs, s⟩ => ⟨h, hs, boxH_shut (parts := bldP b (l ++ utfN x)) (true, A', c') ?_⟩) ⟨rfl, rfl⟩⟩
  rw [List.append_nil]
  unfold bldP
  rw [List.length_append]
  have e : byV (l ++ utfN x) = byV l ++ byV (utfN x) := List.map_append
  rw [e]
  exact s
end Go.Proofs.YtihkhomnhggifaaGreatDoor

