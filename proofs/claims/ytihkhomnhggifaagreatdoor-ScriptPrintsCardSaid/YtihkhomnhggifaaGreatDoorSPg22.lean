/-
  Texts of the proofs, one behind the other: ScPb, ScPd, ScPf, SyDefer3, SyDefer4, ScPg.
-/
import Derived.Test.YtihkhomnhggifaaGreatDoorSPg09
import Derived.Test.YtihkhomnhggifaaGreatDoorSPg10
import Derived.Test.YtihkhomnhggifaaGreatDoorSPg13
import Derived.Test.YtihkhomnhggifaaGreatDoorSPg19
import Derived.Test.YtihkhomnhggifaaGreatDoorSPg16
import Derived.Test.YtihkhomnhggifaaGreatDoorSPg03
/-
  script: the parts of an op, told: two or three numbers at once; rows.
-/
namespace Go.Proofs.YtihkhomnhggifaaGreatDoor
open Go.RowKit
open Sy
set_option linter.unusedVariables false
set_option linter.unusedSimpArgs false
set_option maxRecDepth 100000
set_option maxHeartbeats 4000000

theorem sPartsNM {R : HP} {lb ob : Nat} {o : OpN} {v1 v2 v3 : Value} (hN : ∀ w, Sat R w → NumW w) (ws : List (List UInt8)) (hw : ws.length ≤ 1000) (ok : o.ok) (hk : o.kind = 1 ∨ o.kind = 17) :
    FnR Tryz.prog R 15 [.pointer (some ⟨lb, 0, none⟩), .pointer (some ⟨ob, 0, none⟩)] [lnH lb ws, blkH ob 30 (opC o v1 v2 v3)] fun r hs => r = .tuple #[] ∧ hs = [lnH lb (ws ++ [Lib.itoa o.n, Lib.itoa o.m]), blkH ob 30 (opC o v1 v2 v3)] := by
  unfold opC
  rcases hk with hk | hk
  all_goals
    rw [hk]
    refine fn_of_run0 false Tryz.func15 rfl hmix rfl fun w0 => ?_
    conv => whnf
    refine ⟨trivial, LoadAt.cell _ rfl rfl (fun w hw => blk_cell (hw.in_ 1 rfl) rfl) ?_⟩
    conv => whnf
    repeat (first | (refine ⟨fun _ => ?_, fun h => absurd h (by decide)⟩; conv => whnf) | (refine ⟨fun h => absurd h (by decide), fun _ => ?_⟩; conv => whnf))
    refine ⟨trivial, RegAt.groups [([.T 0, .T 1, .T 2, .T 3, .T 4, .T 5, .T 6, .H 7], 8), ([.H 8], 9)] hmix (by kernel_rfl) ?_⟩
    conv => whnf
    refine ⟨trivial, OpAt.lit (ptrV ob [(9, o.n), (10, o.m)]) 1 rfl rfl rfl rfl rfl (by decide) rfl rfl rfl (by simp [Value.cells]) rfl (by decide) fun g => ?_⟩
    conv => whnf
    refine ⟨trivial, ⟨⟨rfl, rfl⟩, fun h s => sub_tail s⟩, ?_⟩
    conv => whnf
    refine ⟨trivial, CallAt.fn (pre := [lnH lb (ws), blkH ob 30 _]) _ (fun h s => sepL_perm (List.Perm.trans (List.Perm.swap _ _ _) ((List.Perm.swap _ _ _).cons _)) s) (fun R' hR' => sNumbers (fun w s => hN w (Sat.rest (hR' w s))) (ws) [(9, o.n), (10, o.m)] rfl (by decide) (by first | omega | (simp; omega)) (Sl.row fun w s => (hR' w s).in_ 0 rfl) (fun p hp => ?_)) ?_⟩
    · simp only [List.mem_cons, List.not_mem_nil, or_false] at hp
      rcases hp with rfl | rfl
      · exact ⟨rfl, ok.n⟩
      · exact ⟨rfl, ok.m⟩
    rintro r hs ⟨rfl, rfl⟩
    conv => whnf
    refine ⟨trivial, ?_⟩
    conv => whnf
    refine ⟨trivial, .mk [lnH lb (ws ++ [Lib.itoa o.n, Lib.itoa o.m]), blkH ob 30 _] (fun w ⟨h, hs, s⟩ => by obtain ⟨h', e, s2⟩ := sub_front (m := [lnH lb (ws ++ [Lib.itoa o.n, Lib.itoa o.m]), blkH ob 30 _]) s; exact ⟨h', hs.mono e, s2⟩) ⟨rfl, ?_⟩⟩
    simp
theorem sPartsView {R : HP} {lb ob : Nat} {o : OpN} {v1 v2 v3 : Value} (hN : ∀ w, Sat R w → NumW w) (ws : List (List UInt8)) (hw : ws.length ≤ 1000) (ok : o.ok) (hk : o.kind = 13) :
    FnR Tryz.prog R 15 [.pointer (some ⟨lb, 0, none⟩), .pointer (some ⟨ob, 0, none⟩)] [lnH lb ws, blkH ob 30 (opC o v1 v2 v3)] fun r hs => r = .tuple #[] ∧ hs = [lnH lb (ws ++ ([Lib.itoa o.ax, Lib.itoa o.ay] ++ [Lib.itoa o.n, Lib.itoa o.m, Lib.itoa o.bx])), blkH ob 30 (opC o v1 v2 v3)] := by
  unfold opC
  rcases hk with hk
  all_goals
    rw [hk]
    refine fn_of_run0 false Tryz.func15 rfl hmix rfl fun w0 => ?_
    conv => whnf
    refine ⟨trivial, LoadAt.cell _ rfl rfl (fun w hw => blk_cell (hw.in_ 1 rfl) rfl) ?_⟩
    conv => whnf
    repeat (first | (refine ⟨fun _ => ?_, fun h => absurd h (by decide)⟩; conv => whnf) | (refine ⟨fun h => absurd h (by decide), fun _ => ?_⟩; conv => whnf))
    refine ⟨trivial, CallAt.fn (pre := [lnH lb ws, blkH ob 30 _]) _ (fun h s => s) (fun R' hR' => sCell (fun w s => hN w (Sat.rest (hR' w s))) ws 5 o.ax o.ay (by first | omega | (simp; omega)) rfl rfl ok.ax ok.ay) ?_⟩
    rintro r hs ⟨rfl, rfl⟩
    conv => whnf
    refine ⟨trivial, RegAt.groups [([.T 0, .T 1, .T 2, .T 3, .T 4, .T 5, .T 6, .T 7, .T 8, .T 9, .T 10, .H 11], 12), ([.H 12], 13)] hmix (by kernel_rfl) ?_⟩
    conv => whnf
    refine ⟨trivial, OpAt.lit (ptrV ob [(9, o.n), (10, o.m), (7, o.bx)]) 1 rfl rfl rfl rfl rfl (by decide) rfl rfl rfl (by simp [Value.cells]) rfl (by decide) fun g => ?_⟩
    conv => whnf
    refine ⟨trivial, ⟨⟨rfl, rfl⟩, fun h s => sub_tail s⟩, ?_⟩
    conv => whnf
    refine ⟨trivial, CallAt.fn (pre := [lnH lb (ws ++ [Lib.itoa o.ax, Lib.itoa o.ay]), blkH ob 30 _]) _ (fun h s => sepL_perm (List.Perm.trans (List.Perm.swap _ _ _) ((List.Perm.swap _ _ _).cons _)) s) (fun R' hR' => sNumbers (fun w s => hN w (Sat.rest (hR' w s))) (ws ++ [Lib.itoa o.ax, Lib.itoa o.ay]) [(9, o.n), (10, o.m), (7, o.bx)] rfl (by decide) (by first | omega | (simp; omega)) (Sl.row fun w s => (hR' w s).in_ 0 rfl) (fun p hp => ?_)) ?_⟩
    · simp only [List.mem_cons, List.not_mem_nil, or_false] at hp
      rcases hp with rfl | rfl | rfl
      · exact ⟨rfl, ok.n⟩
      · exact ⟨rfl, ok.m⟩
      · exact ⟨rfl, ok.bx⟩
    rintro r hs ⟨rfl, rfl⟩
    conv => whnf
    refine ⟨trivial, ?_⟩
    conv => whnf
    refine ⟨trivial, .mk [lnH lb (ws ++ [Lib.itoa o.ax, Lib.itoa o.ay] ++ [Lib.itoa o.n, Lib.itoa o.m, Lib.itoa o.bx]), blkH ob 30 _] (fun w ⟨h, hs, s⟩ => by obtain ⟨h', e, s2⟩ := sub_front (m := [lnH lb (ws ++ [Lib.itoa o.ax, Lib.itoa o.ay] ++ [Lib.itoa o.n, Lib.itoa o.m, Lib.itoa o.bx]), blkH ob 30 _]) s; exact ⟨h', hs.mono e, s2⟩) ⟨rfl, ?_⟩⟩
    simp
theorem sPartsSight {R : HP} {lb ob : Nat} {o : OpN} {v1 v2 v3 : Value} (hN : ∀ w, Sat R w → NumW w) (ws : List (List UInt8)) (hw : ws.length ≤ 1000) (ok : o.ok) (hk : o.kind = 12) :
    FnR Tryz.prog R 15 [.pointer (some ⟨lb, 0, none⟩), .pointer (some ⟨ob, 0, none⟩)] [lnH lb ws, blkH ob 30 (opC o v1 v2 v3)] fun r hs => r = .tuple #[] ∧ hs = [lnH lb (ws ++ ([Lib.itoa o.ax, Lib.itoa o.ay] ++ [Lib.itoa o.n] ++ [Lib.itoa o.bx, Lib.itoa o.b_y] ++ [Lib.itoa o.m])), blkH ob 30 (opC o v1 v2 v3)] := by
  unfold opC
  rcases hk with hk
  all_goals
    rw [hk]
    refine fn_of_run0 false Tryz.func15 rfl hmix rfl fun w0 => ?_
    conv => whnf
    refine ⟨trivial, LoadAt.cell _ rfl rfl (fun w hw => blk_cell (hw.in_ 1 rfl) rfl) ?_⟩
    conv => whnf
    repeat (first | (refine ⟨fun _ => ?_, fun h => absurd h (by decide)⟩; conv => whnf) | (refine ⟨fun h => absurd h (by decide), fun _ => ?_⟩; conv => whnf))
    refine ⟨trivial, CallAt.fn (pre := [lnH lb ws, blkH ob 30 _]) _ (fun h s => s) (fun R' hR' => sCell (fun w s => hN w (Sat.rest (hR' w s))) ws 5 o.ax o.ay (by first | omega | (simp; omega)) rfl rfl ok.ax ok.ay) ?_⟩
    rintro r hs ⟨rfl, rfl⟩
    conv => whnf
    refine ⟨trivial, OpAt.lit (ptrV ob [(9, o.n)]) 1 rfl rfl rfl rfl rfl (by decide) rfl rfl rfl (by simp [Value.cells]) rfl (by decide) fun g => ?_⟩
    conv => whnf
    refine ⟨trivial, CallAt.fn (pre := [lnH lb (ws ++ [Lib.itoa o.ax, Lib.itoa o.ay]), blkH ob 30 _]) _ (fun h s => sepL_perm (List.Perm.trans (List.Perm.swap _ _ _) ((List.Perm.swap _ _ _).cons _)) s) (fun R' hR' => sNumbers (fun w s => hN w (Sat.rest (hR' w s))) (ws ++ [Lib.itoa o.ax, Lib.itoa o.ay]) [(9, o.n)] rfl (by decide) (by first | omega | (simp; omega)) (Sl.row fun w s => (hR' w s).in_ 0 rfl) (fun p hp => by simp at hp; subst hp; exact ⟨rfl, ok.n⟩)) ?_⟩
    rintro r hs ⟨rfl, rfl⟩
    conv => whnf
    refine ⟨trivial, CallAt.fn (pre := [lnH lb (ws ++ [Lib.itoa o.ax, Lib.itoa o.ay] ++ [Lib.itoa o.n]), blkH ob 30 _]) _ (fun h s => s) (fun R' hR' => sCell (fun w s => hN w (Sat.rest (hR' w s))) (ws ++ [Lib.itoa o.ax, Lib.itoa o.ay] ++ [Lib.itoa o.n]) 7 o.bx o.b_y (by first | omega | (simp; omega)) rfl rfl ok.bx ok.b_y) ?_⟩
    rintro r hs ⟨rfl, rfl⟩
    conv => whnf
    refine ⟨trivial, OpAt.lit (ptrV ob [(10, o.m)]) 1 rfl rfl rfl rfl rfl (by decide) rfl rfl rfl (by simp [Value.cells]) rfl (by decide) fun g => ?_⟩
    conv => whnf
    refine ⟨trivial, CallAt.fn (pre := [lnH lb (ws ++ [Lib.itoa o.ax, Lib.itoa o.ay] ++ [Lib.itoa o.n] ++ [Lib.itoa o.bx, Lib.itoa o.b_y]), blkH ob 30 _]) _ (fun h s => sepL_perm (List.Perm.trans (List.Perm.swap _ _ _) ((List.Perm.swap _ _ _).cons _)) s) (fun R' hR' => sNumbers (fun w s => hN w (Sat.rest (hR' w s))) (ws ++ [Lib.itoa o.ax, Lib.itoa o.ay] ++ [Lib.itoa o.n] ++ [Lib.itoa o.bx, Lib.itoa o.b_y]) [(10, o.m)] rfl (by decide) (by first | omega | (simp; omega)) (Sl.row fun w s => (hR' w s).in_ 0 rfl) (fun p hp => by simp at hp; subst hp; exact ⟨rfl, ok.m⟩)) ?_⟩
    rintro r hs ⟨rfl, rfl⟩
    conv => whnf
    refine ⟨trivial, .mk [lnH lb (ws ++ [Lib.itoa o.ax, Lib.itoa o.ay] ++ [Lib.itoa o.n] ++ [Lib.itoa o.bx, Lib.itoa o.b_y] ++ [Lib.itoa o.m]), blkH ob 30 _] (fun w ⟨h, hs, s⟩ => by obtain ⟨h', e, s2⟩ := sub_front (m := [lnH lb (ws ++ [Lib.itoa o.ax, Lib.itoa o.ay] ++ [Lib.itoa o.n] ++ [Lib.itoa o.bx, Lib.itoa o.b_y] ++ [Lib.itoa o.m]), blkH ob 30 _]) s; exact ⟨h', hs.mono e, s2⟩) ⟨rfl, ?_⟩⟩
    simp
theorem sPartsNone {R : HP} {lb ob : Nat} {o : OpN} {v1 v2 v3 : Value} (hN : ∀ w, Sat R w → NumW w) (ws : List (List UInt8)) (hw : ws.length ≤ 1000) (ok : o.ok) (hk : o.kind = 18 ∨ o.kind = 19 ∨ o.kind = 25 ∨ o.kind = 26) :
    FnR Tryz.prog R 15 [.pointer (some ⟨lb, 0, none⟩), .pointer (some ⟨ob, 0, none⟩)] [lnH lb ws, blkH ob 30 (opC o v1 v2 v3)] fun r hs => r = .tuple #[] ∧ hs = [lnH lb (ws ++ ([] : List (List UInt8))), blkH ob 30 (opC o v1 v2 v3)] := by
  unfold opC
  rcases hk with hk | hk | hk | hk
  all_goals
    rw [hk]
    refine fn_of_run0 false Tryz.func15 rfl hmix rfl fun w0 => ?_
    conv => whnf
    refine ⟨trivial, LoadAt.cell _ rfl rfl (fun w hw => blk_cell (hw.in_ 1 rfl) rfl) ?_⟩
    conv => whnf
    repeat (first | (refine ⟨fun _ => ?_, fun h => absurd h (by decide)⟩; conv => whnf) | (refine ⟨fun h => absurd h (by decide), fun _ => ?_⟩; conv => whnf))
    exact ⟨trivial, .mk _ (fun w s => s) ⟨rfl, by simp⟩⟩
end Go.Proofs.YtihkhomnhggifaaGreatDoor

/-
  script: an op's parts with a list or a legend, told; bytes told.
-/
namespace Go.Proofs.YtihkhomnhggifaaGreatDoor
open Go.RowKit
open Sy
set_option linter.unusedVariables false
set_option linter.unusedSimpArgs false
set_option maxRecDepth 100000
set_option maxHeartbeats 4000000

theorem sPartsPaste {R : HP} {lb ob : Nat} {o : OpN} {v2 v3 : Value} {A : Option Addr} {n c : Nat} (hN : ∀ w, Sat R w → NumW w) (hM : ∀ w, Sat R w → MaxW w) (ws : List (List UInt8)) (hw : ws.length ≤ 1000) (ok : o.ok) (hk : o.kind = 4) (l : List Int) (hl : l.length = n) (hn : n ≤ 40000) (hi : ∀ x ∈ l, I64 x) (ha : Sl R A n 1 (l.flatMap numL)) :
    FnR Tryz.prog R 15 [.pointer (some ⟨lb, 0, none⟩), .pointer (some ⟨ob, 0, none⟩)] [lnH lb ws, blkH ob 30 (opC o (.slice A n c) v2 v3)] fun r hs => r = .tuple #[] ∧ ∃ cs, hs = [lnH lb (ws ++ ([Lib.itoa o.x0, Lib.itoa o.y0, Lib.itoa o.x1, Lib.itoa o.y1] ++ [listW l])), blkH ob 30 cs] := by
  unfold opC
  rw [hk]
  refine fn_of_run0 false Tryz.func15 rfl hmix rfl fun w0 => ?_
  conv => whnf
  refine ⟨trivial, LoadAt.cell _ rfl rfl (fun w hw => blk_cell (hw.in_ 1 rfl) rfl) ?_⟩
  conv => whnf
  repeat (first | (refine ⟨fun _ => ?_, fun h => absurd h (by decide)⟩; conv => whnf) | (refine ⟨fun h => absurd h (by decide), fun _ => ?_⟩; conv => whnf))
  refine ⟨trivial, CallAt.fn (pre := [lnH lb ws, blkH ob 30 _]) _ (fun h s => s) (fun R' hR' => sRect (fun w s => hN w (Sat.rest (hR' w s))) ws 1 o.x0 o.y0 o.x1 o.y1 (by first | omega | (simp; omega)) rfl rfl rfl rfl ok.x0 ok.y0 ok.x1 ok.y1) ?_⟩
  rintro r hs ⟨rfl, rfl⟩
  conv => whnf
  refine ⟨trivial, CallAt.fn (pre := [lnH lb (ws ++ [Lib.itoa o.x0, Lib.itoa o.y0, Lib.itoa o.x1, Lib.itoa o.y1]), blkH ob 30 _]) _ (fun h s => s) (fun R' hR' => sList (fun w s => hN w (Sat.rest (hR' w s))) (fun w s => hM w (Sat.rest (hR' w s))) (ws ++ [Lib.itoa o.x0, Lib.itoa o.y0, Lib.itoa o.x1, Lib.itoa o.y1]) 11 l (by simp; omega) rfl hl hn hi (ha.mono fun w s => Sat.rest (hR' w s))) ?_⟩
  rintro r hs ⟨rfl, v, rfl⟩
  conv => whnf
  exact ⟨trivial, .mk _ (fun w s => s) ⟨rfl, _, congrArg (fun z => [lnH lb z, blkH ob 30 _]) (List.append_assoc _ _ _)⟩⟩
theorem sPartsDraw {R : HP} {lb ob : Nat} {o : OpN} {v1 v2 : Value} {A : Option Addr} {n c : Nat} (hW : ∀ w, Sat R w → ReadW w) (ws : List (List UInt8)) (hw : ws.length ≤ 1000) (ok : o.ok) (hk : o.kind = 27) (l : List Bd) (hn : n ≤ 9223372036854775807) (hc : n ≤ c) (ha : Sl R A n 2 (bcel l)) (hR : RightL l) :
    FnR Tryz.prog R 15 [.pointer (some ⟨lb, 0, none⟩), .pointer (some ⟨ob, 0, none⟩)] [lnH lb ws, blkH ob 30 (opC o v1 v2 (.slice A n c))] fun r hs => r = .tuple #[] ∧ ∃ cs, hs = [lnH lb (ws ++ ([Lib.itoa o.x0, Lib.itoa o.y0, Lib.itoa o.x1, Lib.itoa o.y1] ++ [printT l])), blkH ob 30 cs] := by
  have hN : ∀ w, Sat R w → NumW w := fun w s => (hW w s).1
  unfold opC
  rw [hk]
  refine fn_of_run0 false Tryz.func15 rfl hmix rfl fun w0 => ?_
  conv => whnf
  refine ⟨trivial, LoadAt.cell _ rfl rfl (fun w hw => blk_cell (hw.in_ 1 rfl) rfl) ?_⟩
  conv => whnf
  repeat (first | (refine ⟨fun _ => ?_, fun h => absurd h (by decide)⟩; conv => whnf) | (refine ⟨fun h => absurd h (by decide), fun _ => ?_⟩; conv => whnf))
  refine ⟨trivial, CallAt.fn (pre := [lnH lb ws, blkH ob 30 _]) _ (fun h s => s) (fun R' hR' => sRect (fun w s => hN w (Sat.rest (hR' w s))) ws 1 o.x0 o.y0 o.x1 o.y1 (by first | omega | (simp; omega)) rfl rfl rfl rfl ok.x0 ok.y0 ok.x1 ok.y1) ?_⟩
  rintro r hs ⟨rfl, rfl⟩
  conv => whnf
  refine ⟨trivial, CallAt.fn (pre := [lnH lb (ws ++ [Lib.itoa o.x0, Lib.itoa o.y0, Lib.itoa o.x1, Lib.itoa o.y1]), blkH ob 30 _]) _ (fun h s => s) (fun R' hR' => sLegend (fun w s => hW w (Sat.rest (hR' w s))) (ws ++ [Lib.itoa o.x0, Lib.itoa o.y0, Lib.itoa o.x1, Lib.itoa o.y1]) 13 (by simp; omega) rfl hn hc (ha.mono fun w s => Sat.rest (hR' w s)) hR) ?_⟩
  rintro r hs ⟨rfl, v, rfl⟩
  conv => whnf
  exact ⟨trivial, .mk _ (fun w s => s) ⟨rfl, _, congrArg (fun z => [lnH lb z, blkH ob 30 _]) (List.append_assoc _ _ _)⟩⟩
end Go.Proofs.YtihkhomnhggifaaGreatDoor

/-
  script: an op's parts told: all kinds; a legend that is none.
-/
namespace Go.Proofs.YtihkhomnhggifaaGreatDoor
open Go.RowKit
open Sy
set_option linter.unusedVariables false
set_option linter.unusedSimpArgs false
set_option maxRecDepth 100000
set_option maxHeartbeats 4000000

theorem toldN {R : HP} {q : OpA} {x : OpF} {lb ob : Nat} (hW : ∀ w, Sat R w → ReadW w) (ok : x.ok) (few : x.few) (hl : HasLine x) (hS : OpS R q x) (z : List UInt8) :
    FnR Tryz.prog R 15 [.pointer (some ⟨lb, 0, none⟩), .pointer (some ⟨ob, 0, none⟩)] [lnH lb [z], blkH ob 30 (opCs q x)] fun r hs => r = .tuple #[] ∧ ∃ cs, hs = [lnH lb (z :: opW x), blkH ob 30 cs] := by
  obtain ⟨h1, h2, h3⟩ := hl
  have f1 := few.vals
  have f2 := few.byts
  have f3 := few.bands
  have hN : ∀ w, Sat R w → NumW w := fun w s => (hW w s).1
  have hM : ∀ w, Sat R w → MaxW w := fun w s => (hW w s).2
  obtain ⟨⟨kind, x0, y0, x1, y1, ax, ay, bx, b_y, n, m⟩, vals, byts, bands⟩ := x
  have ko := ok.o
  have kv := ok.vals
  have s1 := hS.vals
  have s2 := hS.byts
  have s3 := hS.bands
  have k3 := hS.k3
  simp only [maxLen] at k3
  simp only at *
  rcases kinds27 h1 h2 with rfl | rfl | rfl | rfl | rfl | rfl | rfl | rfl | rfl | rfl | rfl | rfl | rfl | rfl | rfl | rfl | rfl | rfl | rfl | rfl | rfl | rfl | rfl | rfl | rfl | rfl | rfl
  · exact (sPartsNM (R := R) (o := ⟨1, x0, y0, x1, y1, ax, ay, bx, b_y, n, m⟩) hN [z] (by simp) ko (by simp)).post fun v hs ⟨e1, e2⟩ => ⟨hs, ⟨e1, _, e2⟩, fun h s => s⟩
  · exact (sPartsAN (R := R) (o := ⟨2, x0, y0, x1, y1, ax, ay, bx, b_y, n, m⟩) hN [z] (by simp) ko rfl).post fun v hs ⟨e1, e2⟩ => ⟨hs, ⟨e1, _, e2⟩, fun h s => s⟩
  · exact (sPartsRN (R := R) (o := ⟨3, x0, y0, x1, y1, ax, ay, bx, b_y, n, m⟩) hN [z] (by simp) ko (by simp)).post fun v hs ⟨e1, e2⟩ => ⟨hs, ⟨e1, _, e2⟩, fun h s => s⟩
  · exact (sPartsPaste (R := R) (o := ⟨4, x0, y0, x1, y1, ax, ay, bx, b_y, n, m⟩) hN hM [z] (by simp) ko rfl vals rfl (by omega) kv s1).post fun v hs ⟨e1, cs, e2⟩ => ⟨hs, ⟨e1, cs, e2⟩, fun h s => s⟩
  · exact (sPartsRN (R := R) (o := ⟨5, x0, y0, x1, y1, ax, ay, bx, b_y, n, m⟩) hN [z] (by simp) ko (by simp)).post fun v hs ⟨e1, e2⟩ => ⟨hs, ⟨e1, _, e2⟩, fun h s => s⟩
  · exact (sPartsA (R := R) (o := ⟨6, x0, y0, x1, y1, ax, ay, bx, b_y, n, m⟩) hN [z] (by simp) ko (by simp)).post fun v hs ⟨e1, e2⟩ => ⟨hs, ⟨e1, _, e2⟩, fun h s => s⟩
  · exact (sPartsR (R := R) (o := ⟨7, x0, y0, x1, y1, ax, ay, bx, b_y, n, m⟩) hN [z] (by simp) ko (by simp)).post fun v hs ⟨e1, e2⟩ => ⟨hs, ⟨e1, _, e2⟩, fun h s => s⟩
  · exact (sPartsR (R := R) (o := ⟨8, x0, y0, x1, y1, ax, ay, bx, b_y, n, m⟩) hN [z] (by simp) ko (by simp)).post fun v hs ⟨e1, e2⟩ => ⟨hs, ⟨e1, _, e2⟩, fun h s => s⟩
  · exact (sPartsR (R := R) (o := ⟨9, x0, y0, x1, y1, ax, ay, bx, b_y, n, m⟩) hN [z] (by simp) ko (by simp)).post fun v hs ⟨e1, e2⟩ => ⟨hs, ⟨e1, _, e2⟩, fun h s => s⟩
  · exact (sPartsRN (R := R) (o := ⟨10, x0, y0, x1, y1, ax, ay, bx, b_y, n, m⟩) hN [z] (by simp) ko (by simp)).post fun v hs ⟨e1, e2⟩ => ⟨hs, ⟨e1, _, e2⟩, fun h s => s⟩
  · exact (sPartsRN (R := R) (o := ⟨11, x0, y0, x1, y1, ax, ay, bx, b_y, n, m⟩) hN [z] (by simp) ko (by simp)).post fun v hs ⟨e1, e2⟩ => ⟨hs, ⟨e1, _, e2⟩, fun h s => s⟩
  · exact (sPartsSight (R := R) (o := ⟨12, x0, y0, x1, y1, ax, ay, bx, b_y, n, m⟩) hN [z] (by simp) ko rfl).post fun v hs ⟨e1, e2⟩ => ⟨hs, ⟨e1, _, e2⟩, fun h s => s⟩
  · exact (sPartsView (R := R) (o := ⟨13, x0, y0, x1, y1, ax, ay, bx, b_y, n, m⟩) hN [z] (by simp) ko rfl).post fun v hs ⟨e1, e2⟩ => ⟨hs, ⟨e1, _, e2⟩, fun h s => s⟩
  · exact (sPartsN (R := R) (o := ⟨14, x0, y0, x1, y1, ax, ay, bx, b_y, n, m⟩) hN [z] (by simp) ko (by simp)).post fun v hs ⟨e1, e2⟩ => ⟨hs, ⟨e1, _, e2⟩, fun h s => s⟩
  · exact (sPartsA (R := R) (o := ⟨15, x0, y0, x1, y1, ax, ay, bx, b_y, n, m⟩) hN [z] (by simp) ko (by simp)).post fun v hs ⟨e1, e2⟩ => ⟨hs, ⟨e1, _, e2⟩, fun h s => s⟩
  · exact (sPartsAB (R := R) (o := ⟨16, x0, y0, x1, y1, ax, ay, bx, b_y, n, m⟩) hN [z] (by simp) ko rfl).post fun v hs ⟨e1, e2⟩ => ⟨hs, ⟨e1, _, e2⟩, fun h s => s⟩
  · exact (sPartsNM (R := R) (o := ⟨17, x0, y0, x1, y1, ax, ay, bx, b_y, n, m⟩) hN [z] (by simp) ko (by simp)).post fun v hs ⟨e1, e2⟩ => ⟨hs, ⟨e1, _, e2⟩, fun h s => s⟩
  · exact (sPartsNone (R := R) (o := ⟨18, x0, y0, x1, y1, ax, ay, bx, b_y, n, m⟩) hN [z] (by simp) ko (by simp)).post fun v hs ⟨e1, e2⟩ => ⟨hs, ⟨e1, _, e2⟩, fun h s => s⟩
  · exact (sPartsNone (R := R) (o := ⟨19, x0, y0, x1, y1, ax, ay, bx, b_y, n, m⟩) hN [z] (by simp) ko (by simp)).post fun v hs ⟨e1, e2⟩ => ⟨hs, ⟨e1, _, e2⟩, fun h s => s⟩
  · exact (sPartsR (R := R) (o := ⟨20, x0, y0, x1, y1, ax, ay, bx, b_y, n, m⟩) hN [z] (by simp) ko (by simp)).post fun v hs ⟨e1, e2⟩ => ⟨hs, ⟨e1, _, e2⟩, fun h s => s⟩
  · exact (sPartsR (R := R) (o := ⟨21, x0, y0, x1, y1, ax, ay, bx, b_y, n, m⟩) hN [z] (by simp) ko (by simp)).post fun v hs ⟨e1, e2⟩ => ⟨hs, ⟨e1, _, e2⟩, fun h s => s⟩
  · exact (sPartsR (R := R) (o := ⟨22, x0, y0, x1, y1, ax, ay, bx, b_y, n, m⟩) hN [z] (by simp) ko (by simp)).post fun v hs ⟨e1, e2⟩ => ⟨hs, ⟨e1, _, e2⟩, fun h s => s⟩
  · exact (sPartsN (R := R) (o := ⟨23, x0, y0, x1, y1, ax, ay, bx, b_y, n, m⟩) hN [z] (by simp) ko (by simp)).post fun v hs ⟨e1, e2⟩ => ⟨hs, ⟨e1, _, e2⟩, fun h s => s⟩
  · exact (sPartsLoad (R := R) (o := ⟨24, x0, y0, x1, y1, ax, ay, bx, b_y, n, m⟩) [z] (by simp) rfl byts rfl (by omega) s2).post fun v hs ⟨e1, cs, e2⟩ => ⟨hs, ⟨e1, cs, e2⟩, fun h s => s⟩
  · exact (sPartsNone (R := R) (o := ⟨25, x0, y0, x1, y1, ax, ay, bx, b_y, n, m⟩) hN [z] (by simp) ko (by simp)).post fun v hs ⟨e1, e2⟩ => ⟨hs, ⟨e1, _, e2⟩, fun h s => s⟩
  · exact (sPartsNone (R := R) (o := ⟨26, x0, y0, x1, y1, ax, ay, bx, b_y, n, m⟩) hN [z] (by simp) ko (by simp)).post fun v hs ⟨e1, e2⟩ => ⟨hs, ⟨e1, _, e2⟩, fun h s => s⟩
  · exact (sPartsDraw (R := R) (o := ⟨27, x0, y0, x1, y1, ax, ay, bx, b_y, n, m⟩) hW [z] (by simp) ko rfl bands (by omega) k3.1 s3 (h3 rfl)).post fun v hs ⟨e1, cs, e2⟩ => ⟨hs, ⟨e1, cs, e2⟩, fun h s => s⟩
def thrown13 : List PanicEntry := [{ v := .iface 72 (.agg #[.int .i64 13]), recovered := false }]
abbrev isThrown13 (ch : List PanicEntry) : Prop := ch = thrown13
theorem sLegendTNo {R : HP} {lb b : Nat} {tb : TypeId} {cs : Array Value} {A : Option Addr} {n c : Nat} {l : List Bd} (ws : List (List UInt8)) (k : Nat) (hk : cs[k]? = some (.slice A n c)) (hn : n ≤ 9223372036854775807) (hc : n ≤ c) (ha : Sl R A n 2 (bcel l)) (hR : ¬ RightL l) :
    PanR Tryz.prog R 36 [.pointer (some ⟨lb, 0, none⟩), .pointer (some ⟨b, k, none⟩)] [lnH lb ws, blkH b tb cs] isThrown13 R := by
  have hpr := fun R' (h : ∀ w, Sat R' w → Sat R w) => sTPrintNo (R := R') hn hc (ha.mono h) hR
  have key : ∀ x : Option Addr × Nat, PanR Tryz.prog R 36 [.pointer (some ⟨lb, 0, none⟩), .pointer (some ⟨b, k, none⟩)] (lnP lb ws x ++ [blkH b tb cs]) isThrown13 R := by
    rintro ⟨A1, c1⟩
    refine pan_of_run0 _ _ false Tryz.func36 rfl hmix rfl fun w0 => ?_
    conv => whnf
    refine ⟨trivial, LoadAt.cell (.bool false) rfl rfl (fun w hw => blk_cell (hw.in_ 0 rfl) rfl) ?_⟩
    conv => whnf
    refine iff_t rfl ?_
    conv => whnf
    refine ⟨trivial, LoadAt.cell (.slice A n c) rfl rfl (fun w hw => blk_cell (hw.in_ 2 rfl) hk) ?_⟩
    conv => whnf
    refine ⟨trivial, CallAt.pure (fun R' hR' => hpr R' fun w s => Sat.rest (hR' w s)) ?_⟩
    conv => whnf
    refine iff_t rfl ?_
    conv => whnf
    exact ⟨trivial, OpAt.panic 72 (.agg #[.int .i64 13]) rfl rfl rfl rfl (fun w s => s.rest) trivial⟩
  rintro w ⟨g, g1, s⟩
  obtain ⟨x, s⟩ := boxH_open s
  exact key x w ⟨g, g1, s⟩
theorem toldNo {R : HP} {q : OpA} {x : OpF} {lb ob : Nat} (hN : ∀ w, Sat R w → NumW w) (ok : x.ok) (hk : x.o.kind = 27) (hR : ¬ RightL x.bands) (hS : OpS R q x) (z : List UInt8) :
    PanR Tryz.prog R 15 [.pointer (some ⟨lb, 0, none⟩), .pointer (some ⟨ob, 0, none⟩)] [lnH lb [z], blkH ob 30 (opCs q x)] isThrown13 R := by
  have s3 := hS.bands
  have k3 := hS.k3
  simp only [maxLen] at k3
  unfold opCs opC
  rw [hk]
  refine pan_of_run0 _ _ false Tryz.func15 rfl hmix rfl fun w0 => ?_
  conv => whnf
  refine ⟨trivial, LoadAt.cell _ rfl rfl (fun w hw => blk_cell (hw.in_ 1 rfl) rfl) ?_⟩
  conv => whnf
  repeat (first | (refine ⟨fun _ => ?_, fun h => absurd h (by decide)⟩; conv => whnf) | (refine ⟨fun h => absurd h (by decide), fun _ => ?_⟩; conv => whnf))
  refine ⟨trivial, CallAt.fn (pre := [lnH lb [z], blkH ob 30 _]) _ (fun h s => s) (fun R' hR' => sRect (fun w s => hN w (Sat.rest (hR' w s))) [z] 1 x.o.x0 x.o.y0 x.o.x1 x.o.y1 (by simp) rfl rfl rfl rfl ok.o.x0 ok.o.y0 ok.o.x1 ok.o.y1) ?_⟩
  rintro r hs ⟨rfl, rfl⟩
  conv => whnf
  exact ⟨trivial, CallAt.panT (pre := [lnH lb ([z] ++ [Lib.itoa x.o.x0, Lib.itoa x.o.y0, Lib.itoa x.o.x1, Lib.itoa x.o.y1]), blkH ob 30 _]) _ (fun h s => s) (fun R' hR' => sLegendTNo _ 13 rfl (by omega) k3.1 (s3.mono fun w s => Sat.rest (hR' w s)) hR) (fun ch h => h) (fun w s => s.rest) trivial⟩
end Go.Proofs.YtihkhomnhggifaaGreatDoor

/-
  Symbolic runs: a function that defers a call behind a test.
-/
namespace Go.Proofs.YtihkhomnhggifaaGreatDoor
open Go.RowKit
namespace Sy
set_option linter.unusedVariables false
set_option linter.unusedSimpArgs false
set_option maxRecDepth 100000
set_option maxHeartbeats 4000000

theorem fn_of_defer3 {P : Program} {R : HP} {f : FuncId} {fn : Func} {id : Nat} {os : Array Oper} {c0 c1 rest : Code} {args : List Value} {pre : List HP} {post : Value → List HP → Prop} {os1 : List Oper} {od : Oper} {x : Operand} (tr : Bool)
    (hf : P.funcs[f]? = some fn) (hb : fn.body = some (.seq c0 (.seq c1 (.seq (.region id os false) rest)))) (hm : P.follows .mixedOrders = true) (hN : Nat.ble args.length fn.ntmps = true)
    (hos : os.toList = os1 ++ [od]) (hod : od.op = .defer { callee := .value x, args := #[], argTypes := #[] }) (hdst : od.dst = none) (hgd : od.guard = none)
    (h : ∀ w0, run (gl P R w0 fn.ntmps tr []) c0 ⟨startT 0 (toSVs args), [], 0, pre, True⟩ (fun st => run (gl P R w0 fn.ntmps tr []) c1 st (fun st => opsG (op1 (gl P R w0 fn.ntmps tr [])) (gl P R w0 fn.ntmps tr []) (os1 ++ [od]) os1 st fun st => stp st fun st => DefAt P R w0 tr fn x rest st post) (fun _ _ => False) (fun _ => False)) (fun _ _ => False) (fun _ => False)) :
    FnR P R f args pre post := by
  intro w hs
  have hN := Nat.le_of_ble_eq_true hN
  refine calls_of_wp_defers hf hb (wp_seq ?_)
  have nox : ∀ {Q : Exit → Act → World → Prop} e a w', PXE (gl P R w fn.ntmps tr []) e a w' → Q e a w' := fun e a w' hp => by obtain ⟨_, _, _, _, hf, _⟩ := hp; exact hf.elim
  have good0 : Good fun st => stp st fun st => DefAt P R w tr fn x rest st post := fun st h => (stp_iff.1 h).1
  have ops : ∀ {st : St}, (opsG (op1 (gl P R w fn.ntmps tr [])) (gl P R w fn.ntmps tr []) (os1 ++ [od]) os1 st fun st => stp st fun st => DefAt P R w tr fn x rest st post) → _ := fun {st} k => ops_sound (G := gl P R w fn.ntmps tr []) (step := op1 (gl P R w fn.ntmps tr [])) (fun h hK => op1_sound h hK) k good0
  have mid1 : ∀ {st : St}, (run (gl P R w fn.ntmps tr []) c1 st (fun st => opsG (op1 (gl P R w fn.ntmps tr [])) (gl P R w fn.ntmps tr []) (os1 ++ [od]) os1 st fun st => stp st fun st => DefAt P R w tr fn x rest st post) (fun _ _ => False) (fun _ => False)) → _ := fun {st} k => run_sound (G := gl P R w fn.ntmps tr []) hm c1 k (fun st h => (ops h).1) (fun _ _ h => h.elim) (fun _ h => h.elim)
  have hr0 := run_sound (G := gl P R w fn.ntmps tr []) hm c0 (h w) (fun st h => (mid1 h).1) (fun _ _ h => h.elim) (fun _ h => h.elim)
  refine hr0.2 [] _ w _ nox (start_tm (N := fn.ntmps) hN rfl rfl rfl) (start_mem rfl rfl hs) (fun st ρ a w1 k m mm => ?_) (fun _ _ _ _ _ h => h.elim) (fun _ _ _ _ h => h.elim)
  refine wp_seq ?_
  refine (mid1 k).2 ρ a w1 _ nox m mm (fun st ρ a w1 k m mm => ?_) (fun _ _ _ _ _ h => h.elim) (fun _ _ _ _ h => h.elim)
  refine wp_seq (wp_region_list ?_)
  rw [hos]
  have hosa : os = (os1 ++ [od]).toArray := by rw [← hos]
  refine wpList_append ?_
  rw [hosa]
  refine (ops k).2 ρ a w1 _ nox m mm (fun st2 ρ2 a2 w2 k2 m2 mm2 => ?_)
  obtain ⟨_, ⟨g, caps, X, RX, AX, mid, hx, hr, hd, k3⟩⟩ := stp_iff.1 k2
  show wpList P _ _ [od] a2 w2
  unfold wpList
  rw [if_pos (wanted_none hgd _)]
  left
  unfold Oper.wp
  have hev : a2.eval x = .func (.func g) #[] caps.toArray := by
    rw [isR_sound hr (m2.same (st' := { st2 with c := True }) rfl), hx]
  have hrun : (execOp a2.eval od).run P w2 = .ok (.defer (dfr g caps)) w2 := by
    simp [execOp, hod, resolve, hev, Deferred.ofValue, dfr]
  rw [hrun]
  simp only [Oper.upon, hdst]
  have m3 : Tm (glD P R w fn.ntmps tr [] (dfr g caps) X RX AX) { st2 with c := True } ρ2 { a2 with defers := dfr g caps :: a2.defers } := by
    refine ⟨m2.size, ?_, m2.get⟩
    show dfr g caps :: a2.defers = [dfr g caps]
    rw [m2.defs]
    rfl
  have mm3 : Mem (glD P R w fn.ntmps tr [] (dfr g caps) X RX AX) { st2 with c := True } ρ2 w2 := ⟨mm2.wd, mm2.len, mm2.nd, mm2.lt, mm2.no, mm2.ob, mm2.kn, mm2.hp⟩
  have hr1 := run_sound (G := glD P R w fn.ntmps tr [] (dfr g caps) X RX AX) hm rest k3 good_end (fun _ _ h => h.elim) good_end
  have fin : ∀ st ρ a w', endK (glD P R w fn.ntmps tr [] (dfr g caps) X RX AX) mid st → Tm (glD P R w fn.ntmps tr [] (dfr g caps) X RX AX) st ρ a → Mem (glD P R w fn.ntmps tr [] (dfr g caps) X RX AX) st ρ w' → Leaves P fn a.tmps (fun e w' => ∃ v hs, e = .returned v ∧ post v hs ∧ Sat (sepL hs R) w' ∧ Wd w w') a.defers .returning w' := by
    intro st ρ a w' k m mm
    obtain ⟨hs, k1, k2, k3⟩ := endK_sound k m mm
    rw [show a.defers = [dfr g caps] from m.defs]
    exact hd.ret hs k1 w' a k2 mm.wd k3
  refine hr1.2 ρ2 _ w2 _ (fun e a w' hp => ?_) m3 mm3 fin (fun _ _ _ _ _ h => h.elim) fin
  obtain ⟨ch, rfl, h1, h2, h3, h4, h5⟩ := hp
  show Leaves P fn a.tmps _ a.defers (.panicking ch) w'
  rw [h1]
  exact hd.pan ch h3 w' a h4 h5 h2

end Sy
end Go.Proofs.YtihkhomnhggifaaGreatDoor

/-
  Symbolic runs: a deferred function that recovers and calls, and nothing else.
-/
namespace Go.Proofs.YtihkhomnhggifaaGreatDoor
open Go.RowKit
namespace Sy
set_option linter.unusedVariables false
set_option linter.unusedSimpArgs false
set_option maxRecDepth 100000
set_option maxHeartbeats 4000000

theorem cls_of_run3 {P : Program} {R : HP} {f : FuncId} {fn : Func} {id d : Nat} {orec o2 : Oper} {args : List Value} {pre : List HP} {mid : List HP → Prop} {u u' : FrameMode} {r : Value} (tr : Bool)
    (hf : P.funcs[f]? = some fn) (hb : fn.body = some (.region id #[orec, o2] false)) (hm : P.follows .mixedOrders = true) (hN : Nat.ble args.length fn.ntmps = true) (hres : fn.results = #[])
    (ho : orec.op = .call { callee := .builtin .recover, args := #[], argTypes := #[] }) (hg : orec.guard = none) (hdst : orec.dst = some d) (hg2 : o2.guard = none) (hu : RecAt u r u')
    (h : ∀ w0, putK (gl P R w0 fn.ntmps tr []) ⟨startT 0 (toSVs args), [], 0, pre, True⟩ (some d) (.v r) none fun st => op1 (gl P R w0 fn.ntmps tr []) o2 st fun st => endK (gl P R w0 fn.ntmps tr []) mid st) :
    ∀ w, Sat (sepL pre R) w → CallsD P f args.toArray u w fun e x w' => (∃ v, e = .returned v) ∧ x = u' ∧ ∃ hs, mid hs ∧ Sat (sepL hs R) w' ∧ Wd w w' := by
  intro w hs
  have hN := Nat.le_of_ble_eq_true hN
  refine callsD_of_wpS hf hb fun c₀ cs hc => ?_
  refine wpS_region ?_
  have hG1 : Good fun st => op1 (gl P R w fn.ntmps tr []) o2 st fun st => endK (gl P R w fn.ntmps tr []) mid st := fun st h => (op1_sound h good_end).1
  obtain ⟨_, hp⟩ := putK_sound (h w) hG1
  obtain ⟨st', k, m', mm'⟩ := hp [] _ w r rfl (start_tm (N := fn.ntmps) hN rfl rfl rfl) (start_mem (G := gl P R w fn.ntmps tr []) rfl rfl hs)
  have hres2 : ∀ (tmps : Array Value) (w' : World), (results fn tmps).run P w' = .ok (.tuple #[]) w' := fun tmps w' => results_run (vs := []) (by rw [hres]; rfl)
  have fin : ∀ cs' : List Frame, cs' = { c₀ with mode := u' } :: cs → ∀ (e : Exit), (e = .normal ∨ e = .ret) → ∀ st ρ a w', endK (gl P R w fn.ntmps tr []) mid st → Tm (gl P R w fn.ntmps tr []) st ρ a → Mem (gl P R w fn.ntmps tr []) st ρ w' →
      bodyPostS P fn c₀ cs (fun e x w' => (∃ v, e = .returned v) ∧ x = u' ∧ ∃ hs, mid hs ∧ Sat (sepL hs R) w' ∧ Wd w w') e a cs' w' := by
    rintro cs' rfl e he st ρ a w' k m mm
    obtain ⟨hs, k1, k2, _⟩ := endK_sound k m mm
    rcases he with rfl | rfl
    · exact ⟨m.defs, u', rfl, _, hres2 _ _, ⟨_, rfl⟩, rfl, hs, k1, k2, mm.wd⟩
    · exact ⟨m.defs, u', rfl, _, hres2 _ _, ⟨_, rfl⟩, rfl, hs, k1, k2, mm.wd⟩
  have go : ∀ cs' : List Frame, cs' = { c₀ with mode := u' } :: cs → wpOpsS P #[orec, o2] (bodyPostS P fn c₀ cs fun e x w' => (∃ v, e = .returned v) ∧ x = u' ∧ ∃ hs, mid hs ∧ Sat (sepL hs R) w' ∧ Wd w w') [1] (Act.put { tmps := args.toArray ++ Array.replicate (fn.ntmps - args.toArray.size) undef, defers := [] } (some d) r) cs' w := by
    intro cs' hcs
    have W := (op1_sound k good_end).2 [] _ w (fun e a' w' => (bodyPostS P fn c₀ cs fun e x w' => (∃ v, e = .returned v) ∧ x = u' ∧ ∃ hs, mid hs ∧ Sat (sepL hs R) w' ∧ Wd w w') e a' cs' w') (fun e a w' hp => by obtain ⟨_, _, _, _, hf, _⟩ := hp; exact hf.elim) m' mm'
    have W2 := Oper.wp_mono (K' := fun a' w' => wpOpsS P #[orec, o2] (bodyPostS P fn c₀ cs fun e x w' => (∃ v, e = .returned v) ∧ x = u' ∧ ∃ hs, mid hs ∧ Sat (sepL hs R) w' ∧ Wd w w') [] a' cs' w') (fun a' w1 ⟨st2, ρ2, k2, m2, mm2⟩ => by
      exact fin cs' hcs .normal (.inl rfl) st2 ρ2 a' w1 k2 m2 mm2) W
    unfold wpOpsS
    have e2 : (#[orec, o2] : Array Oper)[1]? = some o2 := rfl
    simp only [e2, wanted_none hg2, if_true]
    have W3 : Oper.upon P o2 (Act.put { tmps := args.toArray ++ Array.replicate (fn.ntmps - args.toArray.size) undef, defers := [] } (some d) r) _ _ ((execOp (Act.put { tmps := args.toArray ++ Array.replicate (fn.ntmps - args.toArray.size) undef, defers := [] } (some d) r).eval o2).run P w) := W2
    split
    · rename_i w1 heq
      rw [heq] at W3
      exact W3.elim
    · exact W3
  have hrun : ∀ ev : Operand → Value, (execOp ev orec).run P w = .ok .recover w := fun ev => by
    simp [execOp, ho, resolve, invoke, builtin]
  have hwt : ∀ y, Region.wanted orec y = true := fun y => wanted_none hg y
  show wpOpsS P #[orec, o2] _ [0, 1] _ _ w
  unfold wpOpsS
  have e1 : (#[orec, o2] : Array Oper)[0]? = some orec := rfl
  simp only [e1, hwt, if_true, hrun, hdst]
  rcases hu c₀ cs hc with e | ⟨e, rfl, rfl⟩
  · rw [e]
    exact go _ rfl
  · rw [e]
    refine go _ ?_
    rw [← hc]
end Sy
end Go.Proofs.YtihkhomnhggifaaGreatDoor

/-
  script.Print.
-/
namespace Go.Proofs.YtihkhomnhggifaaGreatDoor
open Go.RowKit
open Sy
set_option linter.unusedVariables false
set_option linter.unusedSimpArgs false
set_option maxRecDepth 100000
set_option maxHeartbeats 4000000

theorem clsIdleS {R : HP} {eb : Nat} : ∀ w, Sat (sepL [ebH eb (.int .i64 0)] R) w → CallsD Tryz.prog 13 [Value.pointer (some ⟨eb, 0, none⟩)].toArray .returning w fun e x w' => (∃ v, e = .returned v) ∧ x = .returning ∧ ∃ hs, hs = [ebH eb (.int .i64 0)] ∧ Sat (sepL hs R) w' ∧ Wd w w' := by
  refine cls_of_run3 false Tryz.func13 rfl hmix rfl rfl rfl rfl rfl rfl rec_idle fun w0 => ?_
  conv => whnf
  refine ⟨trivial, CallAt.pure (fun R' hR' => sCaughtNil) ?_⟩
  conv => whnf
  exact ⟨trivial, ⟨_, fun w s => s, trivial, rfl⟩⟩
theorem clsPanS {R : HP} {eb : Nat} : ∀ w, Sat (sepL [ebH eb (.int .i64 0)] R) w → CallsD Tryz.prog 13 [Value.pointer (some ⟨eb, 0, none⟩)].toArray (.panicking thrown13) w fun e x w' => (∃ v, e = .returned v) ∧ x = .panicking [{ v := .iface 72 (.agg #[.int .i64 13]), recovered := true }] ∧ ∃ hs, hs = [ebH eb (.int .i64 13)] ∧ Sat (sepL hs R) w' ∧ Wd w w' := by
  refine cls_of_run3 false Tryz.func13 rfl hmix rfl rfl rfl rfl rfl rfl (rec_pan _) fun w0 => ?_
  conv => whnf
  refine ⟨trivial, CallAt.fn (pre := [ebH eb (.int .i64 0)]) _ (fun h s => s) (fun R' hR' => sCaught 13) ?_⟩
  rintro r hs ⟨rfl, rfl⟩
  conv => whnf
  exact ⟨trivial, ⟨[ebH eb (.int .i64 13)], fun w s => s, trivial, rfl⟩⟩
theorem results_tc {P : Program} {fn : Func} {tmps : Array Value} {i j : Nat} {s : TypeId} {q : Nat} {ds : TypeDesc} {v u : Value} {w : World} (hr : fn.results = #[.tmp i, .cell j s]) (hs : P.underlying s = some ds) (hds : ds.isRow = false)
    (hi : tmps.getD i undef = v) (hj : tmps.getD j undef = .pointer (some ⟨q, 0, none⟩)) (hu : w.cell? ⟨q, 0, none⟩ = some u) : (results fn tmps).run P w = .ok (.tuple #[v, u]) w := by
  have k2 : (loadVar s ⟨q, 0, none⟩).run P w = .ok u w := by
    have hagg : (isAgg s).run P w = .ok false w := by
      unfold isAgg
      rw [Sem.run_bind, run_underlying hs w]
      cases ds <;> simp_all
    simp [loadVar, hagg, load, Sem.run, hu]
  refine results_run (vs := [v, u]) ?_
  rw [hr]
  show Sem.run P ([ResultVar.tmp i, .cell j s].mapM (rv tmps)) w = _
  have r1 : (rv tmps (.tmp i)).run P w = .ok v w := by simp only [rv, hi, Sem.run_pure]
  have r2 : (rv tmps (.cell j s)).run P w = .ok u w := by simp only [rv, hj, asAddr, Sem.run_bind, Sem.run_pure, Result.andThen_ok, k2]
  rw [List.mapM_cons, List.mapM_cons]
  simp [r1, r2]
theorem row_capP {A : Option Addr} {n c size : Nat} {e : TypeId} {xs : List Value} {w : World} (s : Sat (rowH (.slice A n c) n e size xs) w) : n ≤ c ∧ c ≤ maxLen := by
  obtain ⟨h, _, _, r⟩ := s
  rcases r with ⟨e, h0, _⟩ | ⟨g, cap, cur, e, _, h1, h2, _⟩
  · injection e with e1 e2 e3
    subst e2 e3
    exact ⟨Nat.le_refl _, Nat.zero_le _⟩
  · injection e with _ _ e
    omega
/-- an op of no kind has no line -/
theorem sScPrintOut {R : HP} {q : OpA} {x : OpF} (h : x.o.kind < 1 ∨ 27 < x.o.kind) : PureR Tryz.prog R 6 [opV q x] (.tuple #[.string (bs []), .int .i64 13]) := by
  obtain ⟨⟨kind, x0, y0, x1, y1, ax, ay, bx, b_y, n, m⟩, vals, byts, bands⟩ := x
  unfold opV opCs opC
  simp only at *
  refine fn_of_run0 false Tryz.func6 rfl hmix rfl fun w0 => ?_
  conv => whnf
  rcases h with h | h
  · refine ⟨fun g => absurd h (of_decide_eq_false g), fun _ => ?_⟩
    conv => whnf
    exact ⟨trivial, fin_pure rfl rfl⟩
  · refine ⟨fun _ => ?_, fun g => absurd (show kind < 1 by simpa using g) (by omega)⟩
    conv => whnf
    refine iff_t (decide_eq_true h) ?_
    conv => whnf
    exact ⟨trivial, fin_pure rfl rfl⟩
theorem sScPrintNo {R : HP} {q : OpA} {x : OpF} (hW : ∀ w, Sat R w → ReadW w) (hV : ∀ w, Sat R w → VerbsW w) (ok : x.ok) (hk : x.o.kind = 27) (hR : ¬ RightL x.bands) (hS : OpS R q x) : FnR Tryz.prog R 6 [opV q x] [] fun r hs => r = .tuple #[.string (bs []), .int .i64 13] ∧ hs = [] := by
  have htold := fun (R' : HP) lb ob (h : ∀ w, Sat R' w → Sat R w) => toldNo (R := R') (lb := lb) (ob := ob) (fun w s => (hW w (h w s)).1) ok hk hR (hS.mono h)
  obtain ⟨⟨kind, x0, y0, x1, y1, ax, ay, bx, b_y, n, m⟩, vals, byts, bands⟩ := x
  unfold opV opCs opC
  unfold opCs opC at htold
  simp only at *
  subst hk
  refine fn_of_defer3 false Tryz.func6 rfl hmix rfl (os1 := [_]) rfl rfl rfl rfl fun w0 => ?_
  conv => whnf
  refine ⟨fun _ => ?_, fun g => absurd g (by decide)⟩
  conv => whnf
  repeat (first | (refine ⟨fun _ => ?_, fun h => absurd h (by decide)⟩; conv => whnf) | (refine ⟨fun h => absurd h (by decide), fun _ => ?_⟩; conv => whnf))
  intro eb _
  conv => whnf
  refine ⟨trivial, DefAt.mk 13 [.pointer (some ⟨eb, 0, none⟩)] isThrown13 (sepL [ebH eb (.int .i64 0)] R) [(2, .string (bs [])), (3, .pointer (some ⟨eb, 0, none⟩))] (fun _ => False) rfl rfl ⟨fun _ h => h.elim, ?_⟩ ?_⟩
  · rintro ch rfl w a sat wd ax
    refine leaves_one (by kernel_rfl) (fun e => by cases e) ?_
    refine CallsD.mono (clsPanS (R := R) w sat) ?_
    rintro e u' w' ⟨hv, rfl, hs, rfl, s', wd'⟩
    refine ⟨hv, rfl, .tuple #[.string (bs []), .int .i64 13], results_tc rfl Tryz.underlying33 rfl (ax (2, _) List.mem_cons_self) (ax (3, _) (List.mem_cons_of_mem _ List.mem_cons_self)) (blk_cell (s'.in_ 0 rfl) rfl), _, [], rfl, ⟨rfl, rfl⟩, ?_, wd.trans wd'⟩
    exact s'.rest
  conv => whnf
  refine ⟨⟨trivial, by omega⟩, LoadAt.cell (.string (bs (verbT 27))) rfl rfl (fun w hw => ?_) ?_⟩
  · have hb : Blk w _ _ _ := hV w (Sat.rest hw)
    exact (hb.cell 27).trans rfl
  conv => whnf
  refine ⟨trivial, OpAt.lit [.string (bs (verbT 27))] 1 rfl rfl rfl rfl rfl (by decide) rfl rfl rfl (by simp [Value.cells]) rfl (by decide) fun g => ?_⟩
  conv => whnf
  intro lb _
  conv => whnf
  intro ob _
  conv => whnf
  exact ⟨trivial, CallAt.panT (pre := [lnH lb [verbT 27], blkH ob 30 _]) [ebH eb (.int .i64 0)] (fun h s => boxH_shut (parts := lnP lb [verbT 27]) (some ⟨g, 0, none⟩, 1) (sepL_perm (List.Perm.trans (List.Perm.swap _ _ _) ((List.Perm.swap _ _ _).cons _)) s)) (fun R' hR' => htold R' lb ob (fun w s => (hR' w s).rest) (verbT 27)) (fun ch h => h) (fun w s => s) ⟨rfl, rfl, trivial⟩⟩
theorem sScPrintYes {R : HP} {q : OpA} {x : OpF} (hW : ∀ w, Sat R w → ReadW w) (hV : ∀ w, Sat R w → VerbsW w) (ok : x.ok) (few : x.few) (hl : HasLine x) (hS : OpS R q x) : FnR Tryz.prog R 6 [opV q x] [] fun r hs => r = .tuple #[.string (bs (lineF x)), .int .i64 0] ∧ hs = [] := by
  have htold := fun (R' : HP) lb ob (h : ∀ w, Sat R' w → Sat R w) => toldN (R := R') (lb := lb) (ob := ob) (fun w s => hW w (h w s)) ok few hl (hS.mono h) (verbT x.o.kind)
  have hll := line_len ok few hl
  have hlw := (opW_len ok few hl).1
  have h1 := hl.1
  have h2 := hl.2.1
  unfold lineF at hll ⊢
  generalize opW x = ws at *
  obtain ⟨⟨kind, x0, y0, x1, y1, ax, ay, bx, b_y, n, m⟩, vals, byts, bands⟩ := x
  unfold opV opCs opC
  unfold opCs opC at htold
  simp only at *
  have hva : verbsL[kind.toNat]? = some (verbT kind) := by
    have := verb_at (k := kind.toNat) (by omega)
    rwa [show ((kind.toNat : Nat) : Int) = kind by omega] at this
  generalize verbT kind = z at *
  have hjoin := fun (R' : HP) A c (ha : Sl R' A (z :: ws).length 1 (strV (z :: ws))) (hc : (z :: ws).length ≤ c) => sJoinC (R := R') (A := A) (c := c) 32 (z :: ws) rfl hc ha (by simp) (by omega) (by simp; omega)
  generalize jn 32 (z :: ws) = line at *
  refine fn_of_defer3 false Tryz.func6 rfl hmix rfl (os1 := [_]) rfl rfl rfl rfl fun w0 => ?_
  conv => whnf
  refine ⟨fun _ => ?_, fun g => absurd (show kind < 1 by simpa using g) (by omega)⟩
  conv => whnf
  refine ⟨fun g => absurd (of_decide_eq_true g) (by omega), fun _ => ?_⟩
  conv => whnf
  intro eb _
  conv => whnf
  refine ⟨trivial, DefAt.mk 13 [.pointer (some ⟨eb, 0, none⟩)] (fun _ => False) R [(2, .string (bs line)), (3, .pointer (some ⟨eb, 0, none⟩))] (fun hs => hs = [ebH eb (.int .i64 0)]) rfl rfl ⟨?_, fun _ h => h.elim⟩ ?_⟩
  · rintro hs rfl w a sat wd ax
    refine leaves_one (by kernel_rfl) (fun e => by cases e) ?_
    refine CallsD.mono (clsIdleS (R := R) w sat) ?_
    rintro e u' w' ⟨hv, rfl, hs, rfl, s', wd'⟩
    refine ⟨hv, rfl, .tuple #[.string (bs line), .int .i64 0], results_tc rfl Tryz.underlying33 rfl (ax (2, _) List.mem_cons_self) (ax (3, _) (List.mem_cons_of_mem _ List.mem_cons_self)) (blk_cell (s'.in_ 0 rfl) rfl), _, [], rfl, ⟨rfl, rfl⟩, ?_, wd.trans wd'⟩
    exact s'.rest
  conv => whnf
  refine ⟨⟨trivial, by omega⟩, LoadAt.cell (.string (bs z)) rfl rfl (fun w hw => ?_) ?_⟩
  · have hb : Blk w _ _ _ := hV w (Sat.rest hw)
    show w.cell? ⟨_, 0 + kind.toNat * 1, none⟩ = _
    rw [Nat.mul_one, Nat.zero_add]
    exact (hb.cell _).trans (by simp [hva])
  conv => whnf
  refine ⟨trivial, OpAt.lit [.string (bs z)] 1 rfl rfl rfl rfl rfl (by decide) rfl rfl rfl (by simp [Value.cells]) rfl (by decide) fun g => ?_⟩
  conv => whnf
  intro lb _
  conv => whnf
  intro ob _
  conv => whnf
  refine ⟨trivial, CallAt.fn (pre := [lnH lb [z], blkH ob 30 _]) [ebH eb (.int .i64 0)] (fun h s => boxH_shut (parts := lnP lb [z]) (some ⟨g, 0, none⟩, 1) (sepL_perm (List.Perm.trans (List.Perm.swap _ _ _) ((List.Perm.swap _ _ _).cons _)) s)) (fun R' hR' => FnR.seen (q := fun r hs => r = .tuple #[] ∧ ∃ A c, (z :: ws).length ≤ c ∧ ∃ cs, hs = [blkH lb 51 #[.slice A (z :: ws).length c, .bool false], rowH (.slice A (z :: ws).length c) (z :: ws).length 9 1 (strV (z :: ws)), blkH ob 30 cs]) (htold R' lb ob fun w s => (hR' w s).rest) ?_) ?_⟩
  · rintro v hs ⟨rfl, cs, rfl⟩ w ⟨h, hs, s⟩
    obtain ⟨⟨A, c⟩, s⟩ := boxH_open s
    have hcap := row_capP (show Sat (rowH (.slice A (z :: ws).length c) (z :: ws).length 9 1 (strV (z :: ws))) w from Sat.in_ 1 ⟨h, hs, s⟩ rfl)
    exact ⟨_, ⟨rfl, A, c, hcap.1, cs, rfl⟩, h, hs, s⟩
  rintro r hs ⟨rfl, A, c, hc, cs, rfl⟩
  generalize hn : (z :: ws).length = nn at *
  conv => whnf
  refine ⟨trivial, LoadAt.cell (.slice A nn c) rfl rfl (fun w hw => blk_cell (hw.in_ 0 rfl) rfl) ?_⟩
  conv => whnf
  refine ⟨trivial, CallAt.pure (fun R' hR' => hjoin R' A c (Sl.row fun w s => (hR' w s).in_ 1 rfl) hc) ?_⟩
  conv => whnf
  refine ⟨trivial, OpAt.store (A' := ebH eb (.int .i64 0)) eb 0 (.int .i64 0) [blkH lb 51 #[.slice A nn c, .bool false], rowH (.slice A nn c) nn 9 1 (strV (z :: ws)), blkH ob 30 cs] rfl (fun h s => sepL_pull 3 s) rfl rfl rfl rfl rfl (by simp [Value.cells, Value.oneCell']) (fun h r => blk_put (by show 0 + 1 ≤ 1; omega) r) ?_⟩
  conv => whnf
  refine ⟨trivial, ⟨[ebH eb (.int .i64 0)], fun w ⟨h, h1, s⟩ => ?_, ⟨rfl, rfl, trivial⟩, rfl⟩⟩
  obtain ⟨h', e, s2⟩ := sub_front (m := [ebH eb (.int .i64 0)]) s
  exact ⟨h', h1.mono e, s2⟩
end Go.Proofs.YtihkhomnhggifaaGreatDoor

