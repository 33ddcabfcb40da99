/-
  Texts of the proofs, one behind the other: ScKf.
-/
import Derived.Test.YtihkhomnhggifaaGreatDoorSPg09
/-
  script: the parts of an op, taken, where they are numbers: the other kinds.
-/
namespace Go.Proofs.YtihkhomnhggifaaGreatDoor
open Go.RowKit
open Sy
set_option linter.unusedVariables false
set_option linter.unusedSimpArgs false
set_option maxRecDepth 100000
set_option maxHeartbeats 4000000

theorem sTakeAN {R : HP} {lb b0 off m0 c0 k0 ob : Nat} {ws : List (List UInt8)} {o : OpN} (hN : ∀ w, Sat R w → NumW w) (ok : o.ok) (hz : Nums ws k0 [o.ax, o.ay, o.n]) (hn0 : ws.length = m0) (hm0 : m0 ≤ 1000000) (hc0 : m0 ≤ c0) (ha0 : WordsAt R b0 off ws) (hk : o.kind = 2) :
    FnR Tryz.prog R 15 [.pointer (some ⟨lb, 0, none⟩), .pointer (some ⟨ob, 0, none⟩)] [tkH lb b0 off m0 c0 k0, blkH ob 30 (opZ o.kind)] fun r hs => r = .tuple #[] ∧ hs = [tkH lb b0 off m0 c0 (k0 + 3), blkH ob 30 (opC ⟨o.kind, 0, 0, 0, 0, o.ax, o.ay, 0, 0, o.n, 0⟩ nilV nilV nilV)] := by
  unfold opZ opC
  rcases hk with hk
  all_goals
    rw [hk]
    refine fn_of_run0 false Tryz.func15 rfl hmix rfl fun w0 => ?_
    conv => whnf
    refine ⟨trivial, LoadAt.cell _ rfl rfl (fun w hw => blk_cell (hw.in_ 1 rfl) rfl) ?_⟩
    conv => whnf
    repeat (first | (refine ⟨fun _ => ?_, fun h => absurd h (by decide)⟩; conv => whnf) | (refine ⟨fun h => absurd h (by decide), fun _ => ?_⟩; conv => whnf))
    refine ⟨trivial, CallAt.fn (pre := [tkH lb b0 off m0 c0 (k0), blkH ob 30 _]) _ (fun h s => s) (fun R' hR' => sCellT (fun w s => hN w (Sat.rest (hR' w s))) 5 o.ax o.ay hn0 hm0 hc0 (ha0.mono fun w s => Sat.rest (hR' w s)) (hz.sub 0 [o.ax, o.ay] rfl) ok.ax ok.ay ⟨0, rfl, i0⟩ ⟨0, rfl, i0⟩) ?_⟩
    rintro r hs ⟨rfl, rfl⟩
    conv => whnf
    refine ⟨trivial, OpAt.lit (ptrV ob [(9, o.n)]) 1 rfl rfl rfl rfl rfl (by decide) rfl rfl rfl (by simp [Value.cells]) rfl (by decide) fun g => ?_⟩
    conv => whnf
    refine ⟨trivial, CallAt.fn (pre := [tkH lb b0 off m0 c0 (k0 + 2), blkH ob 30 _]) _ (fun h s => sepL_perm (List.Perm.trans (List.Perm.swap _ _ _) ((List.Perm.swap _ _ _).cons _)) s) (fun R' hR' => sNumbersT (fun w s => hN w (Sat.rest (hR' w s))) [(9, o.n)] rfl (by decide) hn0 hm0 hc0 (ha0.mono fun w s => Sat.rest (hR' w s)) (Sl.row fun w s => (hR' w s).in_ 0 rfl) ((hz.sub 2 [o.n] rfl).ps rfl) (fun p hp => by simp only [List.mem_cons, List.not_mem_nil, or_false] at hp; subst hp; exact ⟨⟨0, rfl, i0⟩, ok.n⟩)) ?_⟩
    rintro r hs ⟨rfl, rfl⟩
    conv => whnf
    exact ⟨trivial, .mk [tkH lb b0 off m0 c0 (k0 + 3), blkH ob 30 _] (fun w ⟨h, hs, s⟩ => by obtain ⟨h', e, s2⟩ := sub_front (m := [tkH lb b0 off m0 c0 (k0 + 3), blkH ob 30 _]) s; exact ⟨h', hs.mono e, s2⟩) ⟨rfl, rfl⟩⟩
theorem sTakeRN {R : HP} {lb b0 off m0 c0 k0 ob : Nat} {ws : List (List UInt8)} {o : OpN} (hN : ∀ w, Sat R w → NumW w) (ok : o.ok) (hz : Nums ws k0 [o.x0, o.y0, o.x1, o.y1, o.n]) (hn0 : ws.length = m0) (hm0 : m0 ≤ 1000000) (hc0 : m0 ≤ c0) (ha0 : WordsAt R b0 off ws) (hk : o.kind = 3 ∨ o.kind = 5 ∨ o.kind = 10 ∨ o.kind = 11) :
    FnR Tryz.prog R 15 [.pointer (some ⟨lb, 0, none⟩), .pointer (some ⟨ob, 0, none⟩)] [tkH lb b0 off m0 c0 k0, blkH ob 30 (opZ o.kind)] fun r hs => r = .tuple #[] ∧ hs = [tkH lb b0 off m0 c0 (k0 + 5), blkH ob 30 (opC ⟨o.kind, o.x0, o.y0, o.x1, o.y1, 0, 0, 0, 0, o.n, 0⟩ nilV nilV nilV)] := by
  unfold opZ opC
  rcases hk with hk | hk | hk | hk
  all_goals
    rw [hk]
    refine fn_of_run0 false Tryz.func15 rfl hmix rfl fun w0 => ?_
    conv => whnf
    refine ⟨trivial, LoadAt.cell _ rfl rfl (fun w hw => blk_cell (hw.in_ 1 rfl) rfl) ?_⟩
    conv => whnf
    repeat (first | (refine ⟨fun _ => ?_, fun h => absurd h (by decide)⟩; conv => whnf) | (refine ⟨fun h => absurd h (by decide), fun _ => ?_⟩; conv => whnf))
    refine ⟨trivial, CallAt.fn (pre := [tkH lb b0 off m0 c0 (k0), blkH ob 30 _]) _ (fun h s => s) (fun R' hR' => sRectT (fun w s => hN w (Sat.rest (hR' w s))) 1 o.x0 o.y0 o.x1 o.y1 hn0 hm0 hc0 (ha0.mono fun w s => Sat.rest (hR' w s)) (hz.sub 0 [o.x0, o.y0, o.x1, o.y1] rfl) ok.x0 ok.y0 ok.x1 ok.y1 ⟨0, rfl, i0⟩ ⟨0, rfl, i0⟩ ⟨0, rfl, i0⟩ ⟨0, rfl, i0⟩) ?_⟩
    rintro r hs ⟨rfl, rfl⟩
    conv => whnf
    refine ⟨trivial, OpAt.lit (ptrV ob [(9, o.n)]) 1 rfl rfl rfl rfl rfl (by decide) rfl rfl rfl (by simp [Value.cells]) rfl (by decide) fun g => ?_⟩
    conv => whnf
    refine ⟨trivial, CallAt.fn (pre := [tkH lb b0 off m0 c0 (k0 + 4), blkH ob 30 _]) _ (fun h s => sepL_perm (List.Perm.trans (List.Perm.swap _ _ _) ((List.Perm.swap _ _ _).cons _)) s) (fun R' hR' => sNumbersT (fun w s => hN w (Sat.rest (hR' w s))) [(9, o.n)] rfl (by decide) hn0 hm0 hc0 (ha0.mono fun w s => Sat.rest (hR' w s)) (Sl.row fun w s => (hR' w s).in_ 0 rfl) ((hz.sub 4 [o.n] rfl).ps rfl) (fun p hp => by simp only [List.mem_cons, List.not_mem_nil, or_false] at hp; subst hp; exact ⟨⟨0, rfl, i0⟩, ok.n⟩)) ?_⟩
    rintro r hs ⟨rfl, rfl⟩
    conv => whnf
    exact ⟨trivial, .mk [tkH lb b0 off m0 c0 (k0 + 5), blkH ob 30 _] (fun w ⟨h, hs, s⟩ => by obtain ⟨h', e, s2⟩ := sub_front (m := [tkH lb b0 off m0 c0 (k0 + 5), blkH ob 30 _]) s; exact ⟨h', hs.mono e, s2⟩) ⟨rfl, rfl⟩⟩
theorem sTakeAB {R : HP} {lb b0 off m0 c0 k0 ob : Nat} {ws : List (List UInt8)} {o : OpN} (hN : ∀ w, Sat R w → NumW w) (ok : o.ok) (hz : Nums ws k0 [o.ax, o.ay, o.bx, o.b_y]) (hn0 : ws.length = m0) (hm0 : m0 ≤ 1000000) (hc0 : m0 ≤ c0) (ha0 : WordsAt R b0 off ws) (hk : o.kind = 16) :
    FnR Tryz.prog R 15 [.pointer (some ⟨lb, 0, none⟩), .pointer (some ⟨ob, 0, none⟩)] [tkH lb b0 off m0 c0 k0, blkH ob 30 (opZ o.kind)] fun r hs => r = .tuple #[] ∧ hs = [tkH lb b0 off m0 c0 (k0 + 4), blkH ob 30 (opC ⟨o.kind, 0, 0, 0, 0, o.ax, o.ay, o.bx, o.b_y, 0, 0⟩ nilV nilV nilV)] := by
  unfold opZ opC
  rcases hk with hk
  all_goals
    rw [hk]
    refine fn_of_run0 false Tryz.func15 rfl hmix rfl fun w0 => ?_
    conv => whnf
    refine ⟨trivial, LoadAt.cell _ rfl rfl (fun w hw => blk_cell (hw.in_ 1 rfl) rfl) ?_⟩
    conv => whnf
    repeat (first | (refine ⟨fun _ => ?_, fun h => absurd h (by decide)⟩; conv => whnf) | (refine ⟨fun h => absurd h (by decide), fun _ => ?_⟩; conv => whnf))
    refine ⟨trivial, CallAt.fn (pre := [tkH lb b0 off m0 c0 (k0), blkH ob 30 _]) _ (fun h s => s) (fun R' hR' => sCellT (fun w s => hN w (Sat.rest (hR' w s))) 5 o.ax o.ay hn0 hm0 hc0 (ha0.mono fun w s => Sat.rest (hR' w s)) (hz.sub 0 [o.ax, o.ay] rfl) ok.ax ok.ay ⟨0, rfl, i0⟩ ⟨0, rfl, i0⟩) ?_⟩
    rintro r hs ⟨rfl, rfl⟩
    conv => whnf
    refine ⟨trivial, CallAt.fn (pre := [tkH lb b0 off m0 c0 (k0 + 2), blkH ob 30 _]) _ (fun h s => s) (fun R' hR' => sCellT (fun w s => hN w (Sat.rest (hR' w s))) 7 o.bx o.b_y hn0 hm0 hc0 (ha0.mono fun w s => Sat.rest (hR' w s)) (hz.sub 2 [o.bx, o.b_y] rfl) ok.bx ok.b_y ⟨0, rfl, i0⟩ ⟨0, rfl, i0⟩) ?_⟩
    rintro r hs ⟨rfl, rfl⟩
    conv => whnf
    exact ⟨trivial, .mk [tkH lb b0 off m0 c0 (k0 + 4), blkH ob 30 _] (fun w ⟨h, hs, s⟩ => by obtain ⟨h', e, s2⟩ := sub_front (m := [tkH lb b0 off m0 c0 (k0 + 4), blkH ob 30 _]) s; exact ⟨h', hs.mono e, s2⟩) ⟨rfl, rfl⟩⟩
theorem sTakeNM {R : HP} {lb b0 off m0 c0 k0 ob : Nat} {ws : List (List UInt8)} {o : OpN} (hN : ∀ w, Sat R w → NumW w) (ok : o.ok) (hz : Nums ws k0 [o.n, o.m]) (hn0 : ws.length = m0) (hm0 : m0 ≤ 1000000) (hc0 : m0 ≤ c0) (ha0 : WordsAt R b0 off ws) (hk : o.kind = 1 ∨ o.kind = 17) :
    FnR Tryz.prog R 15 [.pointer (some ⟨lb, 0, none⟩), .pointer (some ⟨ob, 0, none⟩)] [tkH lb b0 off m0 c0 k0, blkH ob 30 (opZ o.kind)] fun r hs => r = .tuple #[] ∧ hs = [tkH lb b0 off m0 c0 (k0 + 2), blkH ob 30 (opC ⟨o.kind, 0, 0, 0, 0, 0, 0, 0, 0, o.n, o.m⟩ nilV nilV nilV)] := by
  unfold opZ opC
  rcases hk with hk | hk
  all_goals
    rw [hk]
    refine fn_of_run0 false Tryz.func15 rfl hmix rfl fun w0 => ?_
    conv => whnf
    refine ⟨trivial, LoadAt.cell _ rfl rfl (fun w hw => blk_cell (hw.in_ 1 rfl) rfl) ?_⟩
    conv => whnf
    repeat (first | (refine ⟨fun _ => ?_, fun h => absurd h (by decide)⟩; conv => whnf) | (refine ⟨fun h => absurd h (by decide), fun _ => ?_⟩; conv => whnf))
    refine ⟨trivial, RegAt.groups [([.T 0, .T 1, .T 2, .T 3, .T 4, .T 5, .T 6, .H 7], 8), ([.H 8], 9)] hmix (by kernel_rfl) ?_⟩
    conv => whnf
    refine ⟨trivial, OpAt.lit (ptrV ob [(9, o.n), (10, o.m)]) 1 rfl rfl rfl rfl rfl (by decide) rfl rfl rfl (by simp [Value.cells]) rfl (by decide) fun g => ?_⟩
    conv => whnf
    refine ⟨trivial, ⟨⟨rfl, rfl⟩, fun h s => sub_tail s⟩, ?_⟩
    conv => whnf
    refine ⟨trivial, CallAt.fn (pre := [tkH lb b0 off m0 c0 (k0), blkH ob 30 _]) _ (fun h s => sepL_perm (List.Perm.trans (List.Perm.swap _ _ _) ((List.Perm.swap _ _ _).cons _)) s) (fun R' hR' => sNumbersT (fun w s => hN w (Sat.rest (hR' w s))) [(9, o.n), (10, o.m)] rfl (by decide) hn0 hm0 hc0 (ha0.mono fun w s => Sat.rest (hR' w s)) (Sl.row fun w s => (hR' w s).in_ 0 rfl) ((hz.sub 0 [o.n, o.m] rfl).ps rfl) (fun p hp => ?_)) ?_⟩
    · simp only [List.mem_cons, List.not_mem_nil, or_false] at hp
      rcases hp with rfl | rfl
      · exact ⟨⟨0, rfl, i0⟩, ok.n⟩
      · exact ⟨⟨0, rfl, i0⟩, ok.m⟩
    rintro r hs ⟨rfl, rfl⟩
    conv => whnf
    refine ⟨trivial, ?_⟩
    conv => whnf
    exact ⟨trivial, .mk [tkH lb b0 off m0 c0 (k0 + 2), blkH ob 30 _] (fun w ⟨h, hs, s⟩ => by obtain ⟨h', e, s2⟩ := sub_front (m := [tkH lb b0 off m0 c0 (k0 + 2), blkH ob 30 _]) s; exact ⟨h', hs.mono e, s2⟩) ⟨rfl, rfl⟩⟩
theorem sTakeView {R : HP} {lb b0 off m0 c0 k0 ob : Nat} {ws : List (List UInt8)} {o : OpN} (hN : ∀ w, Sat R w → NumW w) (ok : o.ok) (hz : Nums ws k0 [o.ax, o.ay, o.n, o.m, o.bx]) (hn0 : ws.length = m0) (hm0 : m0 ≤ 1000000) (hc0 : m0 ≤ c0) (ha0 : WordsAt R b0 off ws) (hk : o.kind = 13) :
    FnR Tryz.prog R 15 [.pointer (some ⟨lb, 0, none⟩), .pointer (some ⟨ob, 0, none⟩)] [tkH lb b0 off m0 c0 k0, blkH ob 30 (opZ o.kind)] fun r hs => r = .tuple #[] ∧ hs = [tkH lb b0 off m0 c0 (k0 + 5), blkH ob 30 (opC ⟨o.kind, 0, 0, 0, 0, o.ax, o.ay, o.bx, 0, o.n, o.m⟩ nilV nilV nilV)] := by
  unfold opZ opC
  rcases hk with hk
  all_goals
    rw [hk]
    refine fn_of_run0 false Tryz.func15 rfl hmix rfl fun w0 => ?_
    conv => whnf
    refine ⟨trivial, LoadAt.cell _ rfl rfl (fun w hw => blk_cell (hw.in_ 1 rfl) rfl) ?_⟩
    conv => whnf
    repeat (first | (refine ⟨fun _ => ?_, fun h => absurd h (by decide)⟩; conv => whnf) | (refine ⟨fun h => absurd h (by decide), fun _ => ?_⟩; conv => whnf))
    refine ⟨trivial, CallAt.fn (pre := [tkH lb b0 off m0 c0 (k0), blkH ob 30 _]) _ (fun h s => s) (fun R' hR' => sCellT (fun w s => hN w (Sat.rest (hR' w s))) 5 o.ax o.ay hn0 hm0 hc0 (ha0.mono fun w s => Sat.rest (hR' w s)) (hz.sub 0 [o.ax, o.ay] rfl) ok.ax ok.ay ⟨0, rfl, i0⟩ ⟨0, rfl, i0⟩) ?_⟩
    rintro r hs ⟨rfl, rfl⟩
    conv => whnf
    refine ⟨trivial, RegAt.groups [([.T 0, .T 1, .T 2, .T 3, .T 4, .T 5, .T 6, .T 7, .T 8, .T 9, .T 10, .H 11], 12), ([.H 12], 13)] hmix (by kernel_rfl) ?_⟩
    conv => whnf
    refine ⟨trivial, OpAt.lit (ptrV ob [(9, o.n), (10, o.m), (7, o.bx)]) 1 rfl rfl rfl rfl rfl (by decide) rfl rfl rfl (by simp [Value.cells]) rfl (by decide) fun g => ?_⟩
    conv => whnf
    refine ⟨trivial, ⟨⟨rfl, rfl⟩, fun h s => sub_tail s⟩, ?_⟩
    conv => whnf
    refine ⟨trivial, CallAt.fn (pre := [tkH lb b0 off m0 c0 (k0 + 2), blkH ob 30 _]) _ (fun h s => sepL_perm (List.Perm.trans (List.Perm.swap _ _ _) ((List.Perm.swap _ _ _).cons _)) s) (fun R' hR' => sNumbersT (fun w s => hN w (Sat.rest (hR' w s))) [(9, o.n), (10, o.m), (7, o.bx)] rfl (by decide) hn0 hm0 hc0 (ha0.mono fun w s => Sat.rest (hR' w s)) (Sl.row fun w s => (hR' w s).in_ 0 rfl) ((hz.sub 2 [o.n, o.m, o.bx] rfl).ps rfl) (fun p hp => ?_)) ?_⟩
    · simp only [List.mem_cons, List.not_mem_nil, or_false] at hp
      rcases hp with rfl | rfl | rfl
      · exact ⟨⟨0, rfl, i0⟩, ok.n⟩
      · exact ⟨⟨0, rfl, i0⟩, ok.m⟩
      · exact ⟨⟨0, rfl, i0⟩, ok.bx⟩
    rintro r hs ⟨rfl, rfl⟩
    conv => whnf
    refine ⟨trivial, ?_⟩
    conv => whnf
    exact ⟨trivial, .mk [tkH lb b0 off m0 c0 (k0 + 5), blkH ob 30 _] (fun w ⟨h, hs, s⟩ => by obtain ⟨h', e, s2⟩ := sub_front (m := [tkH lb b0 off m0 c0 (k0 + 5), blkH ob 30 _]) s; exact ⟨h', hs.mono e, s2⟩) ⟨rfl, rfl⟩⟩
theorem sTakeSight {R : HP} {lb b0 off m0 c0 k0 ob : Nat} {ws : List (List UInt8)} {o : OpN} (hN : ∀ w, Sat R w → NumW w) (ok : o.ok) (hz : Nums ws k0 [o.ax, o.ay, o.n, o.bx, o.b_y, o.m]) (hn0 : ws.length = m0) (hm0 : m0 ≤ 1000000) (hc0 : m0 ≤ c0) (ha0 : WordsAt R b0 off ws) (hk : o.kind = 12) :
    FnR Tryz.prog R 15 [.pointer (some ⟨lb, 0, none⟩), .pointer (some ⟨ob, 0, none⟩)] [tkH lb b0 off m0 c0 k0, blkH ob 30 (opZ o.kind)] fun r hs => r = .tuple #[] ∧ hs = [tkH lb b0 off m0 c0 (k0 + 6), blkH ob 30 (opC ⟨o.kind, 0, 0, 0, 0, o.ax, o.ay, o.bx, o.b_y, o.n, o.m⟩ nilV nilV nilV)] := by
  unfold opZ opC
  rcases hk with hk
  all_goals
    rw [hk]
    refine fn_of_run0 false Tryz.func15 rfl hmix rfl fun w0 => ?_
    conv => whnf
    refine ⟨trivial, LoadAt.cell _ rfl rfl (fun w hw => blk_cell (hw.in_ 1 rfl) rfl) ?_⟩
    conv => whnf
    repeat (first | (refine ⟨fun _ => ?_, fun h => absurd h (by decide)⟩; conv => whnf) | (refine ⟨fun h => absurd h (by decide), fun _ => ?_⟩; conv => whnf))
    refine ⟨trivial, CallAt.fn (pre := [tkH lb b0 off m0 c0 (k0), blkH ob 30 _]) _ (fun h s => s) (fun R' hR' => sCellT (fun w s => hN w (Sat.rest (hR' w s))) 5 o.ax o.ay hn0 hm0 hc0 (ha0.mono fun w s => Sat.rest (hR' w s)) (hz.sub 0 [o.ax, o.ay] rfl) ok.ax ok.ay ⟨0, rfl, i0⟩ ⟨0, rfl, i0⟩) ?_⟩
    rintro r hs ⟨rfl, rfl⟩
    conv => whnf
    refine ⟨trivial, OpAt.lit (ptrV ob [(9, o.n)]) 1 rfl rfl rfl rfl rfl (by decide) rfl rfl rfl (by simp [Value.cells]) rfl (by decide) fun g => ?_⟩
    conv => whnf
    refine ⟨trivial, CallAt.fn (pre := [tkH lb b0 off m0 c0 (k0 + 2), blkH ob 30 _]) _ (fun h s => sepL_perm (List.Perm.trans (List.Perm.swap _ _ _) ((List.Perm.swap _ _ _).cons _)) s) (fun R' hR' => sNumbersT (fun w s => hN w (Sat.rest (hR' w s))) [(9, o.n)] rfl (by decide) hn0 hm0 hc0 (ha0.mono fun w s => Sat.rest (hR' w s)) (Sl.row fun w s => (hR' w s).in_ 0 rfl) ((hz.sub 2 [o.n] rfl).ps rfl) (fun p hp => by simp only [List.mem_cons, List.not_mem_nil, or_false] at hp; subst hp; exact ⟨⟨0, rfl, i0⟩, ok.n⟩)) ?_⟩
    rintro r hs ⟨rfl, rfl⟩
    conv => whnf
    refine ⟨trivial, CallAt.fn (pre := [tkH lb b0 off m0 c0 (k0 + 3), blkH ob 30 _]) _ (fun h s => s) (fun R' hR' => sCellT (fun w s => hN w (Sat.rest (hR' w s))) 7 o.bx o.b_y hn0 hm0 hc0 (ha0.mono fun w s => Sat.rest (hR' w s)) (hz.sub 3 [o.bx, o.b_y] rfl) ok.bx ok.b_y ⟨0, rfl, i0⟩ ⟨0, rfl, i0⟩) ?_⟩
    rintro r hs ⟨rfl, rfl⟩
    conv => whnf
    refine ⟨trivial, OpAt.lit (ptrV ob [(10, o.m)]) 1 rfl rfl rfl rfl rfl (by decide) rfl rfl rfl (by simp [Value.cells]) rfl (by decide) fun g => ?_⟩
    conv => whnf
    refine ⟨trivial, CallAt.fn (pre := [tkH lb b0 off m0 c0 (k0 + 5), blkH ob 30 _]) _ (fun h s => sepL_perm (List.Perm.trans (List.Perm.swap _ _ _) ((List.Perm.swap _ _ _).cons _)) s) (fun R' hR' => sNumbersT (fun w s => hN w (Sat.rest (hR' w s))) [(10, o.m)] rfl (by decide) hn0 hm0 hc0 (ha0.mono fun w s => Sat.rest (hR' w s)) (Sl.row fun w s => (hR' w s).in_ 0 rfl) ((hz.sub 5 [o.m] rfl).ps rfl) (fun p hp => by simp only [List.mem_cons, List.not_mem_nil, or_false] at hp; subst hp; exact ⟨⟨0, rfl, i0⟩, ok.m⟩)) ?_⟩
    rintro r hs ⟨rfl, rfl⟩
    conv => whnf
    exact ⟨trivial, .mk [tkH lb b0 off m0 c0 (k0 + 6), blkH ob 30 _] (fun w ⟨h, hs, s⟩ => by obtain ⟨h', e, s2⟩ := sub_front (m := [tkH lb b0 off m0 c0 (k0 + 6), blkH ob 30 _]) s; exact ⟨h', hs.mono e, s2⟩) ⟨rfl, rfl⟩⟩
theorem sTakeNone {R : HP} {lb b0 off m0 c0 k0 ob : Nat} {ws : List (List UInt8)} {o : OpN} (hN : ∀ w, Sat R w → NumW w) (ok : o.ok) (hz : Nums ws k0 []) (hn0 : ws.length = m0) (hm0 : m0 ≤ 1000000) (hc0 : m0 ≤ c0) (ha0 : WordsAt R b0 off ws) (hk : o.kind = 18 ∨ o.kind = 19 ∨ o.kind = 25 ∨ o.kind = 26) :
    FnR Tryz.prog R 15 [.pointer (some ⟨lb, 0, none⟩), .pointer (some ⟨ob, 0, none⟩)] [tkH lb b0 off m0 c0 k0, blkH ob 30 (opZ o.kind)] fun r hs => r = .tuple #[] ∧ hs = [tkH lb b0 off m0 c0 (k0 + 0), blkH ob 30 (opC ⟨o.kind, 0, 0, 0, 0, 0, 0, 0, 0, 0, 0⟩ nilV nilV nilV)] := by
  unfold opZ opC
  rcases hk with hk | hk | hk | hk
  all_goals
    rw [hk]
    refine fn_of_run0 false Tryz.func15 rfl hmix rfl fun w0 => ?_
    conv => whnf
    refine ⟨trivial, LoadAt.cell _ rfl rfl (fun w hw => blk_cell (hw.in_ 1 rfl) rfl) ?_⟩
    conv => whnf
    repeat (first | (refine ⟨fun _ => ?_, fun h => absurd h (by decide)⟩; conv => whnf) | (refine ⟨fun h => absurd h (by decide), fun _ => ?_⟩; conv => whnf))
    exact ⟨trivial, .mk [tkH lb b0 off m0 c0 (k0 + 0), blkH ob 30 _] (fun w ⟨h, hs, s⟩ => by obtain ⟨h', e, s2⟩ := sub_front (m := [tkH lb b0 off m0 c0 (k0 + 0), blkH ob 30 _]) s; exact ⟨h', hs.mono e, s2⟩) ⟨rfl, rfl⟩⟩
end Go.Proofs.YtihkhomnhggifaaGreatDoor

