/-
  paint.Paste and paint.From, where all is right.
-/
import Derived.Test.YtccpgalpahfpaaaLay
namespace Go.Proofs.Ytccpgalpahfpaaa
open Go.RowKit
open Sy
set_option linter.unusedVariables false
set_option linter.unusedSimpArgs false
set_option maxRecDepth 100000
set_option maxHeartbeats 4000000

theorem sArea (x0 y0 x1 y1 : Nat) (r2 : x0 ≤ x1) (r3 : x1 < 1024) (r5 : y0 ≤ y1) (r6 : y1 < 1024) (R : HP) : PureR Try.prog R 58 [rectV x0 y0 x1 y1] (.int .i64 (((x1 - x0 + 1) * (y1 - y0 + 1) : Nat) : Int)) := by
  have e1 : (x1 : Int) - x0 + 1 = ((x1 - x0 + 1 : Nat) : Int) := by omega
  have e2 : (y1 : Int) - y0 + 1 = ((y1 - y0 + 1 : Nat) : Int) := by omega
  refine PureR.of_below fun w _ => (Area_any x0 y0 x1 y1 w).mono ?_
  rintro e w' ⟨rfl, hb⟩
  refine ⟨?_, hb⟩
  unfold areaZ
  rw [if_pos ((right_iff _ _ _ _).2 ⟨by omega, by omega, by omega, by omega, by omega, by omega⟩), e1, e2, ← Int.natCast_mul]
theorem gridAt_rest {R R' : HP} {gb W H : Nat} {f : Nat → Nat → Int} {l : List HP} (i : Nat) (hi : l[i]? = some (gridH gb W H f)) (h : ∀ w, Sat R' w → Sat (sepL l R) w) : ∀ w, Sat R' w → GridAt w gb W H f := fun w s => gridAt_of ((h w s).in_ i hi)

theorem sPaste {R : HP} {gb W H n c : Nat} {f : Nat → Nat → Int} {A : Option Addr} {l : List Int} {X1 Y1 : Int} (ha : Vs R A n l) (hm : ∀ v ∈ l, MayV v) (x0 y0 x1 y1 : Nat) (e1 : X1 = x1) (e2 : Y1 = y1) (r2 : x0 ≤ x1) (r3 : x1 < W) (r5 : y0 ≤ y1) (r6 : y1 < H) (hW : W ≤ 1024) (hH : H ≤ 1024) (hn : (x1 - x0 + 1) * (y1 - y0 + 1) = n) :
    FnR Try.prog R 28 [.pointer (some ⟨gb, 0, none⟩), rectV x0 y0 X1 Y1, .slice A n c] [gridH gb W H f] fun r hs => r = .int .i64 0 ∧ hs = [gridH gb W H (pasteK x0 y0 (x1 - x0 + 1) n l f)] := by
  subst e1 e2
  have hn2 : n ≤ 1048576 := by rw [← hn]; exact Nat.mul_le_mul (show x1 - x0 + 1 ≤ 1024 by omega) (show y1 - y0 + 1 ≤ 1024 by omega)
  refine fn_of_run0 false Try.func28 rfl hmix rfl fun w0 => ?_
  conv => whnf
  refine ⟨trivial, CallAt.fn (pre := []) [gridH gb W H f] (fun h s => s) (fun R' hR' => gValues_f (gridAt_rest 0 rfl hR') x0 y0 x1 y1 r2 r3 r5 r6) ?_⟩
  rintro r hs ⟨B, d, rfl, rfl⟩
  conv => whnf
  refine iff_f (by decide) ?_
  conv => whnf
  refine ⟨trivial, CallAt.pure (fun R' _ => sArea x0 y0 x1 y1 r2 (by omega) r5 (by omega) R') ?_⟩
  conv => whnf
  refine iff_f (by rw [hn]; simp) ?_
  conv => whnf
  refine ⟨trivial, CallAt.pure (fun R' hR' => sContainsMay (ha.mono fun w s => (hR' w s).rest) (by omega) hm) ?_⟩
  conv => whnf
  refine iff_f rfl ?_
  conv => whnf
  refine ⟨trivial, CallAt.fn _ (fun h s => sepL_pull 1 s) (fun R' hR' => sLay (ha.mono fun w s => (hR' w s).rest) hm x0 y0 x1 y1 r2 r3 r5 r6 hW hH hn) ?_⟩
  rintro r hs ⟨rfl, rfl⟩
  conv => whnf
  exact ⟨trivial, .mk [gridH gb W H (pasteK x0 y0 (x1 - x0 + 1) n l f)] (fun w ⟨h, hs, s⟩ => by
    obtain ⟨h', e, s'⟩ := sub_tail (sepL_pull 1 s)
    exact ⟨h', hs.mono e, s'⟩) ⟨rfl, rfl⟩⟩

theorem pasteK_all {W H : Nat} {l : List Int} {f : Nat → Nat → Int} {x y : Nat} (hx : x < W) (hy : y < H) : pasteK 0 0 W (W * H) l f x y = gv W l x y := by
  unfold pasteK gv
  have := idx_lt hx hy
  simp only [Nat.sub_zero]
  rw [if_pos ⟨Nat.zero_le _, by omega, Nat.zero_le _, this⟩]

theorem sFrom {R : HP} {W H n c : Nat} {A : Option Addr} {l : List Int} (ha : Vs R A n l) (hm : ∀ v ∈ l, MayV v) (h1 : 1 ≤ W) (h2 : W ≤ 1024) (h3 : 1 ≤ H) (h4 : H ≤ 1024) (hn : W * H = n) :
    FnR Try.prog R 35 [.int .i64 W, .int .i64 H, .slice A n c] [] fun r hs => ∃ gb, r = .tuple #[.pointer (some ⟨gb, 0, none⟩), .int .i64 0] ∧ hs = [gridH gb W H (gv W l)] := by
  refine fn_of_run0 false Try.func35 rfl hmix rfl fun w0 => ?_
  conv => whnf
  refine ⟨trivial, CallAt.fn (pre := []) [] (fun h s => s) (fun R' _ => gNew_f 0 h1 h2 h3 h4 ⟨by decide, by decide⟩) ?_⟩
  rintro r hs ⟨gb, rfl, rfl⟩
  conv => whnf
  refine iff_t (by decide) ?_
  conv => whnf
  refine ⟨trivial, CallAt.pure (fun R' hR' => gAll_p (gridAt_rest 0 rfl hR')) ?_⟩
  conv => whnf
  refine ⟨trivial, CallAt.fn [] (fun h s => s) (fun R' hR' => sPaste (ha.mono hR') hm 0 0 (W - 1) (H - 1) (by omega) (by omega) (by omega) (by omega) (by omega) (by omega) h2 h4 (by rw [← hn]; congr 1 <;> omega)) ?_⟩
  rintro r hs ⟨rfl, rfl⟩
  conv => whnf
  refine iff_f (by decide) ?_
  conv => whnf
  refine ⟨trivial, .mk [gridH gb W H (gv W l)] (fun w ⟨h, hs, s⟩ => ⟨h, hs, sep_mono s (fun _ g => gridH_congr (fun x y hx hy => ?_) g) fun _ x => x⟩) ⟨gb, rfl, rfl⟩⟩
  have e : W - 1 - 0 + 1 = W := by omega
  rw [e, ← hn]
  exact pasteK_all hx hy
end Go.Proofs.Ytccpgalpahfpaaa
