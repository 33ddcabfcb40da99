/-
  paint.lay.
-/
import Derived.Test.YtccpgalpahfpaaaPaint
namespace Go.Proofs.Ytccpgalpahfpaaa
open Go.RowKit
open Sy
set_option linter.unusedVariables false
set_option linter.unusedSimpArgs false
set_option maxRecDepth 100000
set_option maxHeartbeats 4000000

theorem getD_at {l : List Int} {k : Nat} (h : k < l.length) : l.getD k 0 = l[k] := by rw [List.getD_eq_getElem?_getD, List.getElem?_eq_getElem h]; rfl

theorem gFill_i {R : HP} {gb W H : Nat} {f : Nat → Nat → Int} {x0 y0 x1 y1 v : Int} (r : Rc) (e : r = ⟨x0, y0, x1, y1⟩) (r1 : 0 ≤ x0) (r2 : x0 ≤ x1) (r3 : x1 < W) (r4 : 0 ≤ y0) (r5 : y0 ≤ y1) (r6 : y1 < H) (hv : MayV v) :
    FnR Try.prog R 18 [.pointer (some ⟨gb, 0, none⟩), .agg #[.int .i64 x0, .int .i64 y0, .int .i64 x1, .int .i64 y1], .int .i64 v] [gridH gb W H f] fun x hs => x = .int .i64 0 ∧ hs = [gridH gb W H (fillG r v f)] := by
  subst e
  exact gFill_f ⟨x0, y0, x1, y1⟩ v r1 r2 r3 r4 r5 r6 hv

theorem sLay {R : HP} {gb W H n c : Nat} {f : Nat → Nat → Int} {A : Option Addr} {l : List Int} (ha : Vs R A n l) (hm : ∀ v ∈ l, MayV v) (x0 y0 x1 y1 : Nat) (r2 : x0 ≤ x1) (r3 : x1 < W) (r5 : y0 ≤ y1) (r6 : y1 < H) (hW : W ≤ 1024) (hH : H ≤ 1024) (hn : (x1 - x0 + 1) * (y1 - y0 + 1) = n) :
    FnR Try.prog R 62 [.pointer (some ⟨gb, 0, none⟩), rectV x0 y0 x1 y1, .slice A n c] [gridH gb W H f] fun r hs => r = .tuple #[] ∧ hs = [gridH gb W H (pasteK x0 y0 (x1 - x0 + 1) n l f)] := by
  refine FnR.of_sat fun w hs => ?_
  obtain ⟨h1, sa⟩ := ha.spot (Sat.right hs)
  have hn2 : n ≤ 1048576 := by rw [← hn]; exact Nat.mul_le_mul (show x1 - x0 + 1 ≤ 1024 by omega) (show y1 - y0 + 1 ≤ 1024 by omega)
  have hpos : 0 < n := by rw [← hn]; exact Nat.mul_pos (by omega) (by omega)
  rcases sa with sa | ⟨b, off, rfl, sa⟩
  · omega
  obtain ⟨nx, hnx⟩ : ∃ nx, x1 - x0 + 1 = nx := ⟨_, rfl⟩
  rw [hnx] at hn ⊢
  have nthi := fun (i : Nat) (hi : i < n) (R' : HP) => sNth x0 y0 x1 y1 i r2 (by omega) r5 (by omega) (by rw [hnx, hn]; exact hi) R'
  rw [hnx] at nthi
  refine fn_of_run0 false Try.func62 rfl hmix rfl fun w0 => ?_
  conv => whnf
  refine ⟨trivial, LoopAt.heap (α := Nat) [0, 2, 4] (fun i => [(6, .v (.int .i64 (i : Int)))]) (fun i => [gridH gb W H (pasteK x0 y0 nx i l f)]) (fun i => i ≤ n) (fun i => n - i) 0 (Nat.zero_le _)
    rfl ⟨⟨rfl, rfl⟩, trivial⟩ ⟨⟨rfl, rfl⟩, ⟨rfl, rfl⟩, ⟨rfl, rfl⟩, trivial⟩ ⟨⟨rfl, rfl, rfl, rfl⟩, trivial⟩ (fun h s => sub_same (by rw [pasteK_zero]; exact s)) ?_⟩
  intro i hi
  conv => whnf
  refine ⟨fun h2 => ?_, fun h2 => ?_⟩
  rotate_left
  · have g2 : i = n := by simp at h2; omega
    subst g2
    conv => whnf
    exact ⟨trivial, .mk _ (fun w s => s) ⟨rfl, rfl⟩⟩
  have g2 : i < n := by simpa using h2
  have hil : i < l.length := by omega
  have hmod : i % nx < nx := Nat.mod_lt _ (by omega)
  have hdiv : i / nx < y1 - y0 + 1 := Nat.div_lt_of_lt_mul (by rw [hn]; exact g2)
  have hrowend : ∀ m, i % nx + m < nx → i + m < n := fun m hmm => by
    have e1 := Nat.div_add_mod i nx
    have e2 := Nat.mul_le_mul_left nx (show i / nx + 1 ≤ y1 - y0 + 1 by omega)
    rw [hn, Nat.mul_add] at e2
    omega
  obtain ⟨bx, hbx⟩ : ∃ bx, i % nx = bx := ⟨_, rfl⟩
  obtain ⟨ay, hay⟩ : ∃ ay, i / nx = ay := ⟨_, rfl⟩
  have nth := nthi i g2
  have fillE := fun m hm1 hm2 hv x y => pasteK_fill (x0 := x0) (y0 := y0) (nx := nx) (i := i) (m := m) (l := l) (f := f) (v := l.getD i 0) (by omega) hm1 hm2 hv x y
  rw [hbx] at hmod hrowend
  rw [hay] at hdiv
  rw [hbx, hay] at nth
  simp only [hbx, hay] at fillE
  conv => whnf
  refine ⟨trivial, CallAt.pure (fun R' _ => nth R') ?_⟩
  conv => whnf
  refine ⟨trivial, LoopAt.keep (α := Nat) [0, 2, 4, 6, 7] (fun m => [(9, .v (.int .i64 (m : Int)))]) (fun m => 1 ≤ m ∧ bx + m ≤ nx ∧ ∀ t, t < m → l.getD (i + t) 0 = l.getD i 0) (fun m => nx - m) 1 ⟨Nat.le_refl _, by omega, fun t ht => by rw [show t = 0 by omega]; rfl⟩
    rfl ⟨⟨rfl, rfl⟩, trivial⟩ ⟨⟨rfl, rfl⟩, ⟨rfl, rfl⟩, ⟨rfl, rfl⟩, ⟨rfl, rfl⟩, ⟨rfl, rfl⟩, trivial⟩ ⟨⟨rfl, rfl, rfl, rfl⟩, ⟨rfl, rfl, rfl, rfl⟩, trivial⟩ ?_⟩
  rintro m ⟨m1, m2, m3⟩
  have hr1 : rng .i64 (((x0 + bx : Nat) : Int) + (m : Int)) := by unfold rng; omega
  conv => whnf
  refine ⟨trivial, RegAt.quiet hmix (by kernel_rfl) ?_⟩
  conv => whnf
  refine ⟨fun h3 => ?_, fun h3 => ?_⟩
  · have g3 : bx + m < nx := by simp at h3; omega
    have hlt := hrowend m g3
    have hnat : ((i : Int) + (m : Int)).toNat = i + m := by omega
    conv => whnf
    refine ⟨⟨⟨⟨trivial, hr1⟩, by unfold rng; omega⟩, by omega⟩, LoadAt.cell (.int .i64 (l[i + m]'(by omega))) rfl rfl (fun w hw => ?_) ?_⟩
    · rw [hnat]; exact sa w (Sat.right hw) (i + m) (by omega)
    conv => whnf
    refine ⟨⟨trivial, by omega⟩, LoadAt.cell (.int .i64 (l[i]'(by omega))) rfl rfl (fun w hw => sa w (Sat.right hw) i (by omega)) ?_⟩
    conv => whnf
    refine ⟨trivial, ?_⟩
    conv => whnf
    refine ⟨fun h4 => ?_, fun h4 => ?_⟩
    · have g4 : l[i + m] = l[i] := by simpa using h4
      conv => whnf
      refine ⟨⟨trivial, by unfold rng; omega⟩, Next.keep (m + 1) ⟨by omega, by omega, fun t ht => ?_⟩ (by omega) ⟨⟨rfl, rfl⟩, trivial⟩ ⟨⟨rfl, rfl⟩, ⟨rfl, rfl⟩, ⟨rfl, rfl⟩, ⟨rfl, rfl⟩, ⟨rfl, rfl⟩, trivial⟩ ⟨⟨rfl, rfl, rfl, rfl⟩, ⟨rfl, rfl, rfl, rfl⟩, trivial⟩ rfl rfl rfl⟩
      rcases Nat.lt_or_ge t m with c | c
      · exact m3 t c
      · rw [show t = m by omega, getD_at (by omega), getD_at (by omega)]
        exact g4
    · conv => whnf
      refine ⟨trivial, RegAt.tail 17 hmix (by kernel_rfl) ?_⟩
      conv => whnf
      refine ⟨⟨⟨⟨trivial, hr1⟩, by unfold rng; omega⟩, by omega⟩, LoadAt.cell (.int .i64 (l[i]'(by omega))) rfl rfl (fun w hw => sa w (Sat.right hw) i (by omega)) ?_⟩
      conv => whnf
      refine ⟨trivial, CallAt.fn [] (fun h s => s) (fun R' _ => gFill_i _ rfl (by omega) (by omega) (by omega) (by omega) (by omega) (by omega) (hm _ (List.getElem_mem hil))) ?_⟩
      rintro r hs ⟨rfl, rfl⟩
      conv => whnf
      refine ⟨trivial, ?_⟩
      conv => whnf
      refine ⟨⟨trivial, by unfold rng; omega⟩, Next.heap (i + m) (by have := hrowend (m - 1) (by omega); omega) (by omega) ⟨⟨rfl, rfl⟩, trivial⟩ ⟨⟨rfl, rfl⟩, ⟨rfl, rfl⟩, ⟨rfl, rfl⟩, trivial⟩ ⟨⟨rfl, rfl, rfl, rfl⟩, trivial⟩ rfl rfl fun h s => sub_same (sep_mono s (fun _ g => gridH_congr (fun x y _ _ => ?_) g) fun _ x => x)⟩
      have := fillE m m1 m2 m3 x y
      rw [getD_at hil] at this
      exact this
  · conv => whnf
    refine ⟨⟨trivial, hr1⟩, ?_⟩
    conv => whnf
    refine ⟨trivial, RegAt.tail 17 hmix (by kernel_rfl) ?_⟩
    conv => whnf
    refine ⟨⟨⟨⟨trivial, hr1⟩, by unfold rng; omega⟩, by omega⟩, LoadAt.cell (.int .i64 (l[i]'(by omega))) rfl rfl (fun w hw => sa w (Sat.right hw) i (by omega)) ?_⟩
    conv => whnf
    refine ⟨trivial, CallAt.fn [] (fun h s => s) (fun R' _ => gFill_i _ rfl (by omega) (by omega) (by omega) (by omega) (by omega) (by omega) (hm _ (List.getElem_mem hil))) ?_⟩
    rintro r hs ⟨rfl, rfl⟩
    conv => whnf
    refine ⟨trivial, ?_⟩
    conv => whnf
    refine ⟨⟨trivial, by unfold rng; omega⟩, Next.heap (i + m) (by have := hrowend (m - 1) (by omega); omega) (by omega) ⟨⟨rfl, rfl⟩, trivial⟩ ⟨⟨rfl, rfl⟩, ⟨rfl, rfl⟩, ⟨rfl, rfl⟩, trivial⟩ ⟨⟨rfl, rfl, rfl, rfl⟩, trivial⟩ rfl rfl fun h s => sub_same (sep_mono s (fun _ g => gridH_congr (fun x y _ _ => ?_) g) fun _ x => x)⟩
    have := fillE m m1 m2 m3 x y
    rw [getD_at hil] at this
    exact this
end Go.Proofs.Ytccpgalpahfpaaa
