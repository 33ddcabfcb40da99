/-
  grid.At.
-/
import Derived.Test.YtccpgalpahfpaaaLevel
namespace Go.Proofs.Ytccpgalpahfpaaa
open Go.RowKit
open Sy
set_option linter.unusedVariables false
set_option linter.unusedSimpArgs false
set_option maxRecDepth 100000
set_option maxHeartbeats 4000000

theorem drewN_below (w : World) (m : Nat) : Below w.heap.size w (w.drewN m) := by
  exact bel_drewN (Below.refl w.heap.size w) m
theorem sat_ext {w w' : World} (s : Sat (fun g => g = fun i => w.heap[i]?) w') {i : Nat} {o} (h : w.heap[i]? = some o) : w'.heap[i]? = some o := by
  obtain ⟨g, g1, rfl⟩ := s
  exact g1 i o h
theorem gAt_p {R : HP} {gb W H x y : Nat} {f : Nat → Nat → Int} (hR : ∀ w, Sat R w → GridAt w gb W H f) (hx : x < W) (hy : y < H) :
    PureR Try.prog R 53 [.pointer (some ⟨gb, 0, none⟩), cellV x y] (.tuple #[.int .i64 (f x y), .int .i64 0]) := by
  refine PureR.of_below fun w s => ?_
  obtain ⟨sb, c, p, q, hO⟩ := hR w s
  refine PureR.below ?_
  have hO' : ∀ w', Sat (fun g => g = fun i => w.heap[i]?) w' → GridOpen w' gb W H f sb c p q := fun w' s' => hO.agree fun i hi => by
    obtain ⟨t, cs, hb⟩ := hO.there hi
    have hb' : w.heap[i]? = some (.cells cs t (0, 0)) := hb
    rw [hb']; exact sat_ext s' hb'
  have w1 := hO.w1; have w2 := hO.w2; have h1 := hO.h1; have h2 := hO.h2
  have hI := tile_of hx
  have hJ := tile_of hy
  have hk := idx_lt hI.1 hJ.1
  have hT : tiles W ≤ 64 := by unfold tiles; omega
  refine fn_of_run0 false Try.func53 rfl hmix rfl fun w0 => ?_
  conv => whnf
  refine ⟨trivial, CallAt.pure (fun R' _ => sSpot x y R') ?_⟩
  conv => whnf
  refine ⟨trivial, CallAt.pure (v := .int .i64 0) (fun R' hR' => PureR.of_below fun w s => ?_) ?_⟩
  · have := gcheck_any gb W H _ _ x y x y w (hO' w (hR' w s)).head (by omega) (by omega) (by omega) (by omega)
    rwa [show withinZ (x : Int) y x y W H = 0 from within_of ⟨by omega, by omega, by omega, by omega⟩ (by omega) (by omega) (by omega) (by omega) (by omega) (by omega)] at this
  conv => whnf
  refine iff_f (by decide) ?_
  conv => whnf
  refine ⟨trivial, RegAt.quiet hmix (by kernel_rfl) ?_⟩
  conv => whnf
  refine ⟨trivial, CallQ.pure (v := .pointer (some ⟨p (y / 16 * tiles W + x / 16), 0, none⟩)) (fun R' hR' => PureR.of_below fun w s => ?_) ?_⟩
  · have hO := hO' w (hR' w s)
    obtain ⟨cur, hc, hl⟩ := hO.list
    refine (gslab_at gb sb _ c (tiles W) x y _ (p (y / 16 * tiles W + x / 16)) _ _ #[] w hO.head ?_ rfl hk hT (by omega) (by omega)).mono ?_
    · exact (hc.cell _).trans (hl _ hk)
    · rintro e w' ⟨rfl, m, rfl⟩
      exact ⟨rfl, drewN_below w m⟩
  conv => whnf
  refine ⟨trivial, CallQ.pure (fun R' hR' => PureR.of_below fun w s => inner_any x y w) ?_⟩
  conv => whnf
  refine ⟨trivial, CallQ.pure (fun R' hR' => PureR.of_below fun w s => sAt_ok ((hO' w (hR' w s)).slabs _ _ hI.1 hJ.1) _ _ hI.2 hJ.2) ?_⟩
  conv => whnf
  refine ⟨trivial, ?_⟩
  conv => whnf
  refine ⟨trivial, fin_pure rfl ?_⟩
  rw [tileF_at (H := H) f hx]
  rfl
end Go.Proofs.Ytccpgalpahfpaaa
