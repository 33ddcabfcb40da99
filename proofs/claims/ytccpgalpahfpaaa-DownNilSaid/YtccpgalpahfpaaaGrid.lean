/-
  Grids: what they are in memory; (*Grid).Size, All, check, slab; inner, spot.
-/
import Derived.Test.YtccpgalpahfpaaaSlabFillAll
import Derived.Test.YtccpgalpahfpaaaPieces
namespace Go.Proofs.Ytccpgalpahfpaaa
open Go.RowKit
set_option linter.unusedVariables false
set_option linter.unusedSimpArgs false

/-- how many tiles one behind the other cover n cells -/
def tiles (n : Nat) : Nat := (n + 15) / 16
/-- how many of n cells are in the tile i -/
def tw (n i : Nat) : Nat := min 16 (n - 16 * i)
/-- the cells of the tile in column i and row j -/
def tileF (f : Nat → Nat → Int) (W i j k : Nat) : Int := f (16 * i + k % tw W i) (16 * j + k / tw W i)

/-- block gb is a grid of W columns and H rows, its slabs' list is in the block sb, the slabs are in the blocks p k, their rows, where they have some, in the blocks q k -/
structure GridOpen (w : World) (gb W H : Nat) (f : Nat → Nat → Int) (sb c : Nat) (p : Nat → Nat) (q : Nat → Option Nat) : Prop where
  w1 : 1 ≤ W
  w2 : W ≤ 1024
  h1 : 1 ≤ H
  h2 : H ≤ 1024
  head : Blk w gb 100 #[.int .i64 W, .int .i64 H, .int .i64 (tiles W), .slice (some ⟨sb, 0, none⟩) (tiles W * tiles H) c]
  list : ∃ cur, Blk w sb 96 cur ∧ ∀ k, k < tiles W * tiles H → cur[k]? = some (.pointer (some ⟨p k, 0, none⟩))
  slabs : ∀ i j, i < tiles W → j < tiles H → SlabIs w (p (j * tiles W + i)) (tw W i) (tw H j) (tileF f W i j) (q (j * tiles W + i))
  inj : ∀ k l, k < tiles W * tiles H → l < tiles W * tiles H → p k = p l → k = l
  inq : ∀ k l g, k < tiles W * tiles H → l < tiles W * tiles H → q k = some g → q l = some g → k = l
/-- and it turns blocks of F alone -/
def GridIs (w : World) (gb W H : Nat) (f : Nat → Nat → Int) (F : Nat → Prop) : Prop :=
  ∃ sb c p q, GridOpen w gb W H f sb c p q ∧ ∀ k, k < tiles W * tiles H → F (p k) ∧ ∀ g, q k = some g → F g

theorem tw_pos {n i : Nat} (h : i < tiles n) : 1 ≤ tw n i ∧ tw n i ≤ 16 := by unfold tw tiles at *; omega
theorem tile_of {n x : Nat} (h : x < n) : x / 16 < tiles n ∧ x % 16 < tw n (x / 16) := by unfold tw tiles; omega
theorem tiles_le {n : Nat} (h : n ≤ 1024) : tiles n ≤ 64 := by unfold tiles; omega
theorem tiles_pos {n : Nat} (h : 1 ≤ n) : 1 ≤ tiles n := by unfold tiles; omega
theorem idx_lt {a b i j : Nat} (hi : i < a) (hj : j < b) : j * a + i < a * b := cell_lt hi hj
theorem idx_inj {a i j i' j' : Nat} (hi : i < a) (hi' : i' < a) (h : j * a + i = j' * a + i') : i = i' ∧ j = j' := by
  have e1 : (j * a + i) / a = j := by rw [Nat.mul_comm, Nat.mul_add_div (by omega), Nat.div_eq_of_lt hi, Nat.add_zero]
  have e2 : (j' * a + i') / a = j' := by rw [Nat.mul_comm, Nat.mul_add_div (by omega), Nat.div_eq_of_lt hi', Nat.add_zero]
  have e : j = j' := by rw [← e1, h, e2]
  subst e
  exact ⟨by omega, rfl⟩

theorem inner_any (x y : Nat) (w : World) : Calls Try.prog 47 #[.int .i64 x, .int .i64 y] w (Ret (cellV ((x % 16 : Nat) : Int) ((y % 16 : Nat) : Int)) w) := by
  have h1 : (0 : Int) ≤ (x : Int) := by omega
  have h2 : (0 : Int) ≤ (y : Int) := by omega
  go_enter Try.func47, Try.ntmps47
  go_wp2_with fail
  refine bodyPost_ret (v := cellV ((x : Int) % 16) ((y : Int) % 16)) (by simp [results, Try.results47, go_sem]) rfl ⟨?_, (Below.refl _ _).alloc (Nat.le_refl _) _⟩
  simp

theorem gspot_any (x y : Int) (w : World) : Calls Try.prog 73 #[cellV x y] w (Ret (rectV x y x y) w) := by
  go_enter Try.func73, Try.ntmps73
  go_wp2_with fail
  exact bodyPost_ret (v := rectV x y x y) (by simp [results, Try.results73, go_sem]) rfl ⟨rfl, ((Below.refl _ _).alloc (Nat.le_refl _) _).alloc (by simp) _⟩

set_option maxHeartbeats 1000000 in
theorem gcheck_any (b : Nat) (W H : Int) (v2 v3 : Value) (x0 y0 x1 y1 : Int) (w : World) (hb : Blk w b 100 #[.int .i64 W, .int .i64 H, v2, v3]) (h1 : 1 ≤ W) (h2 : W ≤ 1024) (h3 : 1 ≤ H) (h4 : H ≤ 1024) :
    Calls Try.prog 45 #[.pointer (some ⟨b, 0, none⟩), rectV x0 y0 x1 y1] w (Ret (.int .i64 (withinZ x0 y0 x1 y1 W H)) w) := by
  have hlt := hb.lt
  have C := (box4_new w (.int .i64 x0) (.int .i64 y0) (.int .i64 x1) (.int .i64 y1) 45)
  have D : Box2 (w.alloc (.cells #[.int .i64 x0, .int .i64 y0, .int .i64 x1, .int .i64 y1] 45)) b (.int .i64 W) (.int .i64 H) := by
    have := hb.alloc (.cells #[.int .i64 x0, .int .i64 y0, .int .i64 x1, .int .i64 y1] 45)
    exact ⟨this.cell 0, this.cell 1⟩
  have hw := fun W' => Within_any x0 y0 x1 y1 W H W' (by omega) (by omega) (by omega) (by omega)
  have HW := Lib.hid hw
  clear hw hb
  go_enter Try.func45, Try.ntmps45
  go_wp2_with fail
  have HX := Below.refl (w.alloc (.cells #[.int .i64 x0, .int .i64 y0, .int .i64 x1, .int .i64 y1] 45)).heap.size (w.alloc (.cells #[.int .i64 x0, .int .i64 y0, .int .i64 x1, .int .i64 y1] 45))
  go_region_held3 (fun W' => (W'.cell? ⟨w.heap.size, 0, none⟩ = some (.int .i64 x0) ∧ W'.cell? ⟨w.heap.size, 1, none⟩ = some (.int .i64 y0) ∧ W'.cell? ⟨w.heap.size, 2, none⟩ = some (.int .i64 x1) ∧ W'.cell? ⟨w.heap.size, 3, none⟩ = some (.int .i64 y1)) ∧ W'.cell? ⟨b, 0, none⟩ = some (.int .i64 W) ∧ W'.cell? ⟨b, 1, none⟩ = some (.int .i64 H))
    (first | exact ⟨C, D⟩ | exact ⟨C.bel HX (by simp), D.bel HX (by simp; omega)⟩)
    ((go_at_call 71; refine (HW.out _).mono ?_; rintro e w2 ⟨rfl, hb2⟩; replace HX := bel_trans_drew HX hb2 (Nat.le_refl _)))
  go_wp2_with fail
  go_ret
  exact ⟨rfl, (new_bel w _).trans (HX.mono (by simp))⟩

/-- a slab is found -/
theorem gslab_at (b sb n c a x y k s : Nat) (v0 v1 : Value) (cur : Array Value) (w : World) (hb : Blk w b 100 #[v0, v1, .int .i64 a, .slice (some ⟨sb, 0, none⟩) n c]) (hs : w.cell? ⟨sb, k, none⟩ = some (.pointer (some ⟨s, 0, none⟩)))
    (hk : y / 16 * a + x / 16 = k) (hkn : k < n) (ha : a ≤ 64) (hy : y < 1024) (hx : x < 1024) :
    Calls Try.prog 48 #[.pointer (some ⟨b, 0, none⟩), .int .i64 x, .int .i64 y] w fun e w' => e = .returned (.pointer (some ⟨s, 0, none⟩)) ∧ ∃ m, w' = w.drewN m := by
  have c2 : w.cell? ⟨b, 2, none⟩ = some (.int .i64 a) := hb.cell 2
  have c3 : w.cell? ⟨b, 3, none⟩ = some (.slice (some ⟨sb, 0, none⟩) n c) := hb.cell 3
  have m1 : y / 16 * a ≤ 64 * 64 := Nat.mul_le_mul (by omega) ha
  have W0 : IntKind.i64.wrap (((y : Int)).tdiv 16) = ((y / 16 : Nat) : Int) := by rw [IntWalk.i64_quo _ _ (by omega)]; simp
  have W1 : IntKind.i64.wrap (((x : Int)).tdiv 16) = ((x / 16 : Nat) : Int) := by rw [IntWalk.i64_quo _ _ (by omega)]; simp
  have W2 : IntKind.i64.wrap (((y / 16 : Nat) : Int) * (a : Int)) = ((y / 16 * a : Nat) : Int) := by rw [← Int.natCast_mul]; exact IntWalk.i64_in _ (by omega)
  have W3 : IntKind.i64.wrap (((y / 16 * a : Nat) : Int) + ((x / 16 : Nat) : Int)) = (k : Int) := by rw [← Int.natCast_add, hk]; exact IntWalk.i64_in _ (by omega)
  have q1 : (0 : Int) ≤ (k : Int) := by omega
  have q2 : (k : Int) < (n : Int) := by omega
  have V0 : ((y : Int)).tdiv 16 = ((y / 16 : Nat) : Int) := by rw [Int.tdiv_eq_ediv_of_nonneg (by omega)]; simp
  have V1 : ((x : Int)).tdiv 16 = ((x / 16 : Nat) : Int) := by rw [Int.tdiv_eq_ediv_of_nonneg (by omega)]; simp
  have V2 : IntKind.i64.wrap ((y / 16 : Nat) : Int) = ((y / 16 : Nat) : Int) := IntWalk.i64_in _ (by omega)
  have V3 : IntKind.i64.wrap ((x / 16 : Nat) : Int) = ((x / 16 : Nat) : Int) := IntWalk.i64_in _ (by omega)
  generalize y / 16 * a = A at *
  generalize y / 16 = B at *
  generalize x / 16 = X at *
  clear hb hk
  go_enter Try.func48, Try.ntmps48
  go_wp2_with fail
  go_region_held3 (fun W' => W'.cell? ⟨b, 2, none⟩ = some (.int .i64 a) ∧ W'.cell? ⟨b, 3, none⟩ = some (.slice (some ⟨sb, 0, none⟩) n c) ∧ W'.cell? ⟨sb, k, none⟩ = some (.pointer (some ⟨s, 0, none⟩)))
    (first | exact ⟨c2, c3, hs⟩) (fail)
  go_wp2_with fail
  go_ret
  exact ⟨rfl, 1, rfl⟩
end Go.Proofs.Ytccpgalpahfpaaa
