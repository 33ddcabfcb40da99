/-
  Texts of the proofs, one behind the other: SlabFillAll, Grid, GridNew.
-/
import Derived.Test.YtojlgfkjnkjcmaaGreatDoorPartE
import Derived.Test.YtojlgfkjnkjcmaaGreatDoorPartF
import Derived.Test.YtojlgfkjnkjcmaaGreatDoorPartC
/-
  (*Slab).Fill: a rectangle of a slab gets one value, whatever the slab is.
-/
namespace Go.Proofs.YtojlgfkjnkjcmaaGreatDoor
open Go.RowKit
set_option linter.unusedVariables false
set_option linter.unusedSimpArgs false

theorem filled_flat {w w1 : World} {b sw sh x0 y0 x1 y1 : Nat} {f : Nat → Int} {q : Option Nat} {v : Int} {V : Value} (hS : SlabIs w b sw sh f q) (hb : Blk w b 153 #[.int .i64 sw, .int .i64 sh, V]) (hv : MayV v) (hall : ∀ k, k < sw * sh → fillK sw x0 y0 x1 y1 v f k = v)
    (h1 : Below w.heap.size w w1) : GivesFilled w b sw sh (fillK sw x0 y0 x1 y1 v f) q (.returned (.int .i64 0)) (w1.setCell ⟨b, 2, none⟩ (.iface 149 (.int .i32 v))) := by
  refine ⟨none, rfl, slab_flat rfl hS.w1 hS.w2 hS.h1 hS.h2 (fun k hk => ?_) hall ((hb.kept h1).set_ 2 _), (Touch.of_kept (S := fun i => i = b ∨ some i = q) h1).setCell (p := ⟨b, 2, none⟩) (.inl (.inl rfl)) _, (fun _ h => by cases h)⟩
  rw [hall k hk]; exact hv

theorem area_cast {x0 y0 x1 y1 : Nat} (hx : x0 ≤ x1) (hy : y0 ≤ y1) : ((x1 : Int) - x0 + 1) * ((y1 : Int) - y0 + 1) = (((x1 - x0 + 1) * (y1 - y0 + 1) : Nat) : Int) := by
  rw [Int.natCast_mul]
  congr 1 <;> omega

theorem sFill_ok {w : World} {b sw sh : Nat} {f : Nat → Int} {q : Option Nat} (hS : SlabIs w b sw sh f q) (x0 y0 x1 y1 : Nat) (v : Int) (hx : x0 ≤ x1) (hx' : x1 < sw) (hy : y0 ≤ y1) (hy' : y1 < sh) (hv : MayV v) :
    Calls Tryz.prog 80 #[.pointer (some ⟨b, 0, none⟩), rectV x0 y0 x1 y1, .int .i64 v] w (GivesFilled w b sw sh (fillK sw x0 y0 x1 y1 v f) q) := by
  obtain ⟨V, hb, hl⟩ := hS.body
  have HR := Lib.hid fun W (hW : Below w.heap.size w W) => srough_ok (hS.kept hW)
  have hwhole : (((x1 : Int) - x0 + 1) * ((y1 : Int) - y0 + 1) == ((sw * sh : Nat) : Int)) = true → ∀ k, k < sw * sh → fillK sw x0 y0 x1 y1 v f k = v := by
    intro he k hk
    rw [beq_iff_eq, area_cast hx hy] at he
    obtain ⟨e1, e2, e3, e4⟩ := whole_all hx hx' hy hy' (by omega)
    have d1 := Nat.mod_lt k (show 0 < sw by omega)
    have d2 : k / sw < sh := Nat.div_lt_of_lt_mul hk
    unfold fillK
    generalize k % sw = a at *
    generalize k / sw = c at *
    rw [if_pos ⟨by omega, by omega, by omega, by omega⟩]
  rcases q with _ | g
  · obtain ⟨z, rfl, hf⟩ := hl
    by_cases hz : z = v
    · refine (sFill_same b sw sh x0 y0 x1 y1 _ v z _ w hb hS.w1 hS.w2 hS.h1 hS.h2 rfl hx hx' hy hy' hv (fun W => ta_flat_flat z W) (by rw [beq_iff_eq]; exact hz)).mono ?_
      rintro e w' ⟨rfl, w1, h1, rfl⟩
      refine filled_flat hS hb hv (fun k hk => ?_) h1
      unfold fillK
      split
      · rfl
      · rw [hf k hk, hz]
    · have hone : (z == v) = false := by rw [beq_eq_false_iff_ne]; exact hz
      rcases hA : (((x1 : Int) - x0 + 1) * ((y1 : Int) - y0 + 1) == ((sw * sh : Nat) : Int)) with _ | _
      · exact sFill_part_t b sw sh x0 y0 x1 y1 _ v z _ f none w hb hS.w1 hS.w2 hS.h1 hS.h2 rfl hx hx' hy hy' hv (fun W => ta_flat_flat z W) hone hA HR
      · refine (sFill_whole_t b sw sh x0 y0 x1 y1 _ v z _ w hb hS.w1 hS.w2 hS.h1 hS.h2 rfl hx hx' hy hy' hv (fun W => ta_flat_flat z W) hone hA).mono ?_
        rintro e w' ⟨rfl, w1, h1, rfl⟩
        exact filled_flat hS hb hv (hwhole hA) h1
  · obtain ⟨rfl, hg⟩ := hl
    rcases hA : (((x1 : Int) - x0 + 1) * ((y1 : Int) - y0 + 1) == ((sw * sh : Nat) : Int)) with _ | _
    · exact sFill_part_f b sw sh x0 y0 x1 y1 _ v 0 _ f (some g) w hb hS.w1 hS.w2 hS.h1 hS.h2 rfl hx hx' hy hy' hv (fun W => ta_rough_flat _ _ _ W) hA HR
    · refine (sFill_whole_f b sw sh x0 y0 x1 y1 _ v 0 _ w hb hS.w1 hS.w2 hS.h1 hS.h2 rfl hx hx' hy hy' hv (fun W => ta_rough_flat _ _ _ W) hA).mono ?_
      rintro e w' ⟨rfl, w1, h1, rfl⟩
      exact filled_flat hS hb hv (hwhole hA) h1
end Go.Proofs.YtojlgfkjnkjcmaaGreatDoor

/-
  Grids: what they are in memory; (*Grid).Size, All, check, slab; inner, spot.
-/
namespace Go.Proofs.YtojlgfkjnkjcmaaGreatDoor
open Go.RowKit
set_option linter.unusedVariables false
set_option linter.unusedSimpArgs false

/-- how many tiles one behind the other cover n cells -/
def tiles (n : Nat) : Nat := (n + 15) / 16
/-- how many of n cells are in the tile i -/
def tw (n i : Nat) : Nat := min 16 (n - 16 * i)
/-- the cells of the tile in column i and row j -/
def tileF (f : Nat → Nat → Int) (W i j k : Nat) : Int := f (16 * i + k % tw W i) (16 * j + k / tw W i)

/-- block gb is a grid of W columns and H rows, its slabs' list is in the block sb, the slabs are in the blocks p k, their rows, where they have some, in the blocks q k -/
structure GridOpen (w : World) (gb W H : Nat) (f : Nat → Nat → Int) (sb c : Nat) (p : Nat → Nat) (q : Nat → Option Nat) : Prop where
  w1 : 1 ≤ W
  w2 : W ≤ 1024
  h1 : 1 ≤ H
  h2 : H ≤ 1024
  head : Blk w gb 112 #[.int .i64 W, .int .i64 H, .int .i64 (tiles W), .slice (some ⟨sb, 0, none⟩) (tiles W * tiles H) c]
  list : ∃ cur, Blk w sb 114 cur ∧ ∀ k, k < tiles W * tiles H → cur[k]? = some (.pointer (some ⟨p k, 0, none⟩))
  slabs : ∀ i j, i < tiles W → j < tiles H → SlabIs w (p (j * tiles W + i)) (tw W i) (tw H j) (tileF f W i j) (q (j * tiles W + i))
  inj : ∀ k l, k < tiles W * tiles H → l < tiles W * tiles H → p k = p l → k = l
  inq : ∀ k l g, k < tiles W * tiles H → l < tiles W * tiles H → q k = some g → q l = some g → k = l
/-- and it turns blocks of F alone -/
def GridIs (w : World) (gb W H : Nat) (f : Nat → Nat → Int) (F : Nat → Prop) : Prop :=
  ∃ sb c p q, GridOpen w gb W H f sb c p q ∧ ∀ k, k < tiles W * tiles H → F (p k) ∧ ∀ g, q k = some g → F g

theorem tw_pos {n i : Nat} (h : i < tiles n) : 1 ≤ tw n i ∧ tw n i ≤ 16 := by unfold tw tiles at *; omega
theorem tile_of {n x : Nat} (h : x < n) : x / 16 < tiles n ∧ x % 16 < tw n (x / 16) := by unfold tw tiles; omega
theorem tiles_le {n : Nat} (h : n ≤ 1024) : tiles n ≤ 64 := by unfold tiles; omega
theorem tiles_pos {n : Nat} (h : 1 ≤ n) : 1 ≤ tiles n := by unfold tiles; omega
theorem idx_lt {a b i j : Nat} (hi : i < a) (hj : j < b) : j * a + i < a * b := cell_lt hi hj
theorem idx_inj {a i j i' j' : Nat} (hi : i < a) (hi' : i' < a) (h : j * a + i = j' * a + i') : i = i' ∧ j = j' := by
  have e1 : (j * a + i) / a = j := by rw [Nat.mul_comm, Nat.mul_add_div (by omega), Nat.div_eq_of_lt hi, Nat.add_zero]
  have e2 : (j' * a + i') / a = j' := by rw [Nat.mul_comm, Nat.mul_add_div (by omega), Nat.div_eq_of_lt hi', Nat.add_zero]
  have e : j = j' := by rw [← e1, h, e2]
  subst e
  exact ⟨by omega, rfl⟩

theorem inner_any (x y : Nat) (w : World) : Calls Tryz.prog 59 #[.int .i64 x, .int .i64 y] w (Ret (cellV ((x % 16 : Nat) : Int) ((y % 16 : Nat) : Int)) w) := by
  have h1 : (0 : Int) ≤ (x : Int) := by omega
  have h2 : (0 : Int) ≤ (y : Int) := by omega
  go_enter Tryz.func59, Tryz.ntmps59
  go_wp2_with fail
  refine bodyPost_ret (v := cellV ((x : Int) % 16) ((y : Int) % 16)) (by simp [results, Tryz.results59, go_sem]) rfl ⟨?_, (Below.refl _ _).alloc (Nat.le_refl _) _⟩
  simp

theorem gspot_any (x y : Int) (w : World) : Calls Tryz.prog 54 #[cellV x y] w (Ret (rectV x y x y) w) := by
  go_enter Tryz.func54, Tryz.ntmps54
  go_wp2_with fail
  exact bodyPost_ret (v := rectV x y x y) (by simp [results, Tryz.results54, go_sem]) rfl ⟨rfl, ((Below.refl _ _).alloc (Nat.le_refl _) _).alloc (by simp) _⟩

set_option maxHeartbeats 1000000 in
theorem gcheck_any (b : Nat) (W H : Int) (v2 v3 : Value) (x0 y0 x1 y1 : Int) (w : World) (hb : Blk w b 112 #[.int .i64 W, .int .i64 H, v2, v3]) (h1 : 1 ≤ W) (h2 : W ≤ 1024) (h3 : 1 ≤ H) (h4 : H ≤ 1024) :
    Calls Tryz.prog 56 #[.pointer (some ⟨b, 0, none⟩), rectV x0 y0 x1 y1] w (Ret (.int .i64 (withinZ x0 y0 x1 y1 W H)) w) := by
  have hlt := hb.lt
  have C := (box4_new w (.int .i64 x0) (.int .i64 y0) (.int .i64 x1) (.int .i64 y1) 107)
  have D : Box2 (w.alloc (.cells #[.int .i64 x0, .int .i64 y0, .int .i64 x1, .int .i64 y1] 107)) b (.int .i64 W) (.int .i64 H) := by
    have := hb.alloc (.cells #[.int .i64 x0, .int .i64 y0, .int .i64 x1, .int .i64 y1] 107)
    exact ⟨this.cell 0, this.cell 1⟩
  have hw := fun W' => Within_any x0 y0 x1 y1 W H W' (by omega) (by omega) (by omega) (by omega)
  have HW := Lib.hid hw
  clear hw hb
  go_enter Tryz.func56, Tryz.ntmps56
  go_wp2_with fail
  have HX := Below.refl (w.alloc (.cells #[.int .i64 x0, .int .i64 y0, .int .i64 x1, .int .i64 y1] 107)).heap.size (w.alloc (.cells #[.int .i64 x0, .int .i64 y0, .int .i64 x1, .int .i64 y1] 107))
  go_region_held3 (fun W' => (W'.cell? ⟨w.heap.size, 0, none⟩ = some (.int .i64 x0) ∧ W'.cell? ⟨w.heap.size, 1, none⟩ = some (.int .i64 y0) ∧ W'.cell? ⟨w.heap.size, 2, none⟩ = some (.int .i64 x1) ∧ W'.cell? ⟨w.heap.size, 3, none⟩ = some (.int .i64 y1)) ∧ W'.cell? ⟨b, 0, none⟩ = some (.int .i64 W) ∧ W'.cell? ⟨b, 1, none⟩ = some (.int .i64 H))
    (first | exact ⟨C, D⟩ | exact ⟨C.bel HX (by simp), D.bel HX (by simp; omega)⟩)
    ((go_at_call 50; refine (HW.out _).mono ?_; rintro e w2 ⟨rfl, hb2⟩; replace HX := bel_trans_drew HX hb2 (Nat.le_refl _)))
  go_wp2_with fail
  go_ret
  exact ⟨rfl, (new_bel w _).trans (HX.mono (by simp))⟩

/-- a slab is found -/
theorem gslab_at (b sb n c a x y k s : Nat) (v0 v1 : Value) (cur : Array Value) (w : World) (hb : Blk w b 112 #[v0, v1, .int .i64 a, .slice (some ⟨sb, 0, none⟩) n c]) (hs : w.cell? ⟨sb, k, none⟩ = some (.pointer (some ⟨s, 0, none⟩)))
    (hk : y / 16 * a + x / 16 = k) (hkn : k < n) (ha : a ≤ 64) (hy : y < 1024) (hx : x < 1024) :
    Calls Tryz.prog 57 #[.pointer (some ⟨b, 0, none⟩), .int .i64 x, .int .i64 y] w fun e w' => e = .returned (.pointer (some ⟨s, 0, none⟩)) ∧ ∃ m, w' = w.drewN m := by
  have c2 : w.cell? ⟨b, 2, none⟩ = some (.int .i64 a) := hb.cell 2
  have c3 : w.cell? ⟨b, 3, none⟩ = some (.slice (some ⟨sb, 0, none⟩) n c) := hb.cell 3
  have m1 : y / 16 * a ≤ 64 * 64 := Nat.mul_le_mul (by omega) ha
  have W0 : IntKind.i64.wrap (((y : Int)).tdiv 16) = ((y / 16 : Nat) : Int) := by rw [IntWalk.i64_quo _ _ (by omega)]; simp
  have W1 : IntKind.i64.wrap (((x : Int)).tdiv 16) = ((x / 16 : Nat) : Int) := by rw [IntWalk.i64_quo _ _ (by omega)]; simp
  have W2 : IntKind.i64.wrap (((y / 16 : Nat) : Int) * (a : Int)) = ((y / 16 * a : Nat) : Int) := by rw [← Int.natCast_mul]; exact IntWalk.i64_in _ (by omega)
  have W3 : IntKind.i64.wrap (((y / 16 * a : Nat) : Int) + ((x / 16 : Nat) : Int)) = (k : Int) := by rw [← Int.natCast_add, hk]; exact IntWalk.i64_in _ (by omega)
  have q1 : (0 : Int) ≤ (k : Int) := by omega
  have q2 : (k : Int) < (n : Int) := by omega
  have V0 : ((y : Int)).tdiv 16 = ((y / 16 : Nat) : Int) := by rw [Int.tdiv_eq_ediv_of_nonneg (by omega)]; simp
  have V1 : ((x : Int)).tdiv 16 = ((x / 16 : Nat) : Int) := by rw [Int.tdiv_eq_ediv_of_nonneg (by omega)]; simp
  have V2 : IntKind.i64.wrap ((y / 16 : Nat) : Int) = ((y / 16 : Nat) : Int) := IntWalk.i64_in _ (by omega)
  have V3 : IntKind.i64.wrap ((x / 16 : Nat) : Int) = ((x / 16 : Nat) : Int) := IntWalk.i64_in _ (by omega)
  generalize y / 16 * a = A at *
  generalize y / 16 = B at *
  generalize x / 16 = X at *
  clear hb hk
  go_enter Tryz.func57, Tryz.ntmps57
  go_wp2_with fail
  go_region_held3 (fun W' => W'.cell? ⟨b, 2, none⟩ = some (.int .i64 a) ∧ W'.cell? ⟨b, 3, none⟩ = some (.slice (some ⟨sb, 0, none⟩) n c) ∧ W'.cell? ⟨sb, k, none⟩ = some (.pointer (some ⟨s, 0, none⟩)))
    (first | exact ⟨c2, c3, hs⟩) (fail)
  go_wp2_with fail
  go_ret
  exact ⟨rfl, 1, rfl⟩
end Go.Proofs.YtojlgfkjnkjcmaaGreatDoor

/-
  grid.New: all the same.
-/
namespace Go.Proofs.YtojlgfkjnkjcmaaGreatDoor
open Go.RowKit
set_option linter.unusedVariables false
set_option linter.unusedSimpArgs false

theorem pcRows_get (r : Rc) (j : Nat) : pcRows r j = (List.range (j * pcX r)).map fun k => pc r (k % pcX r) (k / pcX r) := by
  induction j with
  | zero => simp [pcRows]
  | succ j ih =>
    rw [pcRows_succ, ih, Nat.succ_mul, List.range_add, List.map_append, List.map_map]
    congr 1
    unfold pcRow
    refine List.map_congr_left fun a ha => ?_
    have ha' : a < pcX r := by simpa using ha
    simp only [Function.comp_apply]
    rw [Nat.mul_comm j, Nat.mul_add_mod, Nat.mul_add_div (by omega), Nat.mod_eq_of_lt ha', Nat.div_eq_of_lt ha', Nat.add_zero]
theorem pcs_len (r : Rc) : (pcs r).length = pcY r * pcX r := pcRows_len r _
theorem pcs_get (r : Rc) (k : Nat) (h : k < (pcs r).length) : (pcs r)[k] = pc r (k % pcX r) (k / pcX r) := by
  have e : pcs r = _ := pcRows_get r (pcY r)
  simp only [e, List.getElem_map, List.getElem_range]

/-- all of a grid -/
def allR (W H : Nat) : Rc := ⟨0, 0, (W : Int) - 1, (H : Int) - 1⟩
theorem allR_X {W H : Nat} (h : 1 ≤ W) : pcX (allR W H) = tiles W := by unfold pcX allR tiles; simp only; omega
theorem allR_Y {W H : Nat} (h : 1 ≤ H) : pcY (allR W H) = tiles H := by unfold pcY allR tiles; simp only; omega
theorem allR_pc {W H i j : Nat} (hi : i < tiles W) (hj : j < tiles H) : (pc (allR W H) i j).x1 - (pc (allR W H) i j).x0 + 1 = (tw W i : Int) ∧ (pc (allR W H) i j).y1 - (pc (allR W H) i j).y0 + 1 = (tw H j : Int) ∧
    0 ≤ (pc (allR W H) i j).x0 ∧ (pc (allR W H) i j).x0 ≤ 1024 ∧ 0 ≤ (pc (allR W H) i j).y0 ∧ (pc (allR W H) i j).y0 ≤ 1024 ∨ 1024 < W ∨ 1024 < H := by
  unfold pc allR tw tiles at *
  simp only
  omega

def ptrV (b : Nat) : Value := .pointer (some ⟨b, 0, none⟩)
theorem info_sptr : (Tryz.prog.info? 114).map (fun i => (i.zero, i.size, i.bytes)) = some (some (.pointer none), 1, 8) := by kernel_rfl

theorem own_of_block {w w' : World} {base : Nat} {e : TypeId} {size n : Nat} {v : Value} {xs : List Value} (h : w.ownsRow base e size v n xs) (hk : ∀ g, v.ownBlock = some g → w'.heap[g]? = w.heap[g]?) : w'.ownsRow base e size v n xs := by
  refine ⟨h.1, ?_⟩
  rcases h.2 with h2 | ⟨g, cap, cur, rfl, hg, hh, h3⟩
  · exact .inl h2
  · exact .inr ⟨g, cap, cur, rfl, hg, (hk g rfl).trans hh, h3⟩
theorem own_blk {w : World} {base : Nat} {e : TypeId} {size n : Nat} {v : Value} {xs : List Value} (h : w.ownsRow base e size v n xs) {g : Nat} (hg : v.ownBlock = some g) : ∃ cur, Blk w g e cur := by
  rcases h.2 with ⟨rfl, _⟩ | ⟨g', cap, cur, rfl, _, hh, _⟩
  · simp [Value.ownBlock] at hg
  · have : g' = g := by simpa [Value.ownBlock] using hg
    subst this
    exact ⟨cur, hh⟩
theorem own_set {w : World} {base g : Nat} {e t : TypeId} {size n : Nat} {v : Value} {xs : List Value} {cs : Array Value} (h : w.ownsRow base e size v n xs) (hg : Blk w g t cs) (hne : e ≠ t) (o : Nat) (u : Value) : (w.setCell ⟨g, o, none⟩ u).ownsRow base e size v n xs :=
  own_of_block h fun k hk => Below.heap_setCell w ⟨g, o, none⟩ u k (by
    rintro rfl
    exact own_blk_ne h hg hne hk)
theorem own_grown {w w' : World} {base base' : Nat} {e e' : TypeId} {size size' n n' : Nat} {v v' : Value} {xs xs' : List Value} (h : w.ownsRow base e size v n xs) (h' : w.ownsRow base' e' size' v' n' xs') (hne : e ≠ e') (hg : w.grownBy w' v'.ownBlock) : w'.ownsRow base e size v n xs :=
  own_of_block h fun k hk => by
    obtain ⟨cur, hc⟩ := own_blk h hk
    refine hg.block k hc.lt (fun he => ?_)
    obtain ⟨cur', hc'⟩ := own_blk h' he.symm
    exact Blk.ne_ hc hc' hne rfl
theorem Blk.own_grown {w w' : World} {base g : Nat} {e t : TypeId} {size n : Nat} {v : Value} {xs : List Value} {cs : Array Value} (h : Blk w g t cs) (h' : w.ownsRow base e size v n xs) (hne : t ≠ e) (hg : w.grownBy w' v.ownBlock) : Blk w' g t cs :=
  h.grown hg (fun he => own_blk_ne h' h (Ne.symm hne) he.symm)
theorem SlabIs.flat_of {w w' : World} {b sw sh : Nat} {f : Nat → Int} (h : SlabIs w b sw sh f none) (hk : ∀ t cs, Blk w b t cs → t = 153 → Blk w' b t cs) : SlabIs w' b sw sh f none := by
  obtain ⟨v, h1, h2⟩ := h.body
  exact ⟨h.w1, h.w2, h.h1, h.h2, h.may, v, hk _ _ h1 rfl, h2⟩

/-- on the way to a new grid: k slabs are there -/
structure NewAt (w wr : World) (B gb W H : Nat) (v : Int) (k : Nat) (A : Option Addr) (c : Nat) (ps : List Nat) : Prop where
  len : ps.length = k
  own : wr.ownsRow B 114 1 (.slice A k c) k (ps.map ptrV)
  head : Blk wr gb 112 #[.int .i64 W, .int .i64 H, .int .i64 (tiles W), .slice A k c]
  slabs : ∀ i (h : i < ps.length), SlabIs wr ps[i] (tw W (i % tiles W)) (tw H (i / tiles W)) (fun _ => v) none
  nodup : ps.Nodup
  low : ∀ b ∈ ps, B ≤ b ∧ b < wr.heap.size
  below : Below B w wr

/-- a slab is new: then it is listed -/
theorem NewAt.next {w wr w1 w2 : World} {B gb W H : Nat} {v : Int} {k : Nat} {A A' : Option Addr} {c c' : Nat} {ps : List Nat} {b : Nat} (h : NewAt w wr B gb W H v k A c ps) (hB : B ≤ wr.heap.size) (hgb : B ≤ gb)
    (h1 : Below wr.heap.size wr w1) (hb : wr.heap.size ≤ b) (hs : SlabIs w1 b (tw W (k % tiles W)) (tw H (k / tiles W)) (fun _ => v) none)
    (ho : w2.ownsRow B 114 1 (.slice A' (k + 1) c') (k + 1) (ps.map ptrV ++ [ptrV b])) (hg : (w1.alloc (.cells #[ptrV b] 114)).grownBy w2 (Value.slice A k c).ownBlock) :
    NewAt w (w2.setCell ⟨gb, 3, none⟩ (.slice A' (k + 1) c')) B gb W H v (k + 1) A' c' (ps ++ [b]) := by
  have own1 : (w1.alloc (.cells #[ptrV b] 114)).ownsRow B 114 1 (.slice A k c) k (ps.map ptrV) := (ownsRow_below h.own h1 (Nat.le_refl _)).alloc _
  have keep : ∀ g t cs, t ≠ 114 → Blk w1 g t cs → Blk w2 g t cs := fun g t cs ht hk => (hk.alloc _).own_grown own1 ht hg
  have hd2 : Blk w2 gb _ _ := keep gb _ _ (by decide) (h.head.kept h1)
  have hsz : w1.heap.size ≤ w2.heap.size := Nat.le_trans (by simp) hg.size
  have hbl := hs
  obtain ⟨vb, hbb, _⟩ := hbl.body
  refine ⟨by simp [h.len], ?_, ?_, ?_, ?_, ?_, ?_⟩
  · rw [List.map_append]
    exact own_set ho hd2 (by decide) 3 _
  · exact hd2.set_ 3 _
  · have step : ∀ b' sw sh f, SlabIs w1 b' sw sh f none → SlabIs (w2.setCell ⟨gb, 3, none⟩ (.slice A' (k + 1) c')) b' sw sh f none := fun b' sw sh f hS => hS.flat_of fun t cs hk ht => by
      have h2 := keep b' t cs (by rw [ht]; decide) hk
      exact h2.far (p := ⟨gb, 3, none⟩) (Blk.ne_ h2 hd2 (by rw [ht]; decide)) _
    intro i hi
    rw [List.length_append, List.length_singleton] at hi
    rcases Nat.lt_or_ge i ps.length with c | c
    · rw [List.getElem_append_left c]
      exact step _ _ _ _ ((h.slabs i c).kept h1)
    · obtain rfl : i = ps.length := by omega
      rw [List.getElem_append_right (Nat.le_refl _)]
      simp only [Nat.sub_self, List.getElem_cons_zero]
      rw [h.len]
      exact step _ _ _ _ hs
  · rw [List.nodup_append]
    refine ⟨h.nodup, by simp, fun a ha a' ha' => ?_⟩
    simp at ha'
    subst ha'
    have := (h.low a ha).2
    omega
  · intro b' hb'
    rw [List.mem_append] at hb'
    rcases hb' with hb' | hb'
    · have := h.low b' hb'
      have := h1.size
      exact ⟨by omega, by simp [World.setCell]; omega⟩
    · simp at hb'
      subst hb'
      have := hbb.lt
      exact ⟨by omega, by simp [World.setCell]; omega⟩
  · have hb2 : Below B w w2 := ((h.below.trans (h1.mono hB)).alloc (by have := h1.size; omega) _).grown hg (by have := h1.size; simp; omega) (fun g hg' => (own1.lt g hg').1)
    exact hb2.setCell hgb _

/-- it gives a new grid -/
def GivesGrid (w : World) (W H : Nat) (f : Nat → Nat → Int) (e : Ending) (w' : World) : Prop :=
  ∃ gb, e = .returned (.tuple #[.pointer (some ⟨gb, 0, none⟩), .int .i64 0]) ∧ w.heap.size ≤ gb ∧ (∃ sb c p q, w.heap.size ≤ sb ∧ GridOpen w' gb W H f sb c p q ∧ ∀ k, k < tiles W * tiles H → (w.heap.size ≤ p k ∧ p k < w'.heap.size) ∧ ∀ g, q k = some g → w.heap.size ≤ g ∧ g < w'.heap.size) ∧ Below w.heap.size w w'

theorem NewAt.done {w wr : World} {gb W H : Nat} {v : Int} {A : Option Addr} {c : Nat} {ps : List Nat} (h : NewAt w wr w.heap.size gb W H v (tiles W * tiles H) A c ps) (h1 : 1 ≤ W) (h2 : W ≤ 1024) (h3 : 1 ≤ H) (h4 : H ≤ 1024) (hgb : w.heap.size ≤ gb) :
    GivesGrid w W H (fun _ _ => v) (.returned (.tuple #[.pointer (some ⟨gb, 0, none⟩), .int .i64 0])) wr := by
  have hp : 0 < tiles W * tiles H := Nat.mul_pos (tiles_pos h1) (tiles_pos h3)
  obtain ⟨sb, cap, hv, hsb, _⟩ := h.own.form hp
  have hA : A = some ⟨sb, 0, none⟩ := by injection hv
  subst hA
  obtain ⟨cur, hc⟩ := own_blk h.own (g := sb) rfl
  have hat : ∀ k (hk : k < tiles W * tiles H), ps.getD k 0 = ps[k]'(by rw [h.len]; exact hk) := fun k hk => by
    rw [List.getD_eq_getElem?_getD, List.getElem?_eq_getElem (by rw [h.len]; exact hk)]; rfl
  refine ⟨gb, rfl, hgb, ⟨sb, c, fun k => ps.getD k 0, fun _ => none, hsb, ⟨h1, h2, h3, h4, h.head, ⟨cur, hc, fun k hk => ?_⟩, ?_, ?_, fun k l g _ _ e => by cases e⟩, ?_⟩, h.below⟩
  · have := h.own.cells (g := sb) rfl k (ptrV (ps[k]'(by rw [h.len]; exact hk))) (by simp [List.getElem?_eq_getElem (show k < ps.length by rw [h.len]; exact hk)])
    rw [add_plain, Nat.zero_add, hc.cell k] at this
    rw [hat k hk]
    exact this
  · intro i j hi hj
    have hlt := idx_lt hi hj
    have hs := h.slabs (j * tiles W + i) (by rw [h.len]; exact hlt)
    rw [hat _ hlt]
    rw [show (j * tiles W + i) % tiles W = i by rw [Nat.mul_comm, Nat.mul_add_mod, Nat.mod_eq_of_lt hi], show (j * tiles W + i) / tiles W = j by rw [Nat.mul_comm, Nat.mul_add_div (by omega), Nat.div_eq_of_lt hi, Nat.add_zero]] at hs
    exact hs
  · intro k l hk hl e
    simp only [hat k hk, hat l hl] at e
    have pw := List.pairwise_iff_getElem.1 h.nodup
    rcases Nat.lt_trichotomy k l with c | c | c
    · exact absurd e (pw k l _ _ c)
    · exact c
    · exact absurd e.symm (pw l k _ _ c)
  · intro k hk
    simp only [hat k hk]
    exact ⟨h.low _ (List.getElem_mem _), fun g e => by cases e⟩

set_option maxHeartbeats 4000000 in
set_option maxRecDepth 100000 in
theorem gNew_ok (W H : Nat) (v : Int) (w : World) (h1 : 1 ≤ W) (h2 : W ≤ 1024) (h3 : 1 ≤ H) (h4 : H ≤ 1024) (hv : MayV v) :
    Calls Tryz.prog 24 #[.int .i64 W, .int .i64 H, .int .i64 v] w (GivesGrid w W H (fun _ _ => v)) := by
  obtain ⟨i0, hi0, hz0, hz1, hz2⟩ := info_parts info_sptr
  have hw := fun W' => Within_any 0 0 0 0 W H W' (by omega) (by omega) (by omega) (by omega)
  rw [show withinZ 0 0 0 0 W H = 0 from within_of ⟨by omega, by omega, by omega, by omega⟩ (by omega) (by omega) (by omega) (by omega) (by omega) (by omega)] at hw
  have HW := Lib.hid hw
  have hp := fun W' => Pieces_ok (allR W H) W' ((right_iff _ _ _ _).2 (by unfold allR; simp only; omega))
  have HP := Lib.hid hp
  obtain ⟨n, hn⟩ : ∃ n, tiles W * tiles H = n := ⟨_, rfl⟩
  have hlen : (pcs (allR W H)).length = n := by rw [pcs_len, allR_X h1, allR_Y h3, Nat.mul_comm, hn]
  have hnl : n ≤ 4096 := by rw [← hn]; exact Nat.mul_le_mul (tiles_le h2) (tiles_le h4)
  have HL := Lib.hid hlen
  have HN := Lib.hid hn
  have HV := Lib.hid hv
  have ea : ((W : Int) + 16 - 1) / 16 = (tiles W : Int) := by unfold tiles; omega
  have EA := Lib.hid ea
  clear hw hp hlen hn hv ea
  go_enter Tryz.func24, Tryz.ntmps24
  go_wp2_with fail
  refine (HW.out _).mono ?_
  rintro e w1 ⟨rfl, hb1⟩
  obtain ⟨c0, c1, c2, c3⟩ := (box4_new w (.int .i64 0) (.int .i64 0) (.int .i64 ((W : Int) - 1)) (.int .i64 ((H : Int) - 1)) 107).bel hb1 (by simp)
  have hz : w.heap.size < w1.heap.size := by have := hb1.size; simp at this; omega
  have HB : Below w.heap.size w w1 := (new_bel w _).trans (hb1.mono (by simp))
  clear hb1 HW
  go_wp2_with fail
  rw [EA.out]
  refine (HP.out _).mono ?_
  rintro e w2 ⟨RA, rc, rfl, hrects, hb2⟩
  rw [HL.out] at hrects ⊢
  have hb2' : Below (w1.heap.size + 1) (w1.alloc (.cells #[.int .i64 W, .int .i64 H, .int .i64 (tiles W), .slice none 0 0] 112)) w2 := by simpa using hb2
  have hd2 := (Blk.new w1 112 #[.int .i64 W, .int .i64 H, .int .i64 (tiles W), .slice none 0 0]).below hb2' (by omega)
  have HB2 : Below w.heap.size w w2 := (HB.alloc HB.size _).trans (hb2'.mono (by omega))
  have hzz : w1.heap.size < w2.heap.size := by have := hb2'.size; simp at this; omega
  have hrects' : w2.ownsRow w.heap.size 107 4 (.slice RA n rc) n (flt encR (pcs (allR W H))) := ownsRow_low hrects (by simp; omega)
  have HR := Lib.hid hrects'
  have HD := Lib.hid hd2
  clear hrects hrects' hd2 hb2 hb2' c0 c1 c2 c3 HP EA
  go_wp2_with fail
  go_loopw [37] (fun t wr => ∃ (k : Nat) (A : Option Addr) (c : Nat) (ps : List Nat), k ≤ n ∧ t = .int .i64 k ∧ Hid (NewAt w wr w.heap.size w1.heap.size W H v k A c ps) ∧ Hid (wr.ownsRow w.heap.size 107 4 (.slice RA n rc) n (flt encR (pcs (allR W H))))) (fun t _ => n - (intOf t).toNat)
  case atStart => exact ⟨0, none, 0, [], by omega, rfl, Lib.hid ⟨rfl, by simpa using World.ownsRow_nil _ _ _ _, HD.out, (fun i hi => by simp at hi), by simp, (fun b hb => by simp at hb), HB2⟩, HR⟩
  case round =>
    obtain ⟨k, A, c, ps, hk, rfl, HNA, HRr⟩ := hrel
    by_cases hlt : k < n
    · have hlt' : k < (pcs (allR W H)).length := by rw [HL.out]; exact hlt
      have hkx : k % tiles W < tiles W := Nat.mod_lt _ (tiles_pos h1)
      have hky : k / tiles W < tiles H := Nat.div_lt_of_lt_mul (by rw [HN.out]; exact hlt)
      obtain ⟨g, hRA, hg1, hg2, hcell⟩ := own_thing (l := pcs (allR W H)) encR_len (by rw [HL.out]; exact HRr.out) hlt'
      subst hRA
      rw [pcs_get _ _ hlt', allR_X h1] at hcell
      rcases allR_pc (W := W) (H := H) hkx hky with ⟨z1, z2, z3, z4, z5, z6⟩ | z | z
      · obtain ⟨r, hr⟩ : ∃ r, pc (allR W H) (k % tiles W) (k / tiles W) = r := ⟨_, rfl⟩
        rw [hr] at hcell z1 z2 z3 z4 z5 z6
        have e0 : wr.cell? ⟨g, k * 4, none⟩ = some (.int .i64 r.x0) := hcell 0 _ rfl
        have e1 : wr.cell? ⟨g, k * 4 + 1, none⟩ = some (.int .i64 r.y0) := hcell 1 _ rfl
        have e2 : wr.cell? ⟨g, k * 4 + 2, none⟩ = some (.int .i64 r.x1) := hcell 2 _ rfl
        have e3 : wr.cell? ⟨g, k * 4 + 3, none⟩ = some (.int .i64 r.y1) := hcell 3 _ rfl
        have t1 : (k : Int) < (n : Int) := by omega
        have p1 := tw_pos hkx
        have p2 := tw_pos hky
        have HNS := Lib.hid fun W' => sNew_ok (tw W (k % tiles W)) (tw H (k / tiles W)) v W' p1.1 p1.2 p2.1 p2.2 HV.out
        have HZ1 := Lib.hid z1
        have HZ2 := Lib.hid z2
        have y1 : 0 ≤ r.x1 := by omega
        have y2 : r.x1 ≤ 2048 := by omega
        have y3 : 0 ≤ r.y1 := by omega
        have y4 : r.y1 ≤ 2048 := by omega
        clear hcell hr hlt' z1 z2
        go_wp2_with fail
        rw [HZ1.out, HZ2.out]
        refine (HNS.out _).mono ?_
        rintro e w3 ⟨b, rfl, hbn, hS3, hb3⟩
        have hb3' : Below wr.heap.size wr w3 := (new_bel wr _).trans (hb3.mono (by simp))
        have hbn' : wr.heap.size ≤ b := by simp at hbn; omega
        have hd3 := HNA.out.head.kept hb3'
        have d3 : w3.cell? ⟨w1.heap.size, 3, none⟩ = some (.slice A k c) := hd3.cell 3
        have ow3 := ownsRow_below HNA.out.own hb3' (Nat.le_refl _)
        have ow3' := ow3.alloc (.cells #[ptrV b] 114)
        have hwr := HNA.out.below.size
        have hz3 := hb3'.size
        have hkeep := Lib.hid (And.intro hd3 (And.intro ow3' (And.intro hS3 (And.intro hb3' hbn'))))
        have HOW := Lib.hid ow3'
        have HNR := Lib.hid (reads_new1 w3 (ptrV b) 114)
        have hd4 := hd3.alloc (.cells #[ptrV b] 114)
        have HD4 := Lib.hid hd4
        clear hd3 hd4 ow3 ow3' hS3 hb3 hbn HNS e0 e1 e2 e3
        go_wp2_with (at_builtin; (go_must (refine wpList_append_appl _ rfl (.tmp 65) (.tmp 67) _ rfl w.heap.size 114 i0 _ 1 8 Tryz.underlying110 hi0 hz0 hz1 hz2 rfl (by omega) (.slice A k c) _ _ rfl (.inl HOW.out) (w3.heap.size + 1) (some ⟨w3.heap.size, 0, none⟩) 1 1 [ptrV b] rfl HNR.out (by intro u hu; simp at hu; subst hu; rfl) (.inl (by omega)) (by simp only [maxLen]; omega) (by omega) (by simp; omega) ?_)); intro v1 w4 hown4 hB4 hg4 hat4; obtain ⟨A4, c4, rfl, hs4⟩ := own_shape' hown4; obtain ⟨hq1, hq2⟩ : w4.cell? ⟨w1.heap.size, 3, none⟩ = some (.slice A k c) ∧ w4.frozen? ⟨w1.heap.size, 3, none⟩ = false := (by have hx := HD4.out.own_grown HOW.out (by decide) hg4; exact ⟨hx.cell 3, hx.frozen 3⟩))
        go_roundw
        case rel =>
          refine ⟨k + 1, A4, c4, ps ++ [b], by omega, by go_num, Lib.hid ?_, Lib.hid ?_⟩
          · exact HNA.out.next hwr (by omega) hkeep.out.2.2.2.1 hkeep.out.2.2.2.2 hkeep.out.2.2.1 hown4 hg4
          · have r1 := (ownsRow_below HRr.out hkeep.out.2.2.2.1 (Nat.le_refl _)).alloc (.cells #[ptrV b] 114)
            have r2 := own_grown r1 HOW.out (by decide) hg4
            exact own_set r2 (HD4.out.own_grown HOW.out (by decide) hg4) (by decide) 3 _
        case measure =>
          simp only [intOf]
          omega
      · omega
      · omega
    · have e : k = n := by omega
      subst e
      have hx := HN.out
      subst hx
      go_wp2_with fail
      go_ret2
      exact HNA.out.done h1 h2 h3 h4 (by omega)
end Go.Proofs.YtojlgfkjnkjcmaaGreatDoor

