/-
  Part 3 of the proof of the statement DownLevels: the texts SyGrid, Made, SyBox, Refs, Range, RVals, Paint, Lay, From, TierN, DownF, Level, GridAt, DownNil, Own, Sizes, RefLvl, DownIs, RLevel, MinMax, Land2, DownLevels, DownLevelsRow.
-/
import Derived.Deep.RegionHeld
import Derived.Test.YtccpgalpahfpaaaRows
import Derived.ProofKit
import Derived.OpenShut
import Derived.Lib.SmallJoins
import Derived.Test.YtccpgalpahfpaaaDownLevelsP2
/-
  Grids as a part of the heap; what the functions of a grid keep to, in these words.
-/
namespace Go.Proofs.Ytccpgalpahfpaaa
open Go.RowKit
open Sy
set_option linter.unusedVariables false
set_option linter.unusedSimpArgs false

theorem hmix : Try.prog.follows .mixedOrders = true := by kernel_rfl

/-- the blocks of a grid -/
def foot (gb sb T : Nat) (p : Nat → Nat) (q : Nat → Option Nat) (i : Nat) : Prop := i = gb ∨ i = sb ∨ ∃ k, k < T ∧ (i = p k ∨ q k = some i)
noncomputable def cutH (w : World) (F : Nat → Prop) : Hl := by
  classical
  exact fun i => if F i then w.heap[i]? else none
theorem cutH_in {w : World} {F : Nat → Prop} {i : Nat} (h : F i) : cutH w F i = w.heap[i]? := by unfold cutH; rw [if_pos h]
theorem cutH_out {w : World} {F : Nat → Prop} {i : Nat} (h : ¬ F i) : cutH w F i = none := by unfold cutH; rw [if_neg h]
theorem cutH_sub (w : World) (F : Nat → Prop) : Sub (cutH w F) w := by
  intro i o e
  by_cases c : F i
  · rwa [cutH_in c] at e
  · rw [cutH_out c] at e; cases e
/-- a part of the heap that is just a grid -/
def gridH (gb W H : Nat) (f : Nat → Nat → Int) : HP := fun h => ∃ w sb c p q, GridOpen w gb W H f sb c p q ∧ h = cutH w (foot gb sb (tiles W * tiles H) p q)
def GridAt (w : World) (gb W H : Nat) (f : Nat → Nat → Int) : Prop := ∃ sb c p q, GridOpen w gb W H f sb c p q

theorem SlabIs.agree {w w' : World} {b sw sh : Nat} {f : Nat → Int} {q : Option Nat} (h : SlabIs w b sw sh f q) (hb : w'.heap[b]? = w.heap[b]?) (hq : ∀ g, q = some g → w'.heap[g]? = w.heap[g]?) : SlabIs w' b sw sh f q := by
  obtain ⟨a1, a2, a3, a4, a5, v, hB, hL⟩ := h
  refine ⟨a1, a2, a3, a4, a5, v, hb.trans hB, ?_⟩
  cases q with
  | none => exact hL
  | some g => exact ⟨hL.1, (hq g rfl).trans hL.2⟩
theorem GridOpen.slab_k {w : World} {gb W H sb c : Nat} {f : Nat → Nat → Int} {p : Nat → Nat} {q : Nat → Option Nat} (h : GridOpen w gb W H f sb c p q) {k : Nat} (hk : k < tiles W * tiles H) : ∃ i j, SlabIs w (p k) (tw W i) (tw H j) (tileF f W i j) (q k) := by
  have hW := tiles_pos h.w1
  have e : k / tiles W * tiles W + k % tiles W = k := by rw [Nat.mul_comm]; exact Nat.div_add_mod k (tiles W)
  have := h.slabs (k % tiles W) (k / tiles W) (Nat.mod_lt _ hW) (Nat.div_lt_of_lt_mul hk)
  rw [e] at this
  exact ⟨_, _, this⟩
theorem GridOpen.there {w : World} {gb W H sb c : Nat} {f : Nat → Nat → Int} {p : Nat → Nat} {q : Nat → Option Nat} (h : GridOpen w gb W H f sb c p q) {i : Nat} (hi : foot gb sb (tiles W * tiles H) p q i) : ∃ t cs, Blk w i t cs := by
  rcases hi with rfl | rfl | ⟨k, hk, hi⟩
  · exact ⟨_, _, h.head⟩
  · obtain ⟨cur, hc, _⟩ := h.list
    exact ⟨_, _, hc⟩
  · obtain ⟨x, y, hs⟩ := h.slab_k hk
    rcases hi with rfl | hi
    · obtain ⟨cs, hb⟩ := hs.blk
      exact ⟨_, _, hb⟩
    · obtain ⟨cs, hb⟩ := hs.qblk hi
      exact ⟨_, _, hb⟩
theorem GridOpen.agree {w w' : World} {gb W H sb c : Nat} {f : Nat → Nat → Int} {p : Nat → Nat} {q : Nat → Option Nat} (h : GridOpen w gb W H f sb c p q) (ha : ∀ i, foot gb sb (tiles W * tiles H) p q i → w'.heap[i]? = w.heap[i]?) : GridOpen w' gb W H f sb c p q := by
  obtain ⟨cur, hc, hl⟩ := h.list
  refine ⟨h.w1, h.w2, h.h1, h.h2, (ha gb (.inl rfl)).trans h.head, ⟨cur, (ha sb (.inr (.inl rfl))).trans hc, hl⟩, fun i j hi hj => ?_, h.inj, h.inq⟩
  have hk := idx_lt hi hj
  exact (h.slabs i j hi hj).agree (ha _ (.inr (.inr ⟨_, hk, .inl rfl⟩))) fun g hg => ha _ (.inr (.inr ⟨_, hk, .inr hg⟩))

theorem gridH_open {gb W H : Nat} {f : Nat → Nat → Int} {h : Hl} {w : World} (g : gridH gb W H f h) (s : Sub h w) : ∃ sb c p q, GridOpen w gb W H f sb c p q ∧ h = cutH w (foot gb sb (tiles W * tiles H) p q) := by
  obtain ⟨w0, sb, c, p, q, hO, rfl⟩ := g
  have ha : ∀ i, foot gb sb (tiles W * tiles H) p q i → w.heap[i]? = w0.heap[i]? := fun i hi => by
    obtain ⟨t, cs, hb⟩ := hO.there hi
    have hb' : w0.heap[i]? = some (.cells cs t (0, 0)) := hb
    rw [hb']
    exact s i _ (by rw [cutH_in hi]; exact hb')
  refine ⟨sb, c, p, q, hO.agree ha, ?_⟩
  funext i
  by_cases c : foot gb sb (tiles W * tiles H) p q i
  · rw [cutH_in c, cutH_in c, ha i c]
  · rw [cutH_out c, cutH_out c]
theorem gridAt_of {gb W H : Nat} {f : Nat → Nat → Int} {w : World} (s : Sat (gridH gb W H f) w) : GridAt w gb W H f := by
  obtain ⟨h, hs, g⟩ := s
  obtain ⟨sb, c, p, q, hO, _⟩ := gridH_open g hs
  exact ⟨sb, c, p, q, hO⟩

section
variable {R : HP} {gb W H : Nat} {f : Nat → Nat → Int}
theorem gSize_p (hR : ∀ w, Sat R w → GridAt w gb W H f) : PureR Try.prog R 39 [.pointer (some ⟨gb, 0, none⟩)] (.tuple #[.int .i64 W, .int .i64 H]) := by
  refine PureR.of_below fun w s => ?_
  obtain ⟨sb, c, p, q, hO⟩ := hR w s
  exact gSize_any gb W H _ _ w hO.head
theorem gAll_p (hR : ∀ w, Sat R w → GridAt w gb W H f) : PureR Try.prog R 19 [.pointer (some ⟨gb, 0, none⟩)] (rectV 0 0 ((W : Int) - 1) ((H : Int) - 1)) := by
  refine PureR.of_below fun w s => ?_
  obtain ⟨sb, c, p, q, hO⟩ := hR w s
  have := hO.w1; have := hO.w2; have := hO.h1; have := hO.h2
  exact gAll_any gb W H _ _ w hO.head (by omega) (by omega) (by omega) (by omega)
theorem gValues_f (hR : ∀ w, Sat R w → GridAt w gb W H f) (x0 y0 x1 y1 : Nat) (r2 : x0 ≤ x1) (r3 : x1 < W) (r5 : y0 ≤ y1) (r6 : y1 < H) :
    FnR Try.prog R 29 [.pointer (some ⟨gb, 0, none⟩), rectV x0 y0 x1 y1] [] fun r hs => ∃ A c, r = .tuple #[.slice A (vRows f x0 (x1 - x0 + 1) y0 (y1 - y0 + 1)).length c, .int .i64 0] ∧
      hs = [rowH (.slice A (vRows f x0 (x1 - x0 + 1) y0 (y1 - y0 + 1)).length c) (vRows f x0 (x1 - x0 + 1) y0 (y1 - y0 + 1)).length 2 1 (ints (vRows f x0 (x1 - x0 + 1) y0 (y1 - y0 + 1)))] := by
  intro w s
  obtain ⟨sb, c, p, q, hO⟩ := hR w s
  refine (gValues_ok (F := fun _ => True) ⟨sb, c, p, q, hO, fun _ _ => ⟨trivial, fun _ _ => trivial⟩⟩ x0 y0 x1 y1 r2 r3 r5 r6).mono ?_
  rintro e w' ⟨A, c, rfl, hown, hb⟩
  exact ⟨_, _, rfl, ⟨A, c, rfl, rfl⟩, sat_row s hb hown, .of_below hb⟩
theorem gNew_f (v : Int) (h1 : 1 ≤ W) (h2 : W ≤ 1024) (h3 : 1 ≤ H) (h4 : H ≤ 1024) (hv : MayV v) :
    FnR Try.prog R 37 [.int .i64 W, .int .i64 H, .int .i64 v] [] fun r hs => ∃ gb, r = .tuple #[.pointer (some ⟨gb, 0, none⟩), .int .i64 0] ∧ hs = [gridH gb W H fun _ _ => v] := by
  rintro w ⟨h2', s2, hR⟩
  refine (gNew_ok W H v w h1 h2 h3 h4 hv).mono ?_
  rintro e w' ⟨gb, rfl, hgb, ⟨sb, c, p, q, hsb, hO, hF⟩, hb⟩
  refine ⟨_, _, rfl, ⟨gb, rfl, rfl⟩, ⟨_, (cutH_sub w' (foot gb sb (tiles W * tiles H) p q)).un (s2.below hb), _, h2', fun i => ?_, rfl, ⟨w', sb, c, p, q, hO, rfl⟩, hR⟩, .of_below hb⟩
  by_cases c0 : foot gb sb (tiles W * tiles H) p q i
  · right
    refine s2.none ?_
    rcases c0 with rfl | rfl | ⟨k, hk, rfl | hq⟩
    · exact hgb
    · exact hsb
    · exact (hF k hk).1.1
    · exact ((hF k hk).2 _ hq).1
  · exact .inl (cutH_out c0)
theorem gFill_f (r : Rc) (v : Int) (r1 : 0 ≤ r.x0) (r2 : r.x0 ≤ r.x1) (r3 : r.x1 < W) (r4 : 0 ≤ r.y0) (r5 : r.y0 ≤ r.y1) (r6 : r.y1 < H) (hv : MayV v) :
    FnR Try.prog R 18 [.pointer (some ⟨gb, 0, none⟩), rectV r.x0 r.y0 r.x1 r.y1, .int .i64 v] [gridH gb W H f] fun x hs => x = .int .i64 0 ∧ hs = [gridH gb W H (fillG r v f)] := by
  rintro w ⟨h, hsub, h1, h2, d, rfl, hg, hR⟩
  obtain ⟨sb, c, p, q, hO, rfl⟩ := gridH_open hg hsub.left
  let F : Nat → Prop := fun i => ∃ k, k < tiles W * tiles H ∧ (i = p k ∨ q k = some i)
  refine (gFill_ok (F := F) ⟨sb, c, p, q, hO, fun k hk => ⟨⟨k, hk, .inl rfl⟩, fun g hg => ⟨k, hk, .inr hg⟩⟩⟩ r v r1 r2 r3 r4 r5 r6 hv).mono ?_
  rintro e w' ⟨rfl, ⟨sb', c', p', q', hO', hF'⟩, hT⟩
  have hne : ∀ i, F i → i ≠ gb ∧ i ≠ sb := by
    rintro i ⟨k, hk, hi⟩
    obtain ⟨x, y, hs⟩ := hO.slab_k hk
    obtain ⟨cur, hc, _⟩ := hO.list
    rcases hi with rfl | hi
    · obtain ⟨cs, hb⟩ := hs.blk
      exact ⟨hb.ne_ hO.head (by decide), hb.ne_ hc (by decide)⟩
    · obtain ⟨cs, hb⟩ := hs.qblk hi
      exact ⟨hb.ne_ hO.head (by decide), hb.ne_ hc (by decide)⟩
  have hsb : sb' = sb := by
    have e1 : Blk w' gb _ _ := hO.head.touch hT fun c0 => (hne gb c0).1 rfl
    have e1' : w'.heap[gb]? = _ := e1
    have e2 : w'.heap[gb]? = _ := hO'.head
    rw [e1'] at e2
    injection e2 with e2
    injection e2 with e2
    have e3 := congrArg (fun a : Array Value => a[3]?) e2
    simp at e3
    exact e3.1.symm
  subst hsb
  have s2 : Sub h2 w' := fun i o e => by
    have hi := hsub.right d i o e
    have hlt := (Array.getElem?_eq_some_iff.1 hi).1
    rw [hT.block i hlt ?_]
    · exact hi
    · intro c0
      have hf : foot gb sb' (tiles W * tiles H) p q i := .inr (.inr c0)
      rcases d i with x | x
      · rw [cutH_in hf, hi] at x; cases x
      · rw [x] at e; cases e
  refine ⟨_, _, rfl, ⟨rfl, rfl⟩, ⟨_, (cutH_sub w' (foot gb sb' (tiles W * tiles H) p' q')).un s2, _, h2, fun i => ?_, rfl, ⟨w', sb', c', p', q', hO', rfl⟩, hR⟩, ⟨hT.os, hT.tape, hT.output, hT.size⟩⟩
  by_cases c0 : foot gb sb' (tiles W * tiles H) p' q' i
  · right
    have old : foot gb sb' (tiles W * tiles H) p q i → h2 i = none := fun hf => by
      rcases d i with x | x
      · rw [cutH_in hf] at x
        obtain ⟨t, cs, hb⟩ := hO.there hf
        have hb' : w.heap[i]? = _ := hb
        rw [hb'] at x; cases x
      · exact x
    have new : F i ∨ (w.heap.size ≤ i ∧ i < w'.heap.size) → h2 i = none := fun hf => by
      rcases hf with hf | hf
      · exact old (.inr (.inr hf))
      · exact (hsub.right d).none hf.1
    rcases c0 with rfl | rfl | ⟨k, hk, rfl | hq⟩
    · exact old (.inl rfl)
    · exact old (.inr (.inl rfl))
    · exact new (hF' k hk).1
    · exact new ((hF' k hk).2 _ hq)
  · exact .inl (cutH_out c0)
end
end Go.Proofs.Ytccpgalpahfpaaa

/-
  A grid of a size with values: Land, Set, Made.
-/
namespace Go.Proofs.Ytccpgalpahfpaaa
open Go.RowKit
open Sy
set_option linter.unusedVariables false
set_option linter.unusedSimpArgs false
set_option maxRecDepth 100000
set_option maxHeartbeats 2000000

theorem sMay (v : Int) (R : HP) : PureR Try.prog R 36 [.int .i64 v] (.bool (decide (MayV v))) := PureR.of_below fun w _ => (rMay_any v w).mono fun e w' ⟨h1, h2⟩ => ⟨h1, by subst h2; exact Below.refl _ _⟩
theorem sSpot (x y : Int) (R : HP) : PureR Try.prog R 73 [cellV x y] (rectV x y x y) := PureR.of_below fun w _ => gspot_any x y w

theorem gSet_f {R : HP} {gb W H : Nat} {f : Nat → Nat → Int} (x y : Nat) (v : Int) (hx : x < W) (hy : y < H) (hv : MayV v) :
    FnR Try.prog R 38 [.pointer (some ⟨gb, 0, none⟩), cellV x y, .int .i64 v] [gridH gb W H f] fun r hs => r = .int .i64 0 ∧ hs = [gridH gb W H (fillG ⟨x, y, x, y⟩ v f)] := by
  refine fn_of_run0 false Try.func38 rfl hmix rfl fun w0 => ?_
  conv => whnf
  refine ⟨trivial, CallAt.pure (fun R' _ => sSpot x y R') ?_⟩
  conv => whnf
  refine ⟨trivial, CallAt.fn [] (fun h s => s) (fun R' _ => gFill_f ⟨x, y, x, y⟩ v (by simp only; omega) (by simp only; omega) (by simp only; omega) (by simp only; omega) (by simp only; omega) (by simp only; omega) hv) ?_⟩
  rintro r hs ⟨rfl, rfl⟩
  conv => whnf
  exact ⟨trivial, .mk _ (fun w s => s) ⟨rfl, rfl⟩⟩

theorem gSet_i {R : HP} {gb W H : Nat} {f : Nat → Nat → Int} {x y v : Int} (X Y : Nat) (ex : x = X) (ey : y = Y) (hx : X < W) (hy : Y < H) (hv : MayV v) :
    FnR Try.prog R 38 [.pointer (some ⟨gb, 0, none⟩), .agg #[.int .i64 x, .int .i64 y], .int .i64 v] [gridH gb W H f] fun r hs => r = .int .i64 0 ∧ hs = [gridH gb W H (fillG ⟨X, Y, X, Y⟩ v f)] := by
  subst ex ey
  exact gSet_f X Y v hx hy hv
theorem tileF_congr {f g : Nat → Nat → Int} {W H i j : Nat} (h : ∀ x y, x < W → y < H → f x y = g x y) (hi : i < tiles W) (hj : j < tiles H) {k : Nat} (hk : k < tw W i * tw H j) : tileF f W i j k = tileF g W i j k := by
  unfold tileF
  have h1 := tw_pos hi
  have h2 : k % tw W i < tw W i := Nat.mod_lt _ (by omega)
  have h3 : k / tw W i < tw H j := Nat.div_lt_of_lt_mul hk
  refine h _ _ ?_ ?_
  · have h4 : tw W i ≤ W - 16 * i := Nat.min_le_right _ _
    omega
  · have h4 : tw H j ≤ H - 16 * j := Nat.min_le_right _ _
    generalize k / tw W i = z at *
    omega
theorem gridH_congr {gb W H : Nat} {f g : Nat → Nat → Int} (e : ∀ x y, x < W → y < H → f x y = g x y) {h : Hl} (hg : gridH gb W H f h) : gridH gb W H g h := by
  obtain ⟨w, sb, c, p, q, hO, rfl⟩ := hg
  exact ⟨w, sb, c, p, q, ⟨hO.w1, hO.w2, hO.h1, hO.h2, hO.head, hO.list, fun i j hi hj => (hO.slabs i j hi hj).congr fun k hk => tileF_congr e hi hj hk, hO.inj, hO.inq⟩, rfl⟩
/-- the cells that a list of values has, row by row -/
def gv (W : Nat) (l : List Int) (x y : Nat) : Int := l.getD (y * W + x) 0
def gvK (W : Nat) (l : List Int) (k x y : Nat) : Int := if y * W + x < k then l.getD (y * W + x) 0 else 0
theorem gvK_all {W H : Nat} {l : List Int} {x y : Nat} (hx : x < W) (hy : y < H) : gvK W l (W * H) x y = gv W l x y := by
  unfold gvK gv
  rw [if_pos (idx_lt hx hy)]
theorem xy_of {W k x y : Nat} (hx : x < W) : y * W + x = k ↔ x = k % W ∧ y = k / W := by
  constructor
  · rintro rfl
    rw [Nat.mul_comm, Nat.mul_add_mod, Nat.mod_eq_of_lt hx, Nat.mul_add_div (by omega), Nat.div_eq_of_lt hx]
    simp
  · rintro ⟨rfl, rfl⟩
    rw [Nat.mul_comm]; exact Nat.div_add_mod k W
theorem gvK_same {W : Nat} {l : List Int} {k x y : Nat} (hx : x < W) (h : l.getD k 0 = 0) : gvK W l k x y = gvK W l (k + 1) x y := by
  unfold gvK
  by_cases c : y * W + x < k
  · rw [if_pos c, if_pos (by omega)]
  · rw [if_neg c]
    by_cases c2 : y * W + x = k
    · rw [c2, if_pos (by omega), h]
    · rw [if_neg (by omega)]
theorem gvK_set {W : Nat} {l : List Int} {k x y : Nat} (hx : x < W) : fillG ⟨((k % W : Nat) : Int), ((k / W : Nat) : Int), ((k % W : Nat) : Int), ((k / W : Nat) : Int)⟩ (l.getD k 0) (gvK W l k) x y = gvK W l (k + 1) x y := by
  unfold fillG
  by_cases c : y * W + x = k
  · obtain ⟨h1, h2⟩ := (xy_of hx).1 c
    rw [if_pos ((inR_iff _ _ _).2 ⟨by simp only; omega, by simp only; omega, by simp only; omega, by simp only; omega⟩)]
    unfold gvK
    rw [if_pos (by omega), c]
  · rw [if_neg]
    · unfold gvK
      by_cases c2 : y * W + x < k
      · rw [if_pos c2, if_pos (by omega)]
      · rw [if_neg c2, if_neg (by omega)]
    · intro h
      have := (inR_iff _ _ _).1 h
      simp only at this
      exact c ((xy_of hx).2 ⟨by omega, by omega⟩)

theorem sMade (W H : Nat) (b off n c : Nat) (l : List Int) (R : HP) (h1 : 1 ≤ W) (h2 : W ≤ 1024) (h3 : 1 ≤ H) (h4 : H ≤ 1024) (hl : l.length = n) (hn : W * H = n) (hm : ∀ v ∈ l, MayV v)
    (hR : ∀ w, Sat R w → ∀ (k : Nat) (hk : k < l.length), w.cell? ⟨b, off + k, none⟩ = some (.int .i64 l[k])) :
    FnR Try.prog R 13 [.int .i64 W, .int .i64 H, .slice (some ⟨b, off, none⟩) n c] [] fun r hs => ∃ gb, r = .tuple #[.pointer (some ⟨gb, 0, none⟩), .bool true] ∧ hs = [gridH gb W H (gv W l)] := by
  have hn2 : n ≤ 1048576 := by rw [← hn]; exact Nat.mul_le_mul h2 h4
  have hmul : (W : Int) * (H : Int) = (n : Int) := by rw [← hn]; simp
  refine fn_of_run0 false Try.func13 rfl hmix rfl fun w0 => ?_
  conv => whnf
  refine ⟨trivial, CallAt.fn [] (fun h s => s) (fun R' _ => gNew_f 0 h1 h2 h3 h4 ⟨by decide, by decide⟩) ?_⟩
  rintro r hs ⟨gb, rfl, rfl⟩
  conv => whnf
  refine ⟨fun h5 => ?_, fun h5 => absurd h5 (by decide)⟩
  conv => whnf
  refine ⟨fun h6 => absurd h6 (by simp; omega), fun h6 => ?_⟩
  conv => whnf
  have hr1 : rng .i64 ((W : Int) * (H : Int)) := by unfold rng; omega
  refine ⟨⟨trivial, hr1⟩, LoopAt.of (α := Nat) [0, 1, 2, 8] (fun k => [(10, .v (.int .i64 (k : Int)))]) (fun _ => []) (fun k => [gridH gb W H (gvK W l k)]) (fun k => k ≤ n) (fun k => n - k) 0 (Nat.zero_le _) ?_ ?_⟩
  · exact Le.of (Nat.le_refl _) (Nat.le_refl _) ⟨⟨rfl, rfl⟩, ⟨rfl, rfl⟩, ⟨rfl, rfl⟩, ⟨rfl, rfl⟩, ⟨rfl, rfl⟩, trivial⟩ trivial fun h s => ⟨h, fun _ _ e => e, sep_mono s (fun _ g => gridH_congr (fun x y _ _ => by simp [gvK]) g) fun _ x => x⟩
  · intro k hk
    conv => whnf
    refine ⟨fun h7 => ?_, fun h7 => ?_⟩
    · have g7 : k < n := by simp at h7; omega
      have hkl : k < l.length := by omega
      conv => whnf
      refine ⟨⟨trivial, hr1⟩, RegAt.tail 18 hmix (by kernel_rfl) ?_⟩
      conv => whnf
      refine ⟨⟨trivial, by omega⟩, LoadAt.cell (.int .i64 l[k]) rfl rfl (fun w hw => hR w (Sat.right hw) k hkl) ?_⟩
      conv => whnf
      refine ⟨fun h8 => ?_, fun h8 => ?_⟩
      · have hx : k % W < W := Nat.mod_lt _ (by omega)
        have hy : k / W < H := Nat.div_lt_of_lt_mul (by omega)
        have hq : (k / W : Nat) ≤ k := Nat.div_le_self _ _
        conv => whnf
        refine ⟨⟨⟨⟨trivial, by omega, by omega⟩, ⟨by omega, by omega⟩, ?_⟩, by omega⟩, LoadAt.cell (.int .i64 l[k]) rfl rfl (fun w hw => hR w (Sat.right hw) k hkl) ?_⟩
        · have hq' : ((k / W : Nat) : Int) ≤ (k : Int) := Int.ofNat_le.2 hq
          exact ⟨Int.le_trans (by decide) (Int.natCast_nonneg (k / W)), Int.le_trans hq' (by omega)⟩
        conv => whnf
        refine ⟨trivial, CallAt.fn [] (fun h s => s) (fun R' _ => gSet_i (k % W) (k / W) rfl rfl hx hy (hm _ (List.getElem_mem hkl))) ?_⟩
        rintro r hs ⟨rfl, rfl⟩
        conv => whnf
        refine ⟨trivial, ?_⟩
        conv => whnf
        refine ⟨fun h9 => absurd h9 (by decide), fun h9 => ?_⟩
        conv => whnf
        refine ⟨⟨trivial, by unfold rng; omega⟩, .mk (k + 1) g7 (by omega) ?_⟩
        refine Le.of (Nat.le_refl _) (Nat.le_refl _) ⟨⟨rfl, rfl⟩, ⟨rfl, rfl⟩, ⟨rfl, rfl⟩, ⟨rfl, rfl⟩, ⟨rfl, rfl⟩, trivial⟩ trivial fun h s => ⟨h, fun _ _ e => e, sep_mono s (fun _ g => gridH_congr (fun x y hx' _ => ?_) g) fun _ x => x⟩
        have := gvK_set (l := l) (k := k) (y := y) hx'
        rw [List.getD_eq_getElem?_getD, List.getElem?_eq_getElem hkl] at this
        exact this
      · have h8' : l[k] = 0 := by simpa using h8
        conv => whnf
        refine ⟨trivial, ?_⟩
        conv => whnf
        refine ⟨⟨trivial, by unfold rng; omega⟩, .mk (k + 1) g7 (by omega) ?_⟩
        refine Le.of (Nat.le_refl _) (Nat.le_refl _) ⟨⟨rfl, rfl⟩, ⟨rfl, rfl⟩, ⟨rfl, rfl⟩, ⟨rfl, rfl⟩, ⟨rfl, rfl⟩, trivial⟩ trivial fun h s => ⟨h, fun _ _ e => e, sep_mono s (fun _ g => gridH_congr (fun x y hx' _ => ?_) g) fun _ x => x⟩
        exact gvK_same hx' (by rw [List.getD_eq_getElem?_getD, List.getElem?_eq_getElem hkl]; simpa using h8')
    · have g7 : k = n := by simp at h7; omega
      subst g7
      conv => whnf
      refine ⟨⟨trivial, hr1⟩, .mk [gridH gb W H (gv W l)] (fun w ⟨h, hs, s⟩ => ⟨h, hs, sep_mono s (fun _ g => gridH_congr (fun x y hx hy => ?_) g) fun _ x => x⟩) ⟨gb, rfl, rfl⟩⟩
      rw [← hn]
      exact gvK_all hx hy
end Go.Proofs.Ytccpgalpahfpaaa

/-
  Symbolic runs: a region that draws its order, reads, and at its end makes a variable of what it has read.
-/
namespace Go.Proofs.Ytccpgalpahfpaaa
open Go.RowKit
namespace Sy
set_option linter.unusedVariables false
set_option linter.unusedSimpArgs false

/-- an operation that leaves the world alone -/
def opS (G : Gl) (o : Oper) (st : St) (K : St → Prop) : Prop :=
  match o.op with
  | .load t x => ev st x False fun vx => match vx with
    | .v (.pointer (some ad)) => stp st fun st => LoadAt G t ad st fun r => putK G st o.dst r none K
    | _ => q1 G.P G.tr st o False fun r q => putK G st o.dst r q K
  | _ => q1 G.P G.tr st o False fun r q => putK G st o.dst r q K
def Still1 (G : Gl) (o : Oper) (st : St) (K : St → Prop) : Prop :=
  st.c ∧ ∀ ρ a w0, Tm G st ρ a → Mem G st ρ w0 → ∃ v st', K st' ∧ SameM st st' ∧ (∀ w, Mem G st ρ w → (execOp a.eval o).run G.P w = .ok (.value v) w) ∧ Tm G st' ρ (a.put o.dst v)
theorem still_q1 {G : Gl} {o : Oper} {st : St} {K : St → Prop} (hK : Good K) (h : q1 G.P G.tr st o False fun r q => putK G st o.dst r q K) : Still1 G o st K := by
  rcases q1_sound h with h | ⟨x, q, h, hy⟩
  · exact h.elim
  · obtain ⟨⟨hc, hq⟩, hp⟩ := putK_same h hK
    refine ⟨hc, fun ρ a w0 m mm0 => ?_⟩
    have hy := hy hq
    obtain ⟨v, e1, e2⟩ := hy G ρ a w0 m mm0.ob
    obtain ⟨st', k, hs, m'⟩ := hp ρ a v e1 m
    refine ⟨v, st', k, hs, fun w' mm' => ?_, m'⟩
    obtain ⟨v', e3, e4⟩ := hy G ρ a w' m mm'.ob
    rw [e1] at e3
    injection e3 with e3
    subst e3
    exact e4
theorem opS_sound {G : Gl} {o : Oper} {st : St} {K : St → Prop} (h : opS G o st K) (hK : Good K) : Still1 G o st K := by
  unfold opS at h
  split at h
  case h_1 t x ho =>
    rcases ev_sound h with h | ⟨sx, h, ex⟩
    · exact h.elim
    split at h
    · rename_i ad
      obtain ⟨hc, ⟨r, hr, h⟩⟩ := stp_iff.1 h
      refine ⟨hc, fun ρ a w0 m mm0 => ?_⟩
      obtain ⟨_, hp⟩ := putK_same h hK
      obtain ⟨st', k, hs, m'⟩ := hp ρ a r rfl (m.same rfl)
      refine ⟨r, st', k, hs, fun w mm => ?_, m'⟩
      have h1 := ex G ρ a m
      simp only [SV.den, Option.some.injEq] at h1
      simp [execOp, ho, ← h1, hr ρ w (mm.same rfl rfl rfl)]
    · exact still_q1 hK h
  case h_2 => exact still_q1 hK h

/-- the operations that are left when the first k are through -/
def restB (ops : Array Oper) : Nat → Nat → Array Bool → Bool
  | 0, k, ls => decide (Region.ready .any ops ls = [k]) && (decide (Region.ready .any ops (ls.setIfInBounds k true) = [k + 1]) && decide (Region.ready .any ops ((ls.setIfInBounds k true).setIfInBounds (k + 1) true) = []))
  | f + 1, k, ls => (Region.ready .any ops ls).contains k && (Region.free .any ops ls k && restB ops f (k + 1) (ls.setIfInBounds k true))
def boxB (l : List Oper) (n : Nat) : Bool := Region.noSelect l.toArray && (decide (l.length = n + 2) && restB l.toArray n 0 (Array.replicate l.toArray.size false))

def chk (cs : List SV) (size : Nat) (A : Prop) : Prop := match Nat.beq cs.length size with
  | true => match oneL cs with
    | true => A
    | false => False
  | false => False
theorem chk_sound {cs : List SV} {size : Nat} {A : Prop} (h : chk cs size A) : cs.length = size ∧ oneL cs = true ∧ A := by
  unfold chk at h
  split at h
  · rename_i e
    split at h
    · rename_i e'; exact ⟨beq_of e, e', h⟩
    · exact h.elim
  · exact h.elim
/-- the variable is made, and takes its value -/
def mkBox (G : Gl) (d : Nat) (t : TypeId) (y : Operand) (size : Nat) (st : St) (K : St → Prop) : Prop := ev st y False fun vy => cellsK vy fun cs => chk cs size (newO G (some d) t cs st K)
theorem mkBox_sound {G : Gl} {d : Nat} {t : TypeId} {y : Operand} {size : Nat} {st : St} {K : St → Prop} (h : mkBox G d t y size st K) : ∃ (vy : SV) (cs : List SV), (∀ G ρ a, Tm G st ρ a → vy.den ρ = some (a.eval y)) ∧ (∀ ρ v, vy.den ρ = some v → denL ρ cs = some v.cells.toList) ∧ cs.length = size ∧ oneL cs = true ∧ newO G (some d) t cs st K := by
  rcases ev_sound h with h | ⟨s, h, e⟩
  · exact h.elim
  obtain ⟨cs, h, hd⟩ := cellsK_sound h
  obtain ⟨h1, h2, h3⟩ := chk_sound h
  exact ⟨s, cs, e, hd, h1, h2, h3⟩

theorem held_ops {G : Gl} {all : List Oper} {ρ : List Nat} {S : World → Prop} {Q : Exit → Act → World → Prop} {F : St → Prop} (hsel : Region.noSelect all.toArray = true) (hF : Good F) (hQ : ∀ d v c a w, Q (.panic c) (Act.put a d v) w → Q (.panic c) a w) :
    ∀ (l : List Oper) (k : Nat) (ls : Array Bool) (st : St) (a : Act) (w : World), (∀ j, j < l.length → l[j]? = all[k + j]?) → (∀ w, S w → Mem G st ρ w) → S w → restB all.toArray l.length k ls = true → opsG (opS G) G all l st F → Tm G st ρ a →
      (∀ st' a' ls', SameM st st' → F st' → Tm G st' ρ a' → restB all.toArray 0 (k + l.length) ls' = true → wpAnyH G.P .any all.toArray Q S 2 ls' a' w) → wpAnyH G.P .any all.toArray Q S (l.length + 2) ls a w := by
  intro l
  induction l with
  | nil =>
    intro k ls st a w _ _ _ hB h m fin
    simp only [List.length_nil, Nat.zero_add]
    exact fin st a ls ⟨rfl, rfl, rfl⟩ h m (by simpa using hB)
  | cons o l ih =>
    intro k ls st a w hl hS hw hB h m fin
    have h0 : all.toArray[k]? = some o := by simpa using (hl 0 (by simp)).symm
    simp only [List.length_cons, restB, Bool.and_eq_true] at hB
    obtain ⟨hr, hf, hB'⟩ := hB
    have good : ∀ l, Good (fun st => opsG (opS G) G all l st F) := by
      intro l
      induction l with
      | nil => exact hF
      | cons o l ihg =>
        intro st h
        unfold opsG at h
        split at h
        · exact (opS_sound h ihg).1
        · rename_i j want hg
          split at h
          · split at h
            · split at h
              · split at h
                · exact (opS_sound h ihg).1
                · exact (putK_same h ihg).1.1
              · rename_i b hx
                by_cases hb : b = want
                · exact (opS_sound (h.1 hb) ihg).1
                · exact (putK_same (h.2 (by cases b <;> cases want <;> simp_all)) ihg).1.1
              · exact h.elim
            · exact h.elim
          · exact h.elim
    have step : ∀ (st1 st' : St) (a1 : Act) (v : Value), SameM st st1 → SameM st1 st' → opsG (opS G) G all l st' F → Tm G st' ρ (a1.put o.dst v) → a1 = a → YieldsIf G.P all.toArray S o v a → wpAnyH G.P .any all.toArray Q S ((o :: l).length + 2) ls a w := by
      rintro st1 st' a1 v s1 s2 k' m' rfl hy
      have s3 : SameM st st' := ⟨s2.1.trans s1.1, s2.2.1.trans s1.2.1, s2.2.2.trans s1.2.2⟩
      have : (o :: l).length + 2 = (l.length + 2) + 1 := by simp only [List.length_cons]
      rw [this]
      refine wpAnyH_take h0 hsel hf hr (fun c a w => hQ _ _ c a w) hy hw ?_
      refine ih (k + 1) _ st' _ w (fun j hj => ?_) (fun w hw => s3.mem.2 (hS w hw)) hw hB' k' m' ?_
      · have := hl (j + 1) (by simp; omega)
        simpa [Nat.add_assoc, Nat.add_comm 1 j] using this
      · intro st2 a2 ls2 s4 f2 m2 hb2
        refine fin st2 a2 ls2 ⟨s4.1.trans s3.1, s4.2.1.trans s3.2.1, s4.2.2.trans s3.2.2⟩ f2 m2 ?_
        have : k + (o :: l).length = k + 1 + l.length := by simp only [List.length_cons]; omega
        rw [this]; exact hb2
    have yes : ∀ st1 : St, SameM st st1 → Tm G st1 ρ a → (opS G o st1 fun st => opsG (opS G) G all l st F) → Region.wanted o (yielded all.toArray a.tmps) = true → wpAnyH G.P .any all.toArray Q S ((o :: l).length + 2) ls a w := by
      intro st1 s1 m1 h hwt
      obtain ⟨_, hq⟩ := opS_sound h (good l)
      obtain ⟨v, st', k', s2, hr', m'⟩ := hq ρ a w m1 (s1.mem.2 (hS w hw))
      exact step st1 st' a v s1 s2 k' m' rfl (.inl ⟨hwt, fun w hw => hr' w (s1.mem.2 (hS w hw))⟩)
    have no : ∀ st1 : St, SameM st st1 → Tm G st1 ρ a → (putK G st1 o.dst (.v undef) none fun st => opsG (opS G) G all l st F) → Region.wanted o (yielded all.toArray a.tmps) = false → wpAnyH G.P .any all.toArray Q S ((o :: l).length + 2) ls a w := by
      intro st1 s1 m1 h hwt
      obtain ⟨_, hp⟩ := putK_same h (good l)
      obtain ⟨st', k', s2, m'⟩ := hp ρ a undef rfl m1
      exact step st1 st' a undef s1 s2 k' m' rfl (.inr ⟨hwt, rfl⟩)
    unfold opsG at h
    split at h
    · rename_i hg
      exact yes st ⟨rfl, rfl, rfl⟩ m h (wanted_none hg _)
    · rename_i j want hg
      split at h
      · rename_i oj hj
        split at h
        · rename_i t ht
          split at h
          · rename_i b hx
            split at h
            · rename_i hb
              exact yes st ⟨rfl, rfl, rfl⟩ m h (by rw [wanted_eq hg hj ht hx rfl m, hb])
            · rename_i hb
              exact no st ⟨rfl, rfl, rfl⟩ m h (by rw [wanted_eq hg hj ht hx rfl m, hb])
          · rename_i b hx
            by_cases hb : b = want
            · subst hb
              exact yes (seen st t b) ⟨rfl, rfl, rfl⟩ (seen_tm m hx) (h.1 rfl) (by rw [wanted_eq hg hj ht hx rfl m]; simp)
            · have hb' : b = !want := by cases b <;> cases want <;> simp_all
              subst hb'
              exact no (seen st t (!want)) ⟨rfl, rfl, rfl⟩ (seen_tm m hx) (h.2 rfl) (by rw [wanted_eq hg hj ht hx rfl m]; simp)
          · exact h.elim
        · exact h.elim
      · exact h.elim

theorem RegAt.box {G : Gl} {id : Nat} {l : List Oper} {st : St} {K : St → Prop} (n d : Nat) (t : TypeId) (y : Operand) {i : TypeInfo} {z : Value} {oa os : Oper} (hm : G.P.follows .mixedOrders = true) (hB : boxB l n = true) (ha : l[n]? = some oa) (hs : l[n + 1]? = some os)
    (ho1 : oa.op = .alloc t) (ho2 : oa.dst = some d) (ho3 : oa.guard = none) (hs1 : os.op = .store t (.tmp d) y) (hs2 : os.dst = none) (hs3 : os.guard = none) (hi : G.P.info? t = some i) (hz : i.zero = some z) (hzs : z.cells.size = i.size) (hyd : ∀ s, y = .tmp s → Nat.beq s d = false)
    (h : opsG (opS G) G l (l.take n) st fun st => mkBox G d t y i.size st fun st => stp st K) : RegAt G id l.toArray st K := by
  refine .mk fun ρ a w m mm => ?_
  simp only [boxB, Bool.and_eq_true, decide_eq_true_eq] at hB
  obtain ⟨hsel, hlen, hrest⟩ := hB
  have htl : (l.take n).length = n := by simp; omega
  have good : Good fun st => mkBox G d t y i.size st fun st => stp st K := by
    intro st h
    obtain ⟨_, _, _, _, _, _, h⟩ := mkBox_sound h
    exact (newO_sound h good_stp).1
  refine wp_region_held (S := fun w' => Below w.heap.size w w') hm ?_
  have hsz : l.toArray.size = (l.take n).length + 2 := by rw [htl]; simpa using hlen
  rw [hsz]
  have hw1 : Below w.heap.size w { w with drawn := w.drawn + 1 } := (Below.refl _ _).drew
  refine held_ops (ρ := ρ) (F := fun st => mkBox G d t y i.size st fun st => stp st K) hsel good (fun d v c a w hq => by obtain ⟨hq, _⟩ := hq; cases hq) (l.take n) 0 _ st a _ (fun j hj => ?_) (fun w' hw' => mm.below hw') hw1 (by rw [htl, (show n + 2 = l.toArray.size from by rw [hsz, htl])]; exact hrest) h m ?_
  · rw [htl] at hj
    simp [hj]
  · intro st1 a1 ls s1 k m1 hb
    rw [htl, Nat.zero_add] at hb
    simp only [restB, Bool.and_eq_true, decide_eq_true_eq] at hb
    obtain ⟨b1, b2, b3⟩ := hb
    obtain ⟨vy, cs, hy1, hy2, hcl, hone, hnew⟩ := mkBox_sound k
    have ea : l.toArray[n]? = some oa := by simpa using ha
    have es : l.toArray[n + 1]? = some os := by simpa using hs
    refine wpAnyH_all b1 (by simp) fun j hj => ?_
    have hjn : n = j := (by simpa using hj : j = n).symm
    subst hjn
    unfold wpOp
    simp only [ea]
    rw [if_pos (wanted_none ho3 _)]
    left
    generalize hW : ({ w with drawn := w.drawn + 1 } : World) = W at *
    have hrun1 : (execOp a1.eval oa).run G.P W = .ok (.value (.pointer (some ⟨W.heap.size, 0, none⟩))) (W.alloc (.cells z.cells t)) := by
      simp [execOp, ho1, Instr.alloc, zeroValue, typeInfo, hi, hz, newVar, newRow, newObj]
      rfl
    unfold Oper.wp
    rw [hrun1]
    simp only [Oper.upon, ho2]
    have hW1 : Below w.heap.size w (W.alloc (.cells z.cells t)) := hw1.alloc hw1.size _
    refine ⟨hW1, wpAnyH_all b2 (by simp) fun j hj => ?_⟩
    have hjn : j = n + 1 := by simpa using hj
    subst hjn
    unfold wpOp
    simp only [es]
    rw [if_pos (wanted_none hs3 _)]
    left
    have mm1 : Mem G st1 ρ W := s1.mem.2 (mm.below hw1)
    have hlt : d < G.N := by
      obtain ⟨t', o', n', hh', c'⟩ := st1
      unfold newO at hnew
      simp only at hnew
      split at hnew
      · rename_i hi'; exact Nat.le_of_ble_eq_true hi'
      · exact hnew.elim
    have e1 : (a1.put (some d) (.pointer (some ⟨W.heap.size, 0, none⟩))).eval (.tmp d) = .pointer (some ⟨W.heap.size, 0, none⟩) := by
      simp [Act.eval, Act.put, m1.size, hlt]
    have e2 : (a1.put (some d) (.pointer (some ⟨W.heap.size, 0, none⟩))).eval y = a1.eval y := by
      refine Act.eval_put fun d' hd' hy' => ?_
      injection hd' with hd'
      subst hd'
      have := hyd _ hy'
      rw [Nat.beq_refl] at this
      cases this
    have hden := hy2 ρ _ (hy1 G ρ a1 m1)
    have hcsz : (a1.eval y).cells.size = i.size := by
      have := denL_length hden
      rw [← hcl, ← this]; simp
    have hblk : Blk (W.alloc (.cells z.cells t)) W.heap.size t z.cells := Blk.new _ _ _
    have hst := run_storeCells_at (P := G.P) W.heap.size 0 t (a1.eval y).cells.toList 0 z.cells (W.alloc (.cells z.cells t)) hblk (by simp; omega) (oneL_sound hone hden)
    have hcut : (z.cells.toList.take (0 + 0) ++ (a1.eval y).cells.toList ++ z.cells.toList.drop (0 + 0 + (a1.eval y).cells.toList.length)).toArray = (a1.eval y).cells := by
      rw [List.drop_eq_nil_of_le (by simp; omega)]
      simp
    rw [hcut] at hst
    have hrun2 : (execOp (a1.put (some d) (.pointer (some ⟨W.heap.size, 0, none⟩))).eval os).run G.P (W.alloc (.cells z.cells t)) = .ok .skip ((W.alloc (.cells z.cells t)).setRow W.heap.size (a1.eval y).cells) := by
      simp only [execOp, hs1, e1, e2, Instr.storeAt, Instr.sureAddr, storeVar, sizeOf, typeInfo, Sem.run_bind, Sem.run_pure, Result.andThen_ok]
      simp [hi, hcsz, hst]
    unfold Oper.wp
    rw [hrun2]
    simp only [Oper.upon, hs2]
    have hWa : (W.alloc (.cells z.cells t)).setRow W.heap.size (a1.eval y).cells = W.alloc (.cells (a1.eval y).cells t) := by
      simp only [World.alloc, World.setRow]
      congr 1
      apply Array.ext_getElem?
      intro q
      rw [Array.getElem?_modify]
      by_cases c : W.heap.size = q
      · subst c; simp
      · rw [if_neg c]
        simp only [Array.getElem?_push]
        rw [if_neg (fun x => c x.symm), if_neg (fun x => c x.symm)]
    rw [hWa]
    obtain ⟨_, hn⟩ := newO_sound hnew good_stp
    obtain ⟨st2, ρ2, k2, m2, mm2, _⟩ := hn ρ a1 W (a1.eval y).cells.toList hden m1 mm1
    refine ⟨hw1.alloc hw1.size _, wpAnyH_done b3 ⟨rfl, { st2 with c := True }, ρ2, (stp_iff.1 k2).2, ?_, ?_⟩ 0⟩
    · exact m2.same rfl
    · have := mm2.same (st' := { st2 with c := True }) rfl rfl rfl
      simpa using this

/-! groups: operations that only compute or read, in open order with a chain of others; behind a group comes what waits for all of it -/
inductive Stp | T (k : Nat) | H (k : Nat)
def stepsB (ops : Array Oper) (n : Nat) (F : Array Bool → Bool) : List Stp → Array Bool → Bool
  | [], ls => F ls && (Region.ready .any ops ls).all fun j => decide (n ≤ j)
  | .T k :: r, ls => decide (k < n) && ((Region.ready .any ops ls).contains k && (Region.free .any ops ls k && stepsB ops n F r (ls.setIfInBounds k true)))
  | .H k :: r, ls => decide (k < n) && (decide (Region.ready .any ops ls = [k]) && stepsB ops n F r (ls.setIfInBounds k true))
def grpsB (ops : Array Oper) : List (List Stp × Nat) → Array Bool → Bool
  | [], ls => decide (Region.ready .any ops ls = [])
  | (g, n) :: r, ls => (decide (ops.size ≤ n) || (decide (n < ops.size) && (Region.sinkB .any ops n && chainW ops n))) && (headW ops n ls && stepsB ops n (fun ls' => grpsB ops r ls') g ls)
def grpLen : List (List Stp × Nat) → Nat
  | [] => 0
  | (g, _) :: r => g.length + grpLen r
def groupsB (l : List Oper) (gs : List (List Stp × Nat)) : Bool := Region.noSelect l.toArray && (decide (grpLen gs = l.length) && grpsB l.toArray gs (Array.replicate l.toArray.size false))

def HdG (P : Program) (ops : Array Oper) (Q : Exit → Act → World → Prop) (S : World → Prop) (n : Nat) (L : Array Bool → Act → World → Prop) : Nat → Array Bool → Act → World → Prop
  | 0, ls, a, w => L ls a w
  | f + 1, ls, a, w => Region.ready .any ops ls ≠ [] ∧ ∀ i, i ∈ Region.ready .any ops ls → i < n ∧ wpOp P ops Q i (fun a' w' => S w' ∧ HdG P ops Q S n L f (ls.setIfInBounds i true) a' w') a w
theorem HdG.any {P : Program} {ops : Array Oper} {Q : Exit → Act → World → Prop} {S : World → Prop} {n g : Nat} {L : Array Bool → Act → World → Prop} (hL : ∀ ls a w, L ls a w → wpAny P .any ops Q g ls a w) :
    ∀ (f : Nat) (ls : Array Bool) (a : Act) (w : World), HdG P ops Q S n L f ls a w → wpAny P .any ops Q (f + g) ls a w
  | 0, ls, a, w, h => by rw [Nat.zero_add]; exact hL ls a w h
  | f + 1, ls, a, w, h => by
    rw [show f + 1 + g = (f + g) + 1 by omega]
    exact ⟨fun h0 => absurd h0 h.1, fun i hi => wpOp_mono (fun a' w' h' => HdG.any hL f _ a' w' h'.2) (h.2 i hi).2⟩
def wallB (ops : Array Oper) (n : Nat) : Prop := ops.size ≤ n ∨ (n < ops.size ∧ Region.sinkB .any ops n = true ∧ chainW ops n = true)
theorem wall_lt {ops : Array Oper} {n : Nat} (hn : wallB ops n) {ls : Array Bool} (inv : HeadInv .any ops n ls) {i : Nat} (hin : i < n) (hun : ls.getD i true = false) {j : Nat} (hj : j ∈ Region.ready .any ops ls) : j < n := by
  rcases hn with h | ⟨h1, h2, h3⟩
  · obtain ⟨_, oj, hoj, _⟩ := mem_ready.1 hj
    have := (Array.getElem?_eq_some_iff.1 hoj).1
    omega
  · exact Nat.lt_of_not_le fun c => tail_waitsW h2 h3 h1 inv _ i rfl hin hun j c hj
theorem HdG.take {P : Program} {ops : Array Oper} {Q : Exit → Act → World → Prop} {S : World → Prop} {n i : Nat} {oi : Oper} {v : Value} {L : Array Bool → Act → World → Prop} (hi : ops[i]? = some oi) (hsel : Region.noSelect ops = true) (hn : wallB ops n) (hin : i < n)
    (hQ : ∀ c a w, Q (.panic c) (a.put oi.dst v) w → Q (.panic c) a w) (hdone : ∀ ls a w, L ls a w → ∀ j ∈ Region.ready .any ops ls, n ≤ j) :
    ∀ (f : Nat) (ls : Array Bool) (a : Act) (w : World), HeadInv .any ops n ls →
      (∀ j oj, ops[j]? = some oj → j ≠ i → ls.getD j true = false → (∀ e ∈ oj.after, Region.binds .any e = true → e.on ≠ i) → oi.apart ops oj = true) →
      i ∈ Region.ready .any ops ls → YieldsIf P ops S oi v a → S w → HdG P ops Q S n L f (ls.setIfInBounds i true) (a.put oi.dst v) w → HdG P ops Q S n L (f + 1) ls a w := by
  have sel := Region.noSelect_spec hsel
  intro f
  induction f with
  | zero =>
    intro ls a w inv _ hr hy hS H
    have hun := (mem_ready.1 hr).1
    refine ⟨List.ne_nil_of_mem hr, fun j hj => ?_⟩
    have hjn := wall_lt hn inv hin hun hj
    refine ⟨hjn, ?_⟩
    by_cases hji : j = i
    · subst hji; exact hy.wpOp hi hS ⟨hS, H⟩
    · have := hdone _ _ _ H j (ready_mono hj hji)
      omega
  | succ f ih =>
    intro ls a w inv hfree hr hy hS H
    have hun := (mem_ready.1 hr).1
    refine ⟨List.ne_nil_of_mem hr, fun j hj => ?_⟩
    have hjn := wall_lt hn inv hin hun hj
    refine ⟨hjn, ?_⟩
    by_cases hji : j = i
    · subst hji; exact hy.wpOp hi hS ⟨hS, H⟩
    · have h1 := (H.2 j (ready_mono hj hji)).2
      obtain ⟨hjun, oj, hoj, hall⟩ := mem_ready.1 hj
      have hnot : ∀ e ∈ oj.after, Region.binds .any e = true → e.on ≠ i := by
        intro e he hb heq
        have h3 := hall e he hb
        rw [heq, getD_both hun] at h3
        cases h3
      have h2 := wpOp_putIf hoj (hfree j oj hoj hji hjun hnot) (fun cs b => sel i oi cs b hi) (fun cs b => sel j oj cs b hoj) hQ hy h1
      refine wpOp_mono (fun a' w' h3 => ⟨h3.2.1, ih (ls.setIfInBounds j true) a' w' (inv.set hj hjn) ?_ (ready_mono hr (Ne.symm hji)) h3.1 h3.2.1 ?_⟩) h2
      · intro k ok hk hki hunk hno
        refine hfree k ok hk hki ?_ hno
        by_cases hjk : j = k
        · subst hjk; exact hjun
        · rw [getD_set_ne true hjk] at hunk; exact hunk
      · rw [Array.setIfInBounds_comm _ _ hji]
        exact h3.2.2

/-- as opS; what is read stands in the memory at the group's start -/
def opT (G : Gl) (hs : List HP) (o : Oper) (st : St) (K : St → Prop) : Prop :=
  match o.op with
  | .load t x => ev st x False fun vx => match vx with
    | .v (.pointer (some ad)) => stp st fun st => LoadAt G t ad { st with h := hs } fun r => putK G st o.dst r none K
    | _ => q1 G.P G.tr st o False fun r q => putK G st o.dst r q K
  | _ => q1 G.P G.tr st o False fun r q => putK G st o.dst r q K
def TakeT (G : Gl) (hs : List HP) (o : Oper) (st : St) (K : St → Prop) : Prop :=
  st.c ∧ ∀ ρ a w0, Tm G st ρ a → Mem G { st with h := hs } ρ w0 → ∃ v st', K st' ∧ SameM st st' ∧ (∀ w, Mem G { st with h := hs } ρ w → (execOp a.eval o).run G.P w = .ok (.value v) w) ∧ Tm G st' ρ (a.put o.dst v)
theorem take_q1 {G : Gl} {hs : List HP} {o : Oper} {st : St} {K : St → Prop} (hK : Good K) (h : q1 G.P G.tr st o False fun r q => putK G st o.dst r q K) : TakeT G hs o st K := by
  rcases q1_sound h with h | ⟨x, q, h, hy⟩
  · exact h.elim
  · obtain ⟨⟨hc, hq⟩, hp⟩ := putK_same h hK
    refine ⟨hc, fun ρ a w0 m mm0 => ?_⟩
    have hy := hy hq
    obtain ⟨v, e1, e2⟩ := hy G ρ a w0 m mm0.ob
    obtain ⟨st', k, hs, m'⟩ := hp ρ a v e1 m
    refine ⟨v, st', k, hs, fun w' mm' => ?_, m'⟩
    obtain ⟨v', e3, e4⟩ := hy G ρ a w' m mm'.ob
    rw [e1] at e3
    injection e3 with e3
    subst e3
    exact e4
theorem opT_sound {G : Gl} {hs : List HP} {o : Oper} {st : St} {K : St → Prop} (h : opT G hs o st K) (hK : Good K) : TakeT G hs o st K := by
  unfold opT at h
  split at h
  case h_1 t x ho =>
    rcases ev_sound h with h | ⟨sx, h, ex⟩
    · exact h.elim
    split at h
    · rename_i ad
      obtain ⟨hc, ⟨r, hr, h⟩⟩ := stp_iff.1 h
      refine ⟨hc, fun ρ a w0 m mm0 => ?_⟩
      obtain ⟨_, hp⟩ := putK_same h hK
      obtain ⟨st', k, hs, m'⟩ := hp ρ a r rfl (m.same rfl)
      refine ⟨r, st', k, hs, fun w mm => ?_, m'⟩
      have h1 := ex G ρ a m
      simp only [SV.den, Option.some.injEq] at h1
      simp [execOp, ho, ← h1, hr ρ w (mm.same rfl rfl rfl)]
    · exact take_q1 hK h
  case h_2 => exact take_q1 hK h

/-- what a group leaves as it was -/
def Kept (G : Gl) (st0 st : St) : Prop := (st.o = st0.o ∧ st.n = st0.n) ∧ ∀ h, sepL st.h G.R h → ∃ h', (∀ i o, h' i = some o → h i = some o) ∧ sepL st0.h G.R h'
def grpG (G : Gl) (all : List Oper) (kp : Bool) (st0 : St) : List Stp → St → (St → Prop) → Prop
  | [], st, K => K st
  | .T k :: r, st, K => match kp with
    | true => match all[k]? with
      | some o => opsG (opT G st0.h) G all [o] st fun st => grpG G all kp st0 r st K
      | none => False
    | false => False
  | .H k :: r, st, K => match all[k]? with
    | some o => match o.guard with
      | none => op1 G o st fun st => match kp with
        | true => stp st fun st => Kept G st0 st ∧ grpG G all kp st0 r st K
        | false => grpG G all kp st0 r st K
      | some _ => False
    | none => False
def hasT : List Stp → Bool
  | [] => false
  | .T _ :: _ => true
  | .H _ :: r => hasT r
def grpsG (G : Gl) (all : List Oper) : List (List Stp × Nat) → St → (St → Prop) → Prop
  | [], st, K => stp st K
  | (g, _) :: r, st, K => grpG G all (hasT g) st g st fun st => grpsG G all r st K

theorem optT_good {G : Gl} {hs : List HP} {all : List Oper} {o : Oper} {F : St → Prop} (hF : Good F) : Good fun st => opsG (opT G hs) G all [o] st F := by
  intro st h
  unfold opsG at h
  have e : ∀ st, opsG (opT G hs) G all [] st F = F st := fun st => rfl
  simp only [e] at h
  split at h
  · exact (opT_sound h hF).1
  · rename_i j want hg
    split at h
    · split at h
      · split at h
        · split at h
          · exact (opT_sound h hF).1
          · exact (putK_same h hF).1.1
        · rename_i b hx
          by_cases hb : b = want
          · exact (opT_sound (h.1 hb) hF).1
          · exact (putK_same (h.2 (by cases b <;> cases want <;> simp_all)) hF).1.1
        · exact h.elim
      · exact h.elim
    · exact h.elim
theorem takeG {G : Gl} {hs : List HP} {all : List Oper} {o : Oper} {st : St} {F : St → Prop} (h : opsG (opT G hs) G all [o] st F) (hF : Good F) {ρ : List Nat} {a : Act} {w0 : World} (m : Tm G st ρ a) (mm : Mem G { st with h := hs } ρ w0) :
    ∃ v st', F st' ∧ SameM st st' ∧ Tm G st' ρ (a.put o.dst v) ∧ YieldsIf G.P all.toArray (Mem G { st with h := hs } ρ) o v a := by
  unfold opsG at h
  have e : ∀ st, opsG (opT G hs) G all [] st F = F st := fun st => rfl
  simp only [e] at h
  have yes : ∀ st1 : St, SameM st st1 → Tm G st1 ρ a → opT G hs o st1 F → Region.wanted o (yielded all.toArray a.tmps) = true → ∃ v st', F st' ∧ SameM st st' ∧ Tm G st' ρ (a.put o.dst v) ∧ YieldsIf G.P all.toArray (Mem G { st with h := hs } ρ) o v a := by
    intro st1 s1 m1 h hwt
    obtain ⟨_, hq⟩ := opT_sound h hF
    have sx : SameM { st with h := hs } { st1 with h := hs } := ⟨s1.1, s1.2.1, rfl⟩
    obtain ⟨v, st', k', s2, hr', m'⟩ := hq ρ a w0 m1 (sx.mem.2 mm)
    exact ⟨v, st', k', ⟨s2.1.trans s1.1, s2.2.1.trans s1.2.1, s2.2.2.trans s1.2.2⟩, m', .inl ⟨hwt, fun w hw => hr' w (sx.mem.2 hw)⟩⟩
  have no : ∀ st1 : St, SameM st st1 → Tm G st1 ρ a → putK G st1 o.dst (.v undef) none F → Region.wanted o (yielded all.toArray a.tmps) = false → ∃ v st', F st' ∧ SameM st st' ∧ Tm G st' ρ (a.put o.dst v) ∧ YieldsIf G.P all.toArray (Mem G { st with h := hs } ρ) o v a := by
    intro st1 s1 m1 h hwt
    obtain ⟨_, hp⟩ := putK_same h hF
    obtain ⟨st', k', s2, m'⟩ := hp ρ a undef rfl m1
    exact ⟨undef, st', k', ⟨s2.1.trans s1.1, s2.2.1.trans s1.2.1, s2.2.2.trans s1.2.2⟩, m', .inr ⟨hwt, rfl⟩⟩
  split at h
  · rename_i hg
    exact yes st ⟨rfl, rfl, rfl⟩ m h (wanted_none hg _)
  · rename_i j want hg
    split at h
    · rename_i oj hj
      split at h
      · rename_i t ht
        split at h
        · rename_i b hx
          split at h
          · rename_i hb
            exact yes st ⟨rfl, rfl, rfl⟩ m h (by rw [wanted_eq hg hj ht hx rfl m, hb])
          · rename_i hb
            exact no st ⟨rfl, rfl, rfl⟩ m h (by rw [wanted_eq hg hj ht hx rfl m, hb])
        · rename_i b hx
          by_cases hb : b = want
          · subst hb
            exact yes (seen st t b) ⟨rfl, rfl, rfl⟩ (seen_tm m hx) (h.1 rfl) (by rw [wanted_eq hg hj ht hx rfl m]; simp)
          · have hb' : b = !want := by cases b <;> cases want <;> simp_all
            subst hb'
            exact no (seen st t (!want)) ⟨rfl, rfl, rfl⟩ (seen_tm m hx) (h.2 rfl) (by rw [wanted_eq hg hj ht hx rfl m]; simp)
        · exact h.elim
      · exact h.elim
    · exact h.elim

theorem grpG_good {G : Gl} {all : List Oper} {kp : Bool} {st0 : St} {K : St → Prop} (hK : Good K) : ∀ g : List Stp, Good fun st => grpG G all kp st0 g st K
  | [] => hK
  | .T k :: r => fun st h => by
    unfold grpG at h
    split at h
    · split at h
      · exact optT_good (grpG_good hK r) _ h
      · exact h.elim
    · exact h.elim
  | .H k :: r => fun st h => by
    unfold grpG at h
    split at h
    · split at h
      · refine (op1_sound h fun st h => ?_).1
        split at h
        · exact (stp_iff.1 h).1
        · exact grpG_good hK r _ h
      · exact h.elim
    · exact h.elim
theorem grpsG_good {G : Gl} {all : List Oper} {K : St → Prop} : ∀ gs : List (List Stp × Nat), Good fun st => grpsG G all gs st K
  | [] => good_stp
  | (g, n) :: r => fun st h => grpG_good (grpsG_good r) g _ h

theorem grp_sound {G : Gl} {all : List Oper} {Q : Exit → Act → World → Prop} {F : Array Bool → Bool} {K : St → Prop} {n : Nat} {kp : Bool} {st0 : St} {ρ0 : List Nat} (hsel : Region.noSelect all.toArray = true) (hQ : ∀ d v c a w, Q (.panic c) (Act.put a d v) w → Q (.panic c) a w) (hn : wallB all.toArray n) (hK : Good K) :
    ∀ (g : List Stp) (ls : Array Bool) (st : St) (ρ : List Nat) (a : Act) (w : World), HeadInv .any all.toArray n ls → stepsB all.toArray n F g ls = true → grpG G all kp st0 g st K → Tm G st ρ a → Mem G st ρ w → (kp = true → ρ = ρ0 ∧ st.o = st0.o ∧ st.n = st0.n ∧ Mem G st0 ρ0 w) →
      HdG G.P all.toArray Q (fun w => kp = true → Mem G st0 ρ0 w) n (fun ls a w => (F ls = true ∧ (Region.ready .any all.toArray ls).all (fun j => decide (n ≤ j)) = true) ∧ ∃ st ρ, K st ∧ Tm G st ρ a ∧ Mem G st ρ w) g.length ls a w
  | [], ls, st, ρ, a, w, inv, hB, h, m, mm, hk => by
    simp only [stepsB, Bool.and_eq_true] at hB
    exact ⟨hB, st, ρ, h, m, mm⟩
  | .T k :: r, ls, st, ρ, a, w, inv, hB, h, m, mm, hk => by
    simp only [stepsB, Bool.and_eq_true, decide_eq_true_eq] at hB
    obtain ⟨hkn, hr, hf, hB⟩ := hB
    unfold grpG at h
    split at h
    · rename_i hkp
      obtain ⟨rfl, ho, hnn, mm0⟩ := hk rfl
      split at h
      · rename_i o ho'
        have ho2 : all.toArray[k]? = some o := by simpa using ho'
        have hr' : k ∈ Region.ready .any all.toArray ls := by simpa using hr
        have sx : SameM st0 { st with h := st0.h } := ⟨ho, hnn, rfl⟩
        obtain ⟨v, st', k', s', m', hy⟩ := takeG h (grpG_good hK r) m (sx.mem.2 mm0)
        have hy' : YieldsIf G.P all.toArray (fun w => true = true → Mem G st0 ρ w) o v a := by
          rcases hy with ⟨h1, h2⟩ | h
          · exact .inl ⟨h1, fun w hw => h2 w (sx.mem.2 (hw rfl))⟩
          · exact .inr h
        refine HdG.take ho2 hsel hn hkn (fun c a w => hQ _ _ c a w) (fun ls a w hL j hj => ?_) r.length ls a w inv (Region.free_spec ho2 hf) hr' hy' (fun _ => mm0) ?_
        · have := List.all_eq_true.1 hL.1.2 j hj
          simpa using this
        · exact grp_sound hsel hQ hn hK r _ st' ρ _ w (inv.set hr' hkn) hB k' m' (s'.mem.2 mm) fun _ => ⟨rfl, s'.1.trans ho, s'.2.1.trans hnn, mm0⟩
      · exact h.elim
    · exact h.elim
  | .H k :: r, ls, st, ρ, a, w, inv, hB, h, m, mm, hk => by
    simp only [stepsB, Bool.and_eq_true, decide_eq_true_eq] at hB
    obtain ⟨hkn, hr, hB⟩ := hB
    unfold grpG at h
    split at h
    · rename_i o ho'
      have ho2 : all.toArray[k]? = some o := by simpa using ho'
      have hr' : k ∈ Region.ready .any all.toArray ls := by rw [hr]; simp
      split at h
      · rename_i hg
        refine ⟨List.ne_nil_of_mem hr', fun i hi => ?_⟩
        rw [hr] at hi
        have hik : i = k := by simpa using hi
        subst hik
        refine ⟨hkn, ?_⟩
        unfold wpOp
        simp only [ho2]
        rw [if_pos (wanted_none hg _)]
        left
        cases kp with
        | true =>
          have h : op1 G o st fun st => stp st fun st => Kept G st0 st ∧ grpG G all true st0 r st K := h
          refine Oper.wp_mono (fun a' w' ⟨st', ρ', k', m', mm', ex'⟩ => ?_) ((op1_soundX h good_stp).2 ρ a w Q m mm)
          obtain ⟨_, hkeep, k'⟩ := stp_iff.1 k'
          obtain ⟨rfl, ho, hnn, mm0⟩ := hk rfl
          obtain ⟨⟨e1, e2⟩, e3⟩ := hkeep
          have hρ : ρ' = ρ := by
            obtain ⟨q, rfl⟩ := ex'
            have l1 := mm'.len
            have l2 := mm0.len
            simp only at e2
            have : q = [] := by
              apply List.eq_nil_of_length_eq_zero
              simp only [List.length_append] at l1
              omega
            rw [this]; simp
          subst hρ
          have mm2 : Mem G st0 ρ' w' := by
            obtain ⟨m1, m2, m3, m4, m5, m6, mk, hh, m7, m8, m9⟩ := mm'
            simp only at e1 e2
            obtain ⟨h', s1, s2⟩ := e3 hh m8
            refine ⟨m1, by rw [← e2]; exact m2, m3, m4, by rw [← e1]; exact m5, by rw [← e1]; exact m6, mk, h', m7.mono s1, s2, fun x hx b hb => ?_⟩
            have := m9 x (by rw [e1]; exact hx) b hb
            cases e' : h' b with
            | none => rfl
            | some ob => rw [s1 b ob e'] at this; cases this
          exact ⟨fun _ => mm2, grp_sound hsel hQ hn hK r _ _ ρ' a' w' (inv.set hr' hkn) hB k' (m'.same rfl) (mm'.same rfl rfl rfl) fun _ => ⟨rfl, e1, e2, mm2⟩⟩
        | false =>
          have h : op1 G o st fun st => grpG G all false st0 r st K := h
          refine Oper.wp_mono (fun a' w' ⟨st', ρ', k', m', mm', ex'⟩ => ?_) ((op1_soundX h (grpG_good hK r)).2 ρ a w Q m mm)
          have key := grp_sound (kp := false) (st0 := st0) (ρ0 := ρ0) hsel hQ hn hK r _ st' ρ' a' w' (inv.set hr' hkn) hB k' m' mm' (fun c => by cases c)
          exact ⟨(fun c => by cases c), key⟩
      · exact h.elim
    · exact h.elim

theorem grps_sound {G : Gl} {all : List Oper} {Q : Exit → Act → World → Prop} {K : St → Prop} (hsel : Region.noSelect all.toArray = true) (hQ : ∀ d v c a w, Q (.panic c) (Act.put a d v) w → Q (.panic c) a w) (hend : ∀ st ρ a w, K st → Tm G st ρ a → Mem G st ρ w → Q .normal a w) :
    ∀ (gs : List (List Stp × Nat)) (ls : Array Bool) (st : St) (ρ : List Nat) (a : Act) (w : World), grpsB all.toArray gs ls = true → grpsG G all gs st K → Tm G st ρ a → Mem G st ρ w → wpAny G.P .any all.toArray Q (grpLen gs) ls a w
  | [], ls, st, ρ, a, w, hB, h, m, mm => by
    simp only [grpsB, decide_eq_true_eq] at hB
    exact ⟨hB, hend { st with c := True } ρ a w (stp_iff.1 h).2 (m.same rfl) (mm.same rfl rfl rfl)⟩
  | (g, n) :: r, ls, st, ρ, a, w, hB, h, m, mm => by
    simp only [grpsB, Bool.and_eq_true, Bool.or_eq_true, decide_eq_true_eq] at hB
    obtain ⟨hw, hh, hs⟩ := hB
    have key := grp_sound (F := fun ls' => grpsB all.toArray r ls') (kp := hasT g) (st0 := st) (ρ0 := ρ) hsel hQ hw (grpsG_good r) g ls st ρ a w (headW_spec hh) hs h m mm fun _ => ⟨rfl, rfl, rfl, mm⟩
    exact HdG.any (g := grpLen r) (fun ls' a' w' ⟨⟨hF, _⟩, st', ρ', k, m', mm'⟩ => grps_sound hsel hQ hend r ls' st' ρ' a' w' hF k m' mm') _ _ _ _ key
/-- a region that draws its order, by groups -/
theorem RegAt.groups {G : Gl} {id : Nat} {l : List Oper} {st : St} {K : St → Prop} (gs : List (List Stp × Nat)) (hm : G.P.follows .mixedOrders = true) (hB : groupsB l gs = true) (h : grpsG G l gs st K) : RegAt G id l.toArray st K := by
  simp only [groupsB, Bool.and_eq_true, decide_eq_true_eq] at hB
  obtain ⟨h1, h2, h3⟩ := hB
  refine .mk fun ρ a w m mm => ?_
  refine wp_region_any hm ?_
  have key := grps_sound (Q := fun e a' w' => e = .normal ∧ ∃ st' ρ', K st' ∧ Tm G st' ρ' a' ∧ Mem G st' ρ' w') h1 (fun d v c a w hq => by obtain ⟨hq, _⟩ := hq; cases hq) (fun st ρ a w k m mm => ⟨rfl, st, ρ, k, m, mm⟩) gs _ st ρ a _ h3 h m mm.drew
  rw [h2] at key
  simpa using key
end Sy
end Go.Proofs.Ytccpgalpahfpaaa

/-
  The document's answers for lists of cells: Same, Range, Within, Values.
-/
namespace Go.Proofs.Ytccpgalpahfpaaa
open Go.RowKit
open Sy
set_option linter.unusedVariables false
set_option linter.unusedSimpArgs false
set_option maxRecDepth 100000
set_option maxHeartbeats 2000000

/-- whatever is apart from us shows these values -/
def Vs (R : HP) (A : Option Addr) (n : Nat) (l : List Int) : Prop := ∀ w, Sat R w → Reads w w.heap.size 1 A n (ints l)
theorem FnR.of_sat {P : Program} {R : HP} {f : FuncId} {args : List Value} {pre : List HP} {post : Value → List HP → Prop} (h : ∀ w, Sat (sepL pre R) w → FnR P R f args pre post) : FnR P R f args pre post := fun w hs => h w hs w hs
theorem PureR.of_sat {P : Program} {R : HP} {f : FuncId} {args : List Value} {v : Value} (h : ∀ w, Sat R w → PureR P R f args v) : PureR P R f args v := fun w hs => h w hs w hs
/-- where they are -/
def Spot (R : HP) (A : Option Addr) (n : Nat) (l : List Int) : Prop := n = 0 ∨ ∃ b off, A = some ⟨b, off, none⟩ ∧ ∀ w, Sat R w → ∀ (k : Nat) (hk : k < l.length), w.cell? ⟨b, off + k, none⟩ = some (.int .i64 l[k])
theorem ints_at (l : List Int) (k : Nat) (h : k < l.length) : (ints l)[k]? = some (.int .i64 l[k]) := by simp [ints, List.getElem?_eq_getElem h]
theorem Vs.spot {R : HP} {A : Option Addr} {n : Nat} {l : List Int} (h : Vs R A n l) {w : World} (s : Sat R w) : l.length = n ∧ Spot R A n l := by
  have hr := h w s
  have hl : l.length = n := by have := hr.1; simpa [ints] using this
  refine ⟨hl, ?_⟩
  rcases Nat.eq_zero_or_pos n with h0 | h0
  · exact .inl h0
  · right
    obtain ⟨ad, e, hb, hc⟩ := hr.2 h0
    obtain ⟨b, off, spot⟩ := ad
    have h1 := hc 0 _ (ints_at l 0 (by omega))
    have hs : spot = none := by simpa [Addr.add] using World.cell?_spot h1
    subst hs
    refine ⟨b, off, e, fun w' s' k hk => ?_⟩
    obtain ⟨ad', e', _, hc'⟩ := (h w' s').2 h0
    rw [e] at e'
    injection e' with e'
    subst e'
    have := hc' k _ (ints_at l k hk)
    rwa [add_plain] at this
theorem Vs.mono {R R' : HP} {A : Option Addr} {n : Nat} {l : List Int} (h : Vs R A n l) (hr : ∀ w, Sat R' w → Sat R w) : Vs R' A n l := fun w s => h w (hr w s)
theorem Vs.row {R : HP} {A : Option Addr} {n c : Nat} {l : List Int} (h : ∀ w, Sat R w → Sat (rowH (.slice A n c) n 2 1 (ints l)) w) : Vs R A n l := fun w s => rowH_reads rfl (h w s)

theorem sSame {R : HP} {A B : Option Addr} {n m c d : Nat} {l l' : List Int} (ha : Vs R A n l) (hb : Vs R B m l') (hn : n ≤ 9223372036854775807) : PureR Try.prog R 57 [.slice A n c, .slice B m d] (.bool (decide (l = l'))) := by
  refine PureR.of_sat fun w hs => ?_
  obtain ⟨h1, sa⟩ := ha.spot hs
  obtain ⟨h2, sb⟩ := hb.spot hs
  refine fn_of_run0 false Try.func57 rfl hmix rfl fun w0 => ?_
  conv => whnf
  refine ⟨fun h3 => ?_, fun h3 => ?_⟩
  · conv => whnf
    refine ⟨trivial, fin_pure rfl (congrArg Value.bool (decide_eq_false ?_).symm)⟩
    rintro rfl
    simp at h3
    omega
  · have h3' : n = m := by simp at h3; omega
    subst h3'
    conv => whnf
    refine ⟨trivial, LoopAt.keep (α := Nat) [0, 1] (fun k => [(5, .v (.int .i64 (k : Int)))]) (fun k => k ≤ n ∧ l.take k = l'.take k) (fun k => n - k) 0 ⟨Nat.zero_le _, by simp⟩ rfl ⟨⟨rfl, rfl⟩, trivial⟩ ⟨⟨rfl, rfl⟩, ⟨rfl, rfl⟩, trivial⟩ trivial ?_⟩
    rintro k ⟨hk, he⟩
    conv => whnf
    refine ⟨fun h4 => ?_, fun h4 => ?_⟩
    · have g4 : k < n := by simpa using h4
      rcases sa with sa | ⟨b, off, rfl, sa⟩
      · omega
      rcases sb with sb | ⟨b', off', rfl, sb⟩
      · omega
      conv => whnf
      refine ⟨trivial, RegAt.quiet hmix (by kernel_rfl) ?_⟩
      conv => whnf
      refine ⟨⟨trivial, by omega⟩, LoadAt.cell (.int .i64 l[k]) rfl rfl (fun w hw => sa w hw k (by omega)) ?_⟩
      conv => whnf
      refine ⟨⟨trivial, by omega⟩, LoadAt.cell (.int .i64 l'[k]) rfl rfl (fun w hw => sb w hw k (by omega)) ?_⟩
      conv => whnf
      refine ⟨trivial, ?_⟩
      conv => whnf
      refine ⟨fun h5 => ?_, fun h5 => ?_⟩
      · conv => whnf
        refine ⟨trivial, fin_pure rfl (congrArg Value.bool (decide_eq_false ?_).symm)⟩
        rintro rfl
        simp at h5
      · have h5' : l[k] = l'[k] := by simpa using h5
        conv => whnf
        refine ⟨⟨trivial, by unfold rng; omega⟩, Next.keep (k + 1) ⟨by omega, ?_⟩ (by omega) ⟨⟨rfl, rfl⟩, trivial⟩ ⟨⟨rfl, rfl⟩, ⟨rfl, rfl⟩, trivial⟩ trivial rfl rfl rfl⟩
        rw [List.take_succ_eq_append_getElem (by omega), List.take_succ_eq_append_getElem (by omega), he, h5']
    · have g4 : k = n := by simp at h4; omega
      subst g4
      conv => whnf
      refine ⟨trivial, fin_pure rfl (congrArg Value.bool (decide_eq_true ?_).symm)⟩
      rw [List.take_of_length_le (by omega), List.take_of_length_le (by omega)] at he
      exact he

theorem sRWithin (x0 y0 x1 y1 a b : Int) (R : HP) : PureR Try.prog R 20 [rectV x0 y0 x1 y1, .int .i64 a, .int .i64 b] (.int .i64 (withinZ x0 y0 x1 y1 a b)) := by
  have no3 : ¬ SizeOk a b → Value.int .i64 3 = .int .i64 (withinZ x0 y0 x1 y1 a b) := fun h => by unfold withinZ; rw [if_pos h]
  have no4 : SizeOk a b → ¬ InP x0 y0 x1 y1 a b → Value.int .i64 4 = .int .i64 (withinZ x0 y0 x1 y1 a b) := fun h h' => by unfold withinZ; rw [if_neg (fun c => c h), if_pos h']
  refine fn_of_run0 false Try.func20 rfl hmix rfl fun w0 => ?_
  conv => whnf
  refine ⟨fun h1 => ?_, fun h1 => ?_⟩
  rotate_left
  · conv => whnf
    exact ⟨trivial, fin_pure rfl (no3 (by unfold SizeOk; simp at h1; omega))⟩
  conv => whnf
  refine ⟨fun h2 => ?_, fun h2 => ?_⟩
  rotate_left
  · conv => whnf
    exact ⟨trivial, fin_pure rfl (no3 (by unfold SizeOk; simp at h2; omega))⟩
  conv => whnf
  refine ⟨fun h3 => ?_, fun h3 => ?_⟩
  rotate_left
  · conv => whnf
    exact ⟨trivial, fin_pure rfl (no3 (by unfold SizeOk; simp at h3; omega))⟩
  conv => whnf
  refine ⟨fun h4 => ?_, fun h4 => ?_⟩
  · conv => whnf
    exact ⟨trivial, fin_pure rfl (no3 (by unfold SizeOk; simp at h4; omega))⟩
  have hS : SizeOk a b := by unfold SizeOk; simp at h1 h2 h3 h4; omega
  conv => whnf
  refine ⟨fun h5 => ?_, fun h5 => ?_⟩
  rotate_left
  · conv => whnf
    exact ⟨trivial, fin_pure rfl (no4 hS (by unfold InP; simp at h5; omega))⟩
  conv => whnf
  refine ⟨fun h6 => ?_, fun h6 => ?_⟩
  rotate_left
  · conv => whnf
    exact ⟨trivial, fin_pure rfl (no4 hS (by unfold InP; simp at h6; omega))⟩
  conv => whnf
  refine ⟨fun h7 => ?_, fun h7 => ?_⟩
  rotate_left
  · conv => whnf
    exact ⟨trivial, fin_pure rfl (no4 hS (by unfold InP; simp at h7; omega))⟩
  conv => whnf
  refine ⟨fun h8 => ?_, fun h8 => ?_⟩
  rotate_left
  · conv => whnf
    exact ⟨trivial, fin_pure rfl (no4 hS (by unfold InP; simp at h8; omega))⟩
  conv => whnf
  refine ⟨fun h9 => ?_, fun h9 => ?_⟩
  rotate_left
  · conv => whnf
    exact ⟨trivial, fin_pure rfl (no4 hS (by unfold InP; simp at h9; omega))⟩
  conv => whnf
  refine ⟨fun h10 => ?_, fun h10 => ?_⟩
  rotate_left
  · conv => whnf
    exact ⟨trivial, fin_pure rfl (no4 hS (by unfold InP; simp at h10; omega))⟩
  conv => whnf
  refine ⟨fun h11 => ?_, fun h11 => ?_⟩
  rotate_left
  · conv => whnf
    exact ⟨trivial, fin_pure rfl (no4 hS (by unfold InP; simp at h11; omega))⟩
  conv => whnf
  refine ⟨fun h12 => ?_, fun h12 => ?_⟩
  · conv => whnf
    exact ⟨trivial, fin_pure rfl (no4 hS (by unfold InP; simp at h12; omega))⟩
  have hI : InP x0 y0 x1 y1 a b := by unfold InP; simp at h5 h6 h7 h8 h9 h10 h11 h12; omega
  conv => whnf
  refine ⟨fun h13 => ?_, fun h13 => ?_⟩
  rotate_left
  · conv => whnf
    exact ⟨trivial, fin_pure rfl (by unfold withinZ; rw [if_neg (fun c => c hS), if_neg (fun c => c hI), if_pos (by simp at h13; omega)]; rfl)⟩
  conv => whnf
  refine ⟨fun h14 => ?_, fun h14 => ?_⟩
  · conv => whnf
    exact ⟨trivial, fin_pure rfl (by unfold withinZ; rw [if_neg (fun c => c hS), if_neg (fun c => c hI), if_pos (by simp at h14; omega)]; rfl)⟩
  · conv => whnf
    exact ⟨trivial, fin_pure rfl (by unfold withinZ; rw [if_neg (fun c => c hS), if_neg (fun c => c hI), if_neg (by simp at h13 h14; omega)]; rfl)⟩
end Go.Proofs.Ytccpgalpahfpaaa

/-
  The document's answers: Range, Values of a model.
-/
namespace Go.Proofs.Ytccpgalpahfpaaa
open Go.RowKit
open Sy
set_option linter.unusedVariables false
set_option linter.unusedSimpArgs false
set_option maxRecDepth 100000
set_option maxHeartbeats 2000000

/-- the least, the greatest -/
def mnL : List Int → Int
  | [] => 0
  | a :: l => l.foldl min a
def mxL : List Int → Int
  | [] => 0
  | a :: l => l.foldl max a
theorem mnL_snoc {l : List Int} (h : l ≠ []) (x : Int) : mnL (l ++ [x]) = min (mnL l) x := by
  cases l with
  | nil => exact absurd rfl h
  | cons a l => simp [mnL]
theorem mxL_snoc {l : List Int} (h : l ≠ []) (x : Int) : mxL (l ++ [x]) = max (mxL l) x := by
  cases l with
  | nil => exact absurd rfl h
  | cons a l => simp [mxL]
abbrev rngV (a b : Int) : Value := .agg #[.int .i64 a, .int .i64 b]

theorem sRange {R : HP} {A : Option Addr} {n c : Nat} {l : List Int} (ha : Vs R A n l) (hn : n ≤ 4611686018427387904) : PureR Try.prog R 44 [.slice A n c] (rngV (mnL l) (mxL l)) := by
  refine PureR.of_sat fun w hs => ?_
  obtain ⟨h1, sa⟩ := ha.spot hs
  refine fn_of_run0 false Try.func44 rfl hmix rfl fun w0 => ?_
  conv => whnf
  refine ⟨fun h2 => ?_, fun h2 => ?_⟩
  · have : n = 0 := by simp at h2; omega
    have hl : l = [] := List.eq_nil_of_length_eq_zero (by omega)
    subst hl
    conv => whnf
    exact ⟨trivial, fin_pure rfl rfl⟩
  have g2 : n ≠ 0 := by simp at h2; omega
  rcases sa with sa | ⟨b, off, rfl, sa⟩
  · exact absurd sa g2
  have h0 : 0 < l.length := by omega
  have e0 : l.take 1 = [l[0]] := by rw [List.take_succ_eq_append_getElem h0]; simp
  conv => whnf
  refine ⟨trivial, RegAt.box 7 3 39 (.tmp 15) hmix (by kernel_rfl) rfl rfl rfl rfl rfl rfl rfl rfl rfl rfl rfl (fun s h => by injection h with h; subst h; rfl) ?_⟩
  conv => whnf
  refine ⟨⟨trivial, by omega⟩, LoadAt.cell (.int .i64 l[0]) rfl rfl (fun w hw => sa w hw 0 h0) ?_⟩
  conv => whnf
  refine ⟨⟨trivial, by omega⟩, LoadAt.cell (.int .i64 l[0]) rfl rfl (fun w hw => sa w hw 0 h0) ?_⟩
  conv => whnf
  refine ⟨trivial, ?_⟩
  conv => whnf
  refine ⟨trivial, LoopAt.of (α := Nat) [0, 2, 3] (fun k => [(4, .v (.int .i64 (k : Int)))]) (fun k => [(1, 39, [.v (.int .i64 (mnL (l.take k))), .v (.int .i64 (mxL (l.take k)))]), (0, 39, [.v (.int .i64 0), .v (.int .i64 0)])]) (fun _ => []) (fun k => 1 ≤ k ∧ k ≤ n) (fun k => n - k) 1 ⟨by omega, by omega⟩ ?_ ?_⟩
  · rw [e0]
    exact Le.of (Nat.le_refl _) (Nat.zero_le _) ⟨⟨rfl, rfl⟩, ⟨rfl, rfl⟩, ⟨rfl, rfl⟩, ⟨rfl, rfl⟩, trivial⟩ ⟨⟨rfl, rfl, rfl, rfl⟩, ⟨rfl, rfl, rfl, rfl⟩, trivial⟩ fun h s => ⟨h, fun _ _ e => e, s⟩
  · rintro k ⟨k1, k2⟩
    conv => whnf
    refine ⟨fun h3 => ?_, fun h3 => ?_⟩
    · have g3 : k < n := by simpa using h3
      have hkl : k < l.length := by omega
      have ne : l.take k ≠ [] := by
        intro e
        rcases List.take_eq_nil_iff.1 e with e | e
        · omega
        · rw [e] at hkl; simp at hkl
      have es : l.take (k + 1) = l.take k ++ [l[k]] := List.take_succ_eq_append_getElem hkl
      have emn := mnL_snoc ne l[k]
      have emx := mxL_snoc ne l[k]
      rw [← es] at emn emx
      conv => whnf
      refine ⟨trivial, RegAt.quiet hmix (by kernel_rfl) ?_⟩
      conv => whnf
      refine ⟨⟨trivial, by omega⟩, LoadAt.cell (.int .i64 l[k]) rfl rfl (fun w hw => sa w hw k hkl) ?_⟩
      conv => whnf
      refine ⟨trivial, ?_⟩
      conv => whnf
      refine ⟨fun h4 => ?_, fun h4 => ?_⟩
      · have g4 : l[k] < mnL (l.take k) := by simpa using h4
        conv => whnf
        refine ⟨⟨trivial, by omega⟩, LoadAt.cell (.int .i64 l[k]) rfl rfl (fun w hw => sa w hw k hkl) ?_⟩
        conv => whnf
        refine ⟨trivial, RegAt.quiet hmix (by kernel_rfl) ?_⟩
        conv => whnf
        refine ⟨⟨trivial, by omega⟩, LoadAt.cell (.int .i64 l[k]) rfl rfl (fun w hw => sa w hw k hkl) ?_⟩
        conv => whnf
        refine ⟨trivial, ?_⟩
        conv => whnf
        refine ⟨fun h5 => ?_, fun h5 => ?_⟩
        · have g5 : mxL (l.take k) < l[k] := by simpa using h5
          conv => whnf
          refine ⟨⟨trivial, by omega⟩, LoadAt.cell (.int .i64 l[k]) rfl rfl (fun w hw => sa w hw k hkl) ?_⟩
          conv => whnf
          refine ⟨⟨trivial, by unfold rng; omega⟩, .mk (k + 1) ⟨by omega, by omega⟩ (by omega) ?_⟩
          rw [emn, emx, show min (mnL (l.take k)) l[k] = l[k] from by omega, show max (mxL (l.take k)) l[k] = l[k] from by omega]
          exact Le.of (Nat.le_refl _) (Nat.zero_le _) ⟨⟨rfl, rfl⟩, ⟨rfl, rfl⟩, ⟨rfl, rfl⟩, ⟨rfl, rfl⟩, trivial⟩ ⟨⟨rfl, rfl, rfl, rfl⟩, ⟨rfl, rfl, rfl, rfl⟩, trivial⟩ fun h s => ⟨h, fun _ _ e => e, s⟩
        · have g5 : l[k] ≤ mxL (l.take k) := by simpa using h5
          conv => whnf
          refine ⟨⟨trivial, by unfold rng; omega⟩, .mk (k + 1) ⟨by omega, by omega⟩ (by omega) ?_⟩
          rw [emn, emx, show min (mnL (l.take k)) l[k] = l[k] from by omega, show max (mxL (l.take k)) l[k] = mxL (l.take k) from by omega]
          exact Le.of (Nat.le_refl _) (Nat.zero_le _) ⟨⟨rfl, rfl⟩, ⟨rfl, rfl⟩, ⟨rfl, rfl⟩, ⟨rfl, rfl⟩, trivial⟩ ⟨⟨rfl, rfl, rfl, rfl⟩, ⟨rfl, rfl, rfl, rfl⟩, trivial⟩ fun h s => ⟨h, fun _ _ e => e, s⟩
      · have g4 : mnL (l.take k) ≤ l[k] := by simpa using h4
        conv => whnf
        refine ⟨trivial, RegAt.quiet hmix (by kernel_rfl) ?_⟩
        conv => whnf
        refine ⟨⟨trivial, by omega⟩, LoadAt.cell (.int .i64 l[k]) rfl rfl (fun w hw => sa w hw k hkl) ?_⟩
        conv => whnf
        refine ⟨trivial, ?_⟩
        conv => whnf
        refine ⟨fun h5 => ?_, fun h5 => ?_⟩
        · have g5 : mxL (l.take k) < l[k] := by simpa using h5
          conv => whnf
          refine ⟨⟨trivial, by omega⟩, LoadAt.cell (.int .i64 l[k]) rfl rfl (fun w hw => sa w hw k hkl) ?_⟩
          conv => whnf
          refine ⟨⟨trivial, by unfold rng; omega⟩, .mk (k + 1) ⟨by omega, by omega⟩ (by omega) ?_⟩
          rw [emn, emx, show min (mnL (l.take k)) l[k] = mnL (l.take k) from by omega, show max (mxL (l.take k)) l[k] = l[k] from by omega]
          exact Le.of (Nat.le_refl _) (Nat.zero_le _) ⟨⟨rfl, rfl⟩, ⟨rfl, rfl⟩, ⟨rfl, rfl⟩, ⟨rfl, rfl⟩, trivial⟩ ⟨⟨rfl, rfl, rfl, rfl⟩, ⟨rfl, rfl, rfl, rfl⟩, trivial⟩ fun h s => ⟨h, fun _ _ e => e, s⟩
        · have g5 : l[k] ≤ mxL (l.take k) := by simpa using h5
          conv => whnf
          refine ⟨⟨trivial, by unfold rng; omega⟩, .mk (k + 1) ⟨by omega, by omega⟩ (by omega) ?_⟩
          rw [emn, emx, show min (mnL (l.take k)) l[k] = mnL (l.take k) from by omega, show max (mxL (l.take k)) l[k] = mxL (l.take k) from by omega]
          exact Le.of (Nat.le_refl _) (Nat.zero_le _) ⟨⟨rfl, rfl⟩, ⟨rfl, rfl⟩, ⟨rfl, rfl⟩, ⟨rfl, rfl⟩, trivial⟩ ⟨⟨rfl, rfl, rfl, rfl⟩, ⟨rfl, rfl, rfl, rfl⟩, trivial⟩ fun h s => ⟨h, fun _ _ e => e, s⟩
    · have g3 : k = n := by simp at h3; omega
      subst g3
      conv => whnf
      refine ⟨trivial, fin_pure rfl ?_⟩
      rw [List.take_of_length_le (by omega)]
      rfl
end Go.Proofs.Ytccpgalpahfpaaa

/-
  The document's Values of a model.
-/
namespace Go.Proofs.Ytccpgalpahfpaaa
open Go.RowKit
open Sy
set_option linter.unusedVariables false
set_option linter.unusedSimpArgs false
set_option maxRecDepth 100000
set_option maxHeartbeats 4000000

abbrev modV (W H : Int) (A : Option Addr) (n c : Nat) : Value := .agg #[.int .i64 W, .int .i64 H, .slice A n c]
def vA (f : Nat → Nat → Int) (x0 nx y0 j i : Nat) : List Int := vRows f x0 nx y0 j ++ vRow f x0 (y0 + j) i
theorem vA_next (f : Nat → Nat → Int) (x0 nx y0 j i : Nat) : vA f x0 nx y0 j (i + 1) = vA f x0 nx y0 j i ++ [f (x0 + i) (y0 + j)] := by simp [vA, vRow_succ]
theorem vA_len (f : Nat → Nat → Int) (x0 nx y0 j i : Nat) : (vA f x0 nx y0 j i).length = j * nx + i := by simp [vA, vRows_len, vRow_len]
theorem ints_one (l : List Int) : ∀ u ∈ ints l, u.oneCell' = true := by
  intro u hu
  simp only [ints, List.mem_map] at hu
  obtain ⟨z, _, rfl⟩ := hu
  rfl

theorem sRValues {R : HP} {A : Option Addr} {n c W H : Nat} {l : List Int} (ha : Vs R A n l) (hn : W * H = n) (hW : W ≤ 1024) (hH : H ≤ 1024) (x0 y0 x1 y1 : Nat) (r2 : x0 ≤ x1) (r3 : x1 < W) (r5 : y0 ≤ y1) (r6 : y1 < H) :
    FnR Try.prog R 42 [modV W H A n c, rectV x0 y0 x1 y1] [] fun r hs => ∃ B d, r = .tuple #[.slice B (vRows (gv W l) x0 (x1 - x0 + 1) y0 (y1 - y0 + 1)).length d, .int .i64 0] ∧
      hs = [rowH (.slice B (vRows (gv W l) x0 (x1 - x0 + 1) y0 (y1 - y0 + 1)).length d) (vRows (gv W l) x0 (x1 - x0 + 1) y0 (y1 - y0 + 1)).length 2 1 (ints (vRows (gv W l) x0 (x1 - x0 + 1) y0 (y1 - y0 + 1)))] := by
  refine FnR.of_sat fun w hs => ?_
  obtain ⟨h1, sa⟩ := ha.spot hs
  have hn2 : n ≤ 1048576 := by rw [← hn]; exact Nat.mul_le_mul hW hH
  have hpos : 0 < n := by rw [← hn]; exact Nat.mul_pos (by omega) (by omega)
  rcases sa with sa | ⟨b, off, rfl, sa⟩
  · omega
  obtain ⟨nx, hnx⟩ : ∃ nx, x1 - x0 + 1 = nx := ⟨_, rfl⟩
  obtain ⟨ny, hny⟩ : ∃ ny, y1 - y0 + 1 = ny := ⟨_, rfl⟩
  rw [hnx, hny]
  have hw : withinZ x0 y0 x1 y1 W H = 0 := within_of ⟨by omega, by omega, by omega, by omega⟩ (by omega) (by omega) (by omega) (by omega) (by omega) (by omega)
  have hwi := fun R' => sRWithin x0 y0 x1 y1 W H R'
  rw [hw] at hwi
  have lenB : ∀ j i, j ≤ ny → i ≤ nx → (vA (gv W l) x0 nx y0 j i).length ≤ 1049600 := fun j i hj hi => by
    rw [vA_len]
    have := Nat.mul_le_mul (show j ≤ 1024 by omega) (show nx ≤ 1024 by omega)
    omega
  refine fn_of_run0 false Try.func42 rfl hmix rfl fun w0 => ?_
  conv => whnf
  refine ⟨trivial, CallAt.pure (fun R' _ => hwi R') ?_⟩
  conv => whnf
  refine iff_f (by decide) ?_
  conv => whnf
  refine ⟨trivial, OpAt.lit [] 1 rfl rfl rfl rfl rfl (by decide) rfl rfl rfl (by simp) rfl (by decide) fun g => ?_⟩
  conv => whnf
  refine ⟨trivial, LoopAt.heap (α := Nat × Option Addr × Nat) [2, 3] (fun a => [(7, .v (.slice a.2.1 (vRows (gv W l) x0 nx y0 a.1).length a.2.2)), (8, .v (.int .i64 ((y0 + a.1 : Nat) : Int)))])
    (fun a => [rowH (.slice a.2.1 (vRows (gv W l) x0 nx y0 a.1).length a.2.2) (vRows (gv W l) x0 nx y0 a.1).length 2 1 (ints (vRows (gv W l) x0 nx y0 a.1))]) (fun a => a.1 ≤ ny) (fun a => ny - a.1) (0, some ⟨g, 0, none⟩, 0) (Nat.zero_le _)
    rfl ⟨⟨rfl, rfl⟩, ⟨rfl, rfl⟩, trivial⟩ ⟨⟨rfl, rfl⟩, ⟨rfl, rfl⟩, trivial⟩ ⟨⟨rfl, rfl, rfl, rfl⟩, ⟨rfl, rfl, rfl, rfl⟩, trivial⟩ (fun h s => sub_same s) ?_⟩
  rintro ⟨j, B, d⟩ hj
  simp only at hj
  conv => whnf
  refine ⟨fun h2 => ?_, fun h2 => ?_⟩
  · have g2 : j < ny := by simp at h2; omega
    conv => whnf
    refine ⟨trivial, LoopAt.heap (α := Nat × Option Addr × Nat) [2, 3, 8] (fun a => [(7, .v (.slice a.2.1 (vA (gv W l) x0 nx y0 j a.1).length a.2.2)), (9, .v (.int .i64 ((x0 + a.1 : Nat) : Int)))])
      (fun a => [rowH (.slice a.2.1 (vA (gv W l) x0 nx y0 j a.1).length a.2.2) (vA (gv W l) x0 nx y0 j a.1).length 2 1 (ints (vA (gv W l) x0 nx y0 j a.1))]) (fun a => a.1 ≤ nx) (fun a => nx - a.1) (0, B, d) (Nat.zero_le _)
      rfl ⟨⟨by simp [vA, vRow, getT], rfl⟩, ⟨rfl, rfl⟩, trivial⟩ ⟨⟨rfl, rfl⟩, ⟨rfl, rfl⟩, ⟨rfl, rfl⟩, trivial⟩ ⟨⟨rfl, rfl, rfl, rfl⟩, ⟨rfl, rfl, rfl, rfl⟩, trivial⟩ (fun h s => sub_same (by simpa [vA, vRow] using s)) ?_⟩
    rintro ⟨i, B, d⟩ hi
    simp only at hi
    conv => whnf
    refine ⟨fun h3 => ?_, fun h3 => ?_⟩
    · have g3 : i < nx := by simp at h3; omega
      have hx : x0 + i < W := by omega
      have hy : y0 + j < H := by omega
      have hidx := idx_lt hx hy
      rw [hn] at hidx
      have hmul : ((y0 + j : Nat) : Int) * (W : Int) = (((y0 + j) * W : Nat) : Int) := by simp
      have hadd : (((y0 + j : Nat) : Int) * (W : Int) + ((x0 + i : Nat) : Int)).toNat = (y0 + j) * W + (x0 + i) := by rw [hmul]; omega
      have hr1 : rng .i64 (((y0 + j : Nat) : Int) * (W : Int)) := by rw [hmul]; unfold rng; omega
      have hr2 : rng .i64 (((y0 + j : Nat) : Int) * (W : Int) + ((x0 + i : Nat) : Int)) := by rw [hmul]; unfold rng; omega
      have hlen := lenB j i (by omega) (by omega)
      conv => whnf
      refine ⟨⟨⟨⟨trivial, hr1⟩, hr2⟩, ?_⟩, LoadAt.cell (.int .i64 (gv W l (x0 + i) (y0 + j))) rfl rfl (fun w hw => ?_) ?_⟩
      · rw [hmul]; omega
      · rw [hadd, sa w (Sat.right hw) _ (by omega)]
        unfold gv
        rw [List.getD_eq_getElem?_getD, List.getElem?_eq_getElem (by omega)]
        rfl
      conv => whnf
      refine ⟨trivial, OpAt.lit [.int .i64 (gv W l (x0 + i) (y0 + j))] 1 rfl rfl rfl rfl rfl (by decide) rfl rfl rfl (by simp [Value.cells]) rfl (by decide) fun g2 => ?_⟩
      conv => whnf
      refine ⟨trivial, OpAt.append (.slice B (vA (gv W l) x0 nx y0 j i).length d) (vA (gv W l) x0 nx y0 j i).length 1 8 (ints (vA (gv W l) x0 nx y0 j i)) [.int .i64 (gv W l (x0 + i) (y0 + j))] (some ⟨g2, 0, none⟩) 1 1 _ rfl (fun h s => sepL_pull 1 s) rfl rfl rfl rfl rfl rfl rfl rfl rfl (by decide) (fun w hw => rowH_reads rfl (Sat.left hw)) (ints_one [_]) (by simp only [maxLen]; omega) (by omega) fun B' d' => ?_⟩
      conv => whnf
      refine ⟨⟨trivial, by unfold rng; omega⟩, Next.heap (i + 1, B', d') (by simp only; omega) (by simp only; omega) ⟨⟨?_, rfl⟩, ⟨rfl, rfl⟩, trivial⟩ ⟨⟨rfl, rfl⟩, ⟨rfl, rfl⟩, ⟨rfl, rfl⟩, trivial⟩ ⟨⟨rfl, rfl, rfl, rfl⟩, ⟨rfl, rfl, rfl, rfl⟩, trivial⟩ rfl rfl fun h s => ?_⟩
      · rw [vA_next]; simp [getT]
      · obtain ⟨h', e, s'⟩ := sub_tail (sepL_pull 1 s)
        refine ⟨h', e, ?_⟩
        rw [vA_next, ints_append]
        simpa [ints] using s'
    · have g3 : i = nx := by simp at h3; omega
      subst g3
      conv => whnf
      refine ⟨⟨trivial, by unfold rng; omega⟩, Next.heap (j + 1, B, d) (by simp only; omega) (by simp only; omega) ⟨⟨?_, rfl⟩, ⟨rfl, rfl⟩, trivial⟩ ⟨⟨rfl, rfl⟩, ⟨rfl, rfl⟩, trivial⟩ ⟨⟨rfl, rfl, rfl, rfl⟩, ⟨rfl, rfl, rfl, rfl⟩, trivial⟩ rfl rfl fun h s => ?_⟩
      · rw [vRows_succ]; rfl
      · rw [vRows_succ]; exact sub_same s
  · have g2 : j = ny := by simp at h2; omega
    subst g2
    conv => whnf
    exact ⟨trivial, .mk _ (fun w s => s) ⟨B, d, rfl, rfl⟩⟩
end Go.Proofs.Ytccpgalpahfpaaa

/-
  paint: lay, Paste, From.
-/
namespace Go.Proofs.Ytccpgalpahfpaaa
open Go.RowKit
open Sy
set_option linter.unusedVariables false
set_option linter.unusedSimpArgs false
set_option maxRecDepth 100000
set_option maxHeartbeats 4000000

theorem sPaste1 (v : Int) (R : HP) : PureR Try.prog R 60 [.int .i64 v] (.bool (!decide (MayV v))) := PureR.of_below fun w _ => (Paste1_any v w).mono fun e w' ⟨h1, h2⟩ => ⟨h1, by subst h2; exact Below.refl _ _⟩

theorem sIndexMay {R : HP} {A : Option Addr} {n c : Nat} {l : List Int} (ha : Vs R A n l) (hn : n ≤ 4611686018427387904) (hm : ∀ v ∈ l, MayV v) : PureR Try.prog R 90 [.slice A n c, .func (.func 60) #[] #[]] (.int .i64 (-1)) := by
  refine PureR.of_sat fun w hs => ?_
  obtain ⟨h1, sa⟩ := ha.spot hs
  refine fn_of_run0 false Try.func90 rfl hmix rfl fun w0 => ?_
  conv => whnf
  refine ⟨trivial, LoopAt.keep (α := Nat) [0, 1, 7] (fun k => [(8, .v (.int .i64 (k : Int)))]) (fun k => k ≤ n) (fun k => n - k) 0 (Nat.zero_le _) rfl ⟨⟨rfl, rfl⟩, trivial⟩ ⟨⟨rfl, rfl⟩, ⟨rfl, rfl⟩, ⟨rfl, rfl⟩, trivial⟩ trivial ?_⟩
  intro k hk
  conv => whnf
  refine ⟨fun h2 => ?_, fun h2 => ?_⟩
  · have g2 : k < n := by simpa using h2
    rcases sa with sa | ⟨b, off, rfl, sa⟩
    · omega
    conv => whnf
    refine ⟨⟨trivial, by omega⟩, LoadAt.cell (.int .i64 (l[k]'(by omega))) rfl rfl (fun w hw => sa w hw k (by omega)) ?_⟩
    conv => whnf
    refine ⟨trivial, CallAt.pure (fun R' _ => sPaste1 _ R') ?_⟩
    conv => whnf
    refine iff_f ?_ ?_
    · have := hm _ (List.getElem_mem (show k < l.length by omega))
      simp [this]
    conv => whnf
    exact ⟨⟨trivial, by unfold rng; omega⟩, Next.keep (k + 1) (by omega) (by omega) ⟨⟨rfl, rfl⟩, trivial⟩ ⟨⟨rfl, rfl⟩, ⟨rfl, rfl⟩, ⟨rfl, rfl⟩, trivial⟩ trivial rfl rfl rfl⟩
  · conv => whnf
    exact ⟨trivial, fin_pure rfl rfl⟩
theorem sContainsMay {R : HP} {A : Option Addr} {n c : Nat} {l : List Int} (ha : Vs R A n l) (hn : n ≤ 4611686018427387904) (hm : ∀ v ∈ l, MayV v) : PureR Try.prog R 59 [.slice A n c, .func (.func 60) #[] #[]] (.bool false) := by
  refine fn_of_run0 false Try.func59 rfl hmix rfl fun w0 => ?_
  conv => whnf
  refine ⟨trivial, CallAt.pure (fun R' hR' => sIndexMay (ha.mono hR') hn hm) ?_⟩
  conv => whnf
  exact ⟨trivial, fin_pure rfl rfl⟩

def pasteK (x0 y0 nx k : Nat) (l : List Int) (f : Nat → Nat → Int) (x y : Nat) : Int := if x0 ≤ x ∧ x < x0 + nx ∧ y0 ≤ y ∧ (y - y0) * nx + (x - x0) < k then l.getD ((y - y0) * nx + (x - x0)) 0 else f x y
theorem pasteK_zero (x0 y0 nx : Nat) (l : List Int) (f : Nat → Nat → Int) : pasteK x0 y0 nx 0 l f = f := by funext x y; simp [pasteK]
theorem pasteK_fill {x0 y0 nx i m : Nat} {l : List Int} {f : Nat → Nat → Int} {v : Int} (hnx : 0 < nx) (hm : 1 ≤ m) (hrow : i % nx + m ≤ nx) (hv : ∀ t, t < m → l.getD (i + t) 0 = v) (x y : Nat) :
    fillG ⟨((x0 + i % nx : Nat) : Int), ((y0 + i / nx : Nat) : Int), ((x0 + i % nx : Nat) : Int) + (m : Int) - 1, ((y0 + i / nx : Nat) : Int)⟩ v (pasteK x0 y0 nx i l f) x y = pasteK x0 y0 nx (i + m) l f x y := by
  have hdm := Nat.div_add_mod i nx
  rw [Nat.mul_comm] at hdm
  generalize i / nx = a at *
  generalize i % nx = b at *
  unfold fillG
  by_cases c : x0 + b ≤ x ∧ x < x0 + b + m ∧ y = y0 + a
  · obtain ⟨c1, c2, c3⟩ := c
    rw [if_pos ((inR_iff _ _ _).2 ⟨by simp only; omega, by simp only; omega, by simp only; omega, by simp only; omega⟩)]
    subst c3
    have e : (y0 + a - y0) * nx + (x - x0) = i + (x - x0 - b) := by
      rw [Nat.add_sub_cancel_left]; omega
    unfold pasteK
    rw [e, if_pos ⟨by omega, by omega, by omega, by omega⟩]
    exact (hv _ (by omega)).symm
  · rw [if_neg]
    · unfold pasteK
      by_cases c2 : x0 ≤ x ∧ x < x0 + nx ∧ y0 ≤ y ∧ (y - y0) * nx + (x - x0) < i
      · rw [if_pos c2, if_pos ⟨c2.1, c2.2.1, c2.2.2.1, by omega⟩]
      · rw [if_neg c2, if_neg]
        rintro ⟨d1, d2, d3, d4⟩
        have d5 : i ≤ (y - y0) * nx + (x - x0) := Nat.le_of_not_lt fun h => c2 ⟨d1, d2, d3, h⟩
        have hy : y - y0 = a := by
          rcases Nat.lt_trichotomy (y - y0) a with h | h | h
          · have := Nat.mul_le_mul_right nx (show y - y0 + 1 ≤ a by omega)
            rw [Nat.add_mul] at this
            omega
          · exact h
          · have := Nat.mul_le_mul_right nx (show a + 1 ≤ y - y0 by omega)
            rw [Nat.add_mul] at this
            omega
        rw [hy] at d4 d5
        exact c ⟨by omega, by omega, by omega⟩
    · intro h
      have := (inR_iff _ _ _).1 h
      simp only at this
      exact c ⟨by omega, by omega, by omega⟩

theorem sNth (x0 y0 x1 y1 i : Nat) (r2 : x0 ≤ x1) (r3 : x1 < 1024) (r5 : y0 ≤ y1) (r6 : y1 < 1024) (hi : i < (x1 - x0 + 1) * (y1 - y0 + 1)) (R : HP) : PureR Try.prog R 50 [rectV x0 y0 x1 y1, .int .i64 i] (.tuple #[cellV ((x0 + i % (x1 - x0 + 1) : Nat) : Int) ((y0 + i / (x1 - x0 + 1) : Nat) : Int), .bool true]) := by
  have e1 : (x1 : Int) - x0 + 1 = ((x1 - x0 + 1 : Nat) : Int) := by omega
  have e2 : (y1 : Int) - y0 + 1 = ((y1 - y0 + 1 : Nat) : Int) := by omega
  refine PureR.of_below fun w _ => (Nth_ok x0 y0 x1 y1 i w ((right_iff _ _ _ _).2 ⟨by omega, by omega, by omega, by omega, by omega, by omega⟩) (by omega) (by rw [e1, e2, ← Int.natCast_mul]; omega)).mono ?_
  rintro e w' ⟨rfl, hb⟩
  refine ⟨?_, hb⟩
  rw [e1]
  simp
end Go.Proofs.Ytccpgalpahfpaaa

/-
  paint.lay.
-/
namespace Go.Proofs.Ytccpgalpahfpaaa
open Go.RowKit
open Sy
set_option linter.unusedVariables false
set_option linter.unusedSimpArgs false
set_option maxRecDepth 100000
set_option maxHeartbeats 4000000

theorem getD_at {l : List Int} {k : Nat} (h : k < l.length) : l.getD k 0 = l[k] := by rw [List.getD_eq_getElem?_getD, List.getElem?_eq_getElem h]; rfl

theorem gFill_i {R : HP} {gb W H : Nat} {f : Nat → Nat → Int} {x0 y0 x1 y1 v : Int} (r : Rc) (e : r = ⟨x0, y0, x1, y1⟩) (r1 : 0 ≤ x0) (r2 : x0 ≤ x1) (r3 : x1 < W) (r4 : 0 ≤ y0) (r5 : y0 ≤ y1) (r6 : y1 < H) (hv : MayV v) :
    FnR Try.prog R 18 [.pointer (some ⟨gb, 0, none⟩), .agg #[.int .i64 x0, .int .i64 y0, .int .i64 x1, .int .i64 y1], .int .i64 v] [gridH gb W H f] fun x hs => x = .int .i64 0 ∧ hs = [gridH gb W H (fillG r v f)] := by
  subst e
  exact gFill_f ⟨x0, y0, x1, y1⟩ v r1 r2 r3 r4 r5 r6 hv

theorem sLay {R : HP} {gb W H n c : Nat} {f : Nat → Nat → Int} {A : Option Addr} {l : List Int} (ha : Vs R A n l) (hm : ∀ v ∈ l, MayV v) (x0 y0 x1 y1 : Nat) (r2 : x0 ≤ x1) (r3 : x1 < W) (r5 : y0 ≤ y1) (r6 : y1 < H) (hW : W ≤ 1024) (hH : H ≤ 1024) (hn : (x1 - x0 + 1) * (y1 - y0 + 1) = n) :
    FnR Try.prog R 62 [.pointer (some ⟨gb, 0, none⟩), rectV x0 y0 x1 y1, .slice A n c] [gridH gb W H f] fun r hs => r = .tuple #[] ∧ hs = [gridH gb W H (pasteK x0 y0 (x1 - x0 + 1) n l f)] := by
  refine FnR.of_sat fun w hs => ?_
  obtain ⟨h1, sa⟩ := ha.spot (Sat.right hs)
  have hn2 : n ≤ 1048576 := by rw [← hn]; exact Nat.mul_le_mul (show x1 - x0 + 1 ≤ 1024 by omega) (show y1 - y0 + 1 ≤ 1024 by omega)
  have hpos : 0 < n := by rw [← hn]; exact Nat.mul_pos (by omega) (by omega)
  rcases sa with sa | ⟨b, off, rfl, sa⟩
  · omega
  obtain ⟨nx, hnx⟩ : ∃ nx, x1 - x0 + 1 = nx := ⟨_, rfl⟩
  rw [hnx] at hn ⊢
  have nthi := fun (i : Nat) (hi : i < n) (R' : HP) => sNth x0 y0 x1 y1 i r2 (by omega) r5 (by omega) (by rw [hnx, hn]; exact hi) R'
  rw [hnx] at nthi
  refine fn_of_run0 false Try.func62 rfl hmix rfl fun w0 => ?_
  conv => whnf
  refine ⟨trivial, LoopAt.heap (α := Nat) [0, 2, 4] (fun i => [(6, .v (.int .i64 (i : Int)))]) (fun i => [gridH gb W H (pasteK x0 y0 nx i l f)]) (fun i => i ≤ n) (fun i => n - i) 0 (Nat.zero_le _)
    rfl ⟨⟨rfl, rfl⟩, trivial⟩ ⟨⟨rfl, rfl⟩, ⟨rfl, rfl⟩, ⟨rfl, rfl⟩, trivial⟩ ⟨⟨rfl, rfl, rfl, rfl⟩, trivial⟩ (fun h s => sub_same (by rw [pasteK_zero]; exact s)) ?_⟩
  intro i hi
  conv => whnf
  refine ⟨fun h2 => ?_, fun h2 => ?_⟩
  rotate_left
  · have g2 : i = n := by simp at h2; omega
    subst g2
    conv => whnf
    exact ⟨trivial, .mk _ (fun w s => s) ⟨rfl, rfl⟩⟩
  have g2 : i < n := by simpa using h2
  have hil : i < l.length := by omega
  have hmod : i % nx < nx := Nat.mod_lt _ (by omega)
  have hdiv : i / nx < y1 - y0 + 1 := Nat.div_lt_of_lt_mul (by rw [hn]; exact g2)
  have hrowend : ∀ m, i % nx + m < nx → i + m < n := fun m hmm => by
    have e1 := Nat.div_add_mod i nx
    have e2 := Nat.mul_le_mul_left nx (show i / nx + 1 ≤ y1 - y0 + 1 by omega)
    rw [hn, Nat.mul_add] at e2
    omega
  obtain ⟨bx, hbx⟩ : ∃ bx, i % nx = bx := ⟨_, rfl⟩
  obtain ⟨ay, hay⟩ : ∃ ay, i / nx = ay := ⟨_, rfl⟩
  have nth := nthi i g2
  have fillE := fun m hm1 hm2 hv x y => pasteK_fill (x0 := x0) (y0 := y0) (nx := nx) (i := i) (m := m) (l := l) (f := f) (v := l.getD i 0) (by omega) hm1 hm2 hv x y
  rw [hbx] at hmod hrowend
  rw [hay] at hdiv
  rw [hbx, hay] at nth
  simp only [hbx, hay] at fillE
  conv => whnf
  refine ⟨trivial, CallAt.pure (fun R' _ => nth R') ?_⟩
  conv => whnf
  refine ⟨trivial, LoopAt.keep (α := Nat) [0, 2, 4, 6, 7] (fun m => [(9, .v (.int .i64 (m : Int)))]) (fun m => 1 ≤ m ∧ bx + m ≤ nx ∧ ∀ t, t < m → l.getD (i + t) 0 = l.getD i 0) (fun m => nx - m) 1 ⟨Nat.le_refl _, by omega, fun t ht => by rw [show t = 0 by omega]; rfl⟩
    rfl ⟨⟨rfl, rfl⟩, trivial⟩ ⟨⟨rfl, rfl⟩, ⟨rfl, rfl⟩, ⟨rfl, rfl⟩, ⟨rfl, rfl⟩, ⟨rfl, rfl⟩, trivial⟩ ⟨⟨rfl, rfl, rfl, rfl⟩, ⟨rfl, rfl, rfl, rfl⟩, trivial⟩ ?_⟩
  rintro m ⟨m1, m2, m3⟩
  have hr1 : rng .i64 (((x0 + bx : Nat) : Int) + (m : Int)) := by unfold rng; omega
  conv => whnf
  refine ⟨trivial, RegAt.quiet hmix (by kernel_rfl) ?_⟩
  conv => whnf
  refine ⟨fun h3 => ?_, fun h3 => ?_⟩
  · have g3 : bx + m < nx := by simp at h3; omega
    have hlt := hrowend m g3
    have hnat : ((i : Int) + (m : Int)).toNat = i + m := by omega
    conv => whnf
    refine ⟨⟨⟨⟨trivial, hr1⟩, by unfold rng; omega⟩, by omega⟩, LoadAt.cell (.int .i64 (l[i + m]'(by omega))) rfl rfl (fun w hw => ?_) ?_⟩
    · rw [hnat]; exact sa w (Sat.right hw) (i + m) (by omega)
    conv => whnf
    refine ⟨⟨trivial, by omega⟩, LoadAt.cell (.int .i64 (l[i]'(by omega))) rfl rfl (fun w hw => sa w (Sat.right hw) i (by omega)) ?_⟩
    conv => whnf
    refine ⟨trivial, ?_⟩
    conv => whnf
    refine ⟨fun h4 => ?_, fun h4 => ?_⟩
    · have g4 : l[i + m] = l[i] := by simpa using h4
      conv => whnf
      refine ⟨⟨trivial, by unfold rng; omega⟩, Next.keep (m + 1) ⟨by omega, by omega, fun t ht => ?_⟩ (by omega) ⟨⟨rfl, rfl⟩, trivial⟩ ⟨⟨rfl, rfl⟩, ⟨rfl, rfl⟩, ⟨rfl, rfl⟩, ⟨rfl, rfl⟩, ⟨rfl, rfl⟩, trivial⟩ ⟨⟨rfl, rfl, rfl, rfl⟩, ⟨rfl, rfl, rfl, rfl⟩, trivial⟩ rfl rfl rfl⟩
      rcases Nat.lt_or_ge t m with c | c
      · exact m3 t c
      · rw [show t = m by omega, getD_at (by omega), getD_at (by omega)]
        exact g4
    · conv => whnf
      refine ⟨trivial, RegAt.tail 17 hmix (by kernel_rfl) ?_⟩
      conv => whnf
      refine ⟨⟨⟨⟨trivial, hr1⟩, by unfold rng; omega⟩, by omega⟩, LoadAt.cell (.int .i64 (l[i]'(by omega))) rfl rfl (fun w hw => sa w (Sat.right hw) i (by omega)) ?_⟩
      conv => whnf
      refine ⟨trivial, CallAt.fn [] (fun h s => s) (fun R' _ => gFill_i _ rfl (by omega) (by omega) (by omega) (by omega) (by omega) (by omega) (hm _ (List.getElem_mem hil))) ?_⟩
      rintro r hs ⟨rfl, rfl⟩
      conv => whnf
      refine ⟨trivial, ?_⟩
      conv => whnf
      refine ⟨⟨trivial, by unfold rng; omega⟩, Next.heap (i + m) (by have := hrowend (m - 1) (by omega); omega) (by omega) ⟨⟨rfl, rfl⟩, trivial⟩ ⟨⟨rfl, rfl⟩, ⟨rfl, rfl⟩, ⟨rfl, rfl⟩, trivial⟩ ⟨⟨rfl, rfl, rfl, rfl⟩, trivial⟩ rfl rfl fun h s => sub_same (sep_mono s (fun _ g => gridH_congr (fun x y _ _ => ?_) g) fun _ x => x)⟩
      have := fillE m m1 m2 m3 x y
      rw [getD_at hil] at this
      exact this
  · conv => whnf
    refine ⟨⟨trivial, hr1⟩, ?_⟩
    conv => whnf
    refine ⟨trivial, RegAt.tail 17 hmix (by kernel_rfl) ?_⟩
    conv => whnf
    refine ⟨⟨⟨⟨trivial, hr1⟩, by unfold rng; omega⟩, by omega⟩, LoadAt.cell (.int .i64 (l[i]'(by omega))) rfl rfl (fun w hw => sa w (Sat.right hw) i (by omega)) ?_⟩
    conv => whnf
    refine ⟨trivial, CallAt.fn [] (fun h s => s) (fun R' _ => gFill_i _ rfl (by omega) (by omega) (by omega) (by omega) (by omega) (by omega) (hm _ (List.getElem_mem hil))) ?_⟩
    rintro r hs ⟨rfl, rfl⟩
    conv => whnf
    refine ⟨trivial, ?_⟩
    conv => whnf
    refine ⟨⟨trivial, by unfold rng; omega⟩, Next.heap (i + m) (by have := hrowend (m - 1) (by omega); omega) (by omega) ⟨⟨rfl, rfl⟩, trivial⟩ ⟨⟨rfl, rfl⟩, ⟨rfl, rfl⟩, ⟨rfl, rfl⟩, trivial⟩ ⟨⟨rfl, rfl, rfl, rfl⟩, trivial⟩ rfl rfl fun h s => sub_same (sep_mono s (fun _ g => gridH_congr (fun x y _ _ => ?_) g) fun _ x => x)⟩
    have := fillE m m1 m2 m3 x y
    rw [getD_at hil] at this
    exact this
end Go.Proofs.Ytccpgalpahfpaaa

/-
  paint.Paste and paint.From, where all is right.
-/
namespace Go.Proofs.Ytccpgalpahfpaaa
open Go.RowKit
open Sy
set_option linter.unusedVariables false
set_option linter.unusedSimpArgs false
set_option maxRecDepth 100000
set_option maxHeartbeats 4000000

theorem sArea (x0 y0 x1 y1 : Nat) (r2 : x0 ≤ x1) (r3 : x1 < 1024) (r5 : y0 ≤ y1) (r6 : y1 < 1024) (R : HP) : PureR Try.prog R 58 [rectV x0 y0 x1 y1] (.int .i64 (((x1 - x0 + 1) * (y1 - y0 + 1) : Nat) : Int)) := by
  have e1 : (x1 : Int) - x0 + 1 = ((x1 - x0 + 1 : Nat) : Int) := by omega
  have e2 : (y1 : Int) - y0 + 1 = ((y1 - y0 + 1 : Nat) : Int) := by omega
  refine PureR.of_below fun w _ => (Area_any x0 y0 x1 y1 w).mono ?_
  rintro e w' ⟨rfl, hb⟩
  refine ⟨?_, hb⟩
  unfold areaZ
  rw [if_pos ((right_iff _ _ _ _).2 ⟨by omega, by omega, by omega, by omega, by omega, by omega⟩), e1, e2, ← Int.natCast_mul]
theorem gridAt_rest {R R' : HP} {gb W H : Nat} {f : Nat → Nat → Int} {l : List HP} (i : Nat) (hi : l[i]? = some (gridH gb W H f)) (h : ∀ w, Sat R' w → Sat (sepL l R) w) : ∀ w, Sat R' w → GridAt w gb W H f := fun w s => gridAt_of ((h w s).in_ i hi)

theorem sPaste {R : HP} {gb W H n c : Nat} {f : Nat → Nat → Int} {A : Option Addr} {l : List Int} {X1 Y1 : Int} (ha : Vs R A n l) (hm : ∀ v ∈ l, MayV v) (x0 y0 x1 y1 : Nat) (e1 : X1 = x1) (e2 : Y1 = y1) (r2 : x0 ≤ x1) (r3 : x1 < W) (r5 : y0 ≤ y1) (r6 : y1 < H) (hW : W ≤ 1024) (hH : H ≤ 1024) (hn : (x1 - x0 + 1) * (y1 - y0 + 1) = n) :
    FnR Try.prog R 28 [.pointer (some ⟨gb, 0, none⟩), rectV x0 y0 X1 Y1, .slice A n c] [gridH gb W H f] fun r hs => r = .int .i64 0 ∧ hs = [gridH gb W H (pasteK x0 y0 (x1 - x0 + 1) n l f)] := by
  subst e1 e2
  have hn2 : n ≤ 1048576 := by rw [← hn]; exact Nat.mul_le_mul (show x1 - x0 + 1 ≤ 1024 by omega) (show y1 - y0 + 1 ≤ 1024 by omega)
  refine fn_of_run0 false Try.func28 rfl hmix rfl fun w0 => ?_
  conv => whnf
  refine ⟨trivial, CallAt.fn (pre := []) [gridH gb W H f] (fun h s => s) (fun R' hR' => gValues_f (gridAt_rest 0 rfl hR') x0 y0 x1 y1 r2 r3 r5 r6) ?_⟩
  rintro r hs ⟨B, d, rfl, rfl⟩
  conv => whnf
  refine iff_f (by decide) ?_
  conv => whnf
  refine ⟨trivial, CallAt.pure (fun R' _ => sArea x0 y0 x1 y1 r2 (by omega) r5 (by omega) R') ?_⟩
  conv => whnf
  refine iff_f (by rw [hn]; simp) ?_
  conv => whnf
  refine ⟨trivial, CallAt.pure (fun R' hR' => sContainsMay (ha.mono fun w s => (hR' w s).rest) (by omega) hm) ?_⟩
  conv => whnf
  refine iff_f rfl ?_
  conv => whnf
  refine ⟨trivial, CallAt.fn _ (fun h s => sepL_pull 1 s) (fun R' hR' => sLay (ha.mono fun w s => (hR' w s).rest) hm x0 y0 x1 y1 r2 r3 r5 r6 hW hH hn) ?_⟩
  rintro r hs ⟨rfl, rfl⟩
  conv => whnf
  exact ⟨trivial, .mk [gridH gb W H (pasteK x0 y0 (x1 - x0 + 1) n l f)] (fun w ⟨h, hs, s⟩ => by
    obtain ⟨h', e, s'⟩ := sub_tail (sepL_pull 1 s)
    exact ⟨h', hs.mono e, s'⟩) ⟨rfl, rfl⟩⟩

theorem pasteK_all {W H : Nat} {l : List Int} {f : Nat → Nat → Int} {x y : Nat} (hx : x < W) (hy : y < H) : pasteK 0 0 W (W * H) l f x y = gv W l x y := by
  unfold pasteK gv
  have := idx_lt hx hy
  simp only [Nat.sub_zero]
  rw [if_pos ⟨Nat.zero_le _, by omega, Nat.zero_le _, this⟩]

theorem sFrom {R : HP} {W H n c : Nat} {A : Option Addr} {l : List Int} (ha : Vs R A n l) (hm : ∀ v ∈ l, MayV v) (h1 : 1 ≤ W) (h2 : W ≤ 1024) (h3 : 1 ≤ H) (h4 : H ≤ 1024) (hn : W * H = n) :
    FnR Try.prog R 35 [.int .i64 W, .int .i64 H, .slice A n c] [] fun r hs => ∃ gb, r = .tuple #[.pointer (some ⟨gb, 0, none⟩), .int .i64 0] ∧ hs = [gridH gb W H (gv W l)] := by
  refine fn_of_run0 false Try.func35 rfl hmix rfl fun w0 => ?_
  conv => whnf
  refine ⟨trivial, CallAt.fn (pre := []) [] (fun h s => s) (fun R' _ => gNew_f 0 h1 h2 h3 h4 ⟨by decide, by decide⟩) ?_⟩
  rintro r hs ⟨gb, rfl, rfl⟩
  conv => whnf
  refine iff_t (by decide) ?_
  conv => whnf
  refine ⟨trivial, CallAt.pure (fun R' hR' => gAll_p (gridAt_rest 0 rfl hR')) ?_⟩
  conv => whnf
  refine ⟨trivial, CallAt.fn [] (fun h s => s) (fun R' hR' => sPaste (ha.mono hR') hm 0 0 (W - 1) (H - 1) (by omega) (by omega) (by omega) (by omega) (by omega) (by omega) h2 h4 (by rw [← hn]; congr 1 <;> omega)) ?_⟩
  rintro r hs ⟨rfl, rfl⟩
  conv => whnf
  refine iff_f (by decide) ?_
  conv => whnf
  refine ⟨trivial, .mk [gridH gb W H (gv W l)] (fun w ⟨h, hs, s⟩ => ⟨h, hs, sep_mono s (fun _ g => gridH_congr (fun x y hx hy => ?_) g) fun _ x => x⟩) ⟨gb, rfl, rfl⟩⟩
  have e : W - 1 - 0 + 1 = W := by omega
  rw [e, ← hn]
  exact pasteK_all hx hy
end Go.Proofs.Ytccpgalpahfpaaa

/-
  tier in plain numbers: Size, check, Span.
-/
namespace Go.Proofs.Ytccpgalpahfpaaa
open Go.RowKit
open Sy
set_option linter.unusedVariables false
set_option linter.unusedSimpArgs false
set_option maxRecDepth 100000
set_option maxHeartbeats 4000000

def halfN (W k : Nat) : Nat := (W - 1) / 2 ^ k + 1
theorem halfZ_N (W k : Nat) (h : 1 ≤ W) : halfZ (W : Int) k = ((halfN W k : Nat) : Int) := by
  unfold halfZ halfN
  have e : (W : Int) - 1 = ((W - 1 : Nat) : Int) := by omega
  rw [e]
  simp
theorem lev10 {W H k : Nat} (h : SizeOk (W : Int) (H : Int)) (hk : k < levN W H) : k ≤ 10 := by have := levN_le h; omega
theorem pow_le (k : Nat) (h : k ≤ 10) : 2 ^ k ≤ 1024 := by
  have := Nat.pow_le_pow_right (show 1 ≤ 2 by omega) h
  simpa using this
theorem pow_pos' (k : Nat) : 0 < 2 ^ k := Nat.pow_pos (by omega)
theorem half_mul {W k x : Nat} (hx : x < halfN W k) : x * 2 ^ k ≤ W - 1 := by
  unfold halfN at hx
  have h1 : x ≤ (W - 1) / 2 ^ k := by omega
  exact Nat.le_trans (Nat.mul_le_mul_right _ h1) (Nat.div_mul_le_self _ _)
theorem half_le {W k : Nat} (h : 1 ≤ W) : 1 ≤ halfN W k ∧ halfN W k ≤ W := by
  unfold halfN
  have := Nat.div_le_self (W - 1) (2 ^ k)
  generalize (W - 1) / 2 ^ k = q at *
  omega
def spX1 (W k x : Nat) : Nat := min ((x + 1) * 2 ^ k) W - 1
theorem sp_ok {W k x : Nat} (hW : 1 ≤ W) (hx : x < halfN W k) : x * 2 ^ k ≤ spX1 W k x ∧ spX1 W k x < W := by
  have h1 := half_mul hx
  have h2 := pow_pos' k
  unfold spX1
  rw [Nat.add_mul]
  generalize 2 ^ k = p at *
  generalize x * p = q at *
  omega
theorem spX1_Z {W k x : Nat} (hW : 1 ≤ W) : min (((x + 1) * 2 ^ k : Nat) : Int) (W : Int) - 1 = ((spX1 W k x : Nat) : Int) := by
  unfold spX1
  have h2 := pow_pos' k
  have : 0 < (x + 1) * 2 ^ k := Nat.mul_pos (by omega) h2
  generalize (x + 1) * 2 ^ k = q at *
  omega

theorem sTSize (W H k : Nat) (hs : SizeOk (W : Int) (H : Int)) (hk : k < levN W H) (R : HP) : PureR Try.prog R 41 [.int .i64 W, .int .i64 H, .int .i64 k] (.tuple #[.int .i64 (halfN W k : Nat), .int .i64 (halfN H k : Nat), .int .i64 0]) := by
  refine PureR.of_below fun w _ => ?_
  have := Size_ok W H k w hs hk
  unfold SizeOk at hs
  rw [halfZ_N W k (by omega), halfZ_N H k (by omega)] at this
  exact this
theorem sTSizeArg (W H k : Int) (hs : SizeOk W H) (hk : k < 0 ∨ (levN W H : Int) ≤ k) (R : HP) : PureR Try.prog R 41 [.int .i64 W, .int .i64 H, .int .i64 k] (.tuple #[.int .i64 0, .int .i64 0, .int .i64 11]) := PureR.of_below fun w _ => Size_arg W H k w hs hk

theorem sTCheck (W H k x y : Nat) (hs : SizeOk (W : Int) (H : Int)) (hk : k < levN W H) (hx : x < halfN W k) (hy : y < halfN H k) (R : HP) : PureR Try.prog R 89 [.int .i64 W, .int .i64 H, .int .i64 k, cellV x y] (.int .i64 0) := by
  refine fn_of_run0 false Try.func89 rfl hmix rfl fun w0 => ?_
  conv => whnf
  refine ⟨trivial, CallAt.pure (fun R' _ => sTSize W H k hs hk R') ?_⟩
  conv => whnf
  refine iff_f (by decide) ?_
  conv => whnf
  refine ⟨fun h1 => ?_, fun h1 => absurd h1 (by simp)⟩
  conv => whnf
  refine ⟨fun h2 => ?_, fun h2 => absurd h2 (by simp; omega)⟩
  conv => whnf
  refine ⟨fun h3 => ?_, fun h3 => absurd h3 (by simp)⟩
  conv => whnf
  refine ⟨fun h4 => absurd h4 (by simp; omega), fun h4 => ?_⟩
  conv => whnf
  exact ⟨trivial, fin_pure rfl rfl⟩

theorem sTSpan (W H k x y : Nat) (hs : SizeOk (W : Int) (H : Int)) (hk : k < levN W H) (hx : x < halfN W k) (hy : y < halfN H k) (R : HP) : PureR Try.prog R 55 [.int .i64 W, .int .i64 H, .int .i64 k, cellV x y] (.tuple #[rectV ((x * 2 ^ k : Nat) : Int) ((y * 2 ^ k : Nat) : Int) ((spX1 W k x : Nat) : Int) ((spX1 H k y : Nat) : Int), .int .i64 0]) := by
  have k10 := lev10 hs hk
  have hp := pow_le k k10
  have hp0 := pow_pos' k
  have hx1 := half_mul hx
  have hy1 := half_mul hy
  have hs' := hs
  unfold SizeOk at hs'
  obtain ⟨sx1, sx2⟩ := sp_ok (by omega) hx
  obtain ⟨sy1, sy2⟩ := sp_ok (by omega) hy
  have lx := (half_le (W := W) (k := k) (by omega)).2
  have ly := (half_le (W := H) (k := k) (by omega)).2
  have e0 : (2 : Int) ^ (k : Int).toNat = ((2 ^ k : Nat) : Int) := by simp
  have ex : (x : Int) * 2 ^ (k : Int).toNat = ((x * 2 ^ k : Nat) : Int) := by rw [e0]; simp
  have ey : (y : Int) * 2 ^ (k : Int).toNat = ((y * 2 ^ k : Nat) : Int) := by rw [e0]; simp
  have ex2 : ((x : Int) + 1) * 2 ^ (k : Int).toNat = (((x + 1) * 2 ^ k : Nat) : Int) := by rw [e0]; simp
  have ey2 : ((y : Int) + 1) * 2 ^ (k : Int).toNat = (((y + 1) * 2 ^ k : Nat) : Int) := by rw [e0]; simp
  have bx : (x + 1) * 2 ^ k ≤ 2047 := by rw [Nat.add_mul]; omega
  have by' : (y + 1) * 2 ^ k ≤ 2047 := by rw [Nat.add_mul]; omega
  refine fn_of_run0 false Try.func55 rfl hmix rfl fun w0 => ?_
  conv => whnf
  refine ⟨trivial, CallAt.pure (fun R' _ => sTCheck W H k x y hs hk hx hy R') ?_⟩
  conv => whnf
  refine iff_f (by decide) ?_
  conv => whnf
  refine ⟨trivial, RegAt.tail 25 hmix (by kernel_rfl) ?_⟩
  have eb : ((IntKind.i64.bits : Nat) : Int) = 64 := rfl
  conv => whnf
  refine ⟨?_, ?_⟩
  · repeat' apply And.intro
    all_goals first
      | trivial
      | omega
      | (rw [eb]; omega)
      | (rw [ex]; omega)
      | (rw [ey]; omega)
      | (rw [ex2]; omega)
      | (rw [ey2]; omega)
  conv => whnf
  refine ⟨trivial, fin_pure rfl ?_⟩
  rw [← spX1_Z (by omega), ← spX1_Z (by omega), ← ex, ← ey, ← ex2, ← ey2]
  rfl
end Go.Proofs.Ytccpgalpahfpaaa

/-
  down: way, the least, the greatest, the mean.
-/
namespace Go.Proofs.Ytccpgalpahfpaaa
open Go.RowKit
open Sy
set_option linter.unusedVariables false
set_option linter.unusedSimpArgs false
set_option maxRecDepth 100000
set_option maxHeartbeats 4000000

theorem take_ne {l : List Int} {k : Nat} (h1 : 1 ≤ k) (h2 : 0 < l.length) : l.take k ≠ [] := by
  intro e
  rcases List.take_eq_nil_iff.1 e with e | e
  · omega
  · rw [e] at h2; simp at h2
theorem sMin {R : HP} {A : Option Addr} {n c : Nat} {l : List Int} (ha : Vs R A n l) (hn : n ≤ 4611686018427387904) (h0 : 0 < n) : PureR Try.prog R 86 [.slice A n c] (.int .i64 (mnL l)) := by
  refine PureR.of_sat fun w hs => ?_
  obtain ⟨h1, sa⟩ := ha.spot hs
  rcases sa with sa | ⟨b, off, rfl, sa⟩
  · omega
  have hl : 0 < l.length := by omega
  have e0 : mnL (l.take 1) = l[0] := by rw [List.take_succ_eq_append_getElem hl]; simp [mnL]
  refine fn_of_run0 false Try.func86 rfl hmix rfl fun w0 => ?_
  conv => whnf
  refine iff_f (by simp; omega) ?_
  conv => whnf
  refine ⟨⟨trivial, by omega⟩, LoadAt.cell (.int .i64 l[0]) rfl rfl (fun w hw => sa w hw 0 hl) ?_⟩
  conv => whnf
  refine ⟨trivial, LoopAt.keep (α := Nat) [0] (fun k => [(3, .v (.int .i64 (mnL (l.take k)))), (4, .v (.int .i64 (k : Int)))]) (fun k => 1 ≤ k ∧ k ≤ n) (fun k => n - k) 1 ⟨by omega, by omega⟩ rfl ⟨⟨by rw [e0]; rfl, rfl⟩, ⟨rfl, rfl⟩, trivial⟩ ⟨⟨rfl, rfl⟩, trivial⟩ trivial ?_⟩
  rintro k ⟨k1, k2⟩
  conv => whnf
  refine ⟨fun h2 => ?_, fun h2 => ?_⟩
  · have g2 : k < n := by simpa using h2
    conv => whnf
    refine ⟨⟨trivial, by omega⟩, LoadAt.cell (.int .i64 (l[k]'(by omega))) rfl rfl (fun w hw => sa w hw k (by omega)) ?_⟩
    conv => whnf
    refine ⟨⟨trivial, by unfold rng; omega⟩, Next.keep (k + 1) ⟨by omega, by omega⟩ (by omega) ⟨⟨?_, rfl⟩, ⟨rfl, rfl⟩, trivial⟩ ⟨⟨rfl, rfl⟩, trivial⟩ trivial rfl rfl rfl⟩
    rw [List.take_succ_eq_append_getElem (by omega), mnL_snoc (take_ne k1 hl)]
    rfl
  · have g2 : k = n := by simp at h2; omega
    subst g2
    conv => whnf
    exact ⟨trivial, fin_pure rfl (by rw [List.take_of_length_le (by omega)]; rfl)⟩
theorem sMax {R : HP} {A : Option Addr} {n c : Nat} {l : List Int} (ha : Vs R A n l) (hn : n ≤ 4611686018427387904) (h0 : 0 < n) : PureR Try.prog R 87 [.slice A n c] (.int .i64 (mxL l)) := by
  refine PureR.of_sat fun w hs => ?_
  obtain ⟨h1, sa⟩ := ha.spot hs
  rcases sa with sa | ⟨b, off, rfl, sa⟩
  · omega
  have hl : 0 < l.length := by omega
  have e0 : mxL (l.take 1) = l[0] := by rw [List.take_succ_eq_append_getElem hl]; simp [mxL]
  refine fn_of_run0 false Try.func87 rfl hmix rfl fun w0 => ?_
  conv => whnf
  refine iff_f (by simp; omega) ?_
  conv => whnf
  refine ⟨⟨trivial, by omega⟩, LoadAt.cell (.int .i64 l[0]) rfl rfl (fun w hw => sa w hw 0 hl) ?_⟩
  conv => whnf
  refine ⟨trivial, LoopAt.keep (α := Nat) [0] (fun k => [(3, .v (.int .i64 (mxL (l.take k)))), (4, .v (.int .i64 (k : Int)))]) (fun k => 1 ≤ k ∧ k ≤ n) (fun k => n - k) 1 ⟨by omega, by omega⟩ rfl ⟨⟨by rw [e0]; rfl, rfl⟩, ⟨rfl, rfl⟩, trivial⟩ ⟨⟨rfl, rfl⟩, trivial⟩ trivial ?_⟩
  rintro k ⟨k1, k2⟩
  conv => whnf
  refine ⟨fun h2 => ?_, fun h2 => ?_⟩
  · have g2 : k < n := by simpa using h2
    conv => whnf
    refine ⟨⟨trivial, by omega⟩, LoadAt.cell (.int .i64 (l[k]'(by omega))) rfl rfl (fun w hw => sa w hw k (by omega)) ?_⟩
    conv => whnf
    refine ⟨⟨trivial, by unfold rng; omega⟩, Next.keep (k + 1) ⟨by omega, by omega⟩ (by omega) ⟨⟨?_, rfl⟩, ⟨rfl, rfl⟩, trivial⟩ ⟨⟨rfl, rfl⟩, trivial⟩ trivial rfl rfl rfl⟩
    rw [List.take_succ_eq_append_getElem (by omega), mxL_snoc (take_ne k1 hl)]
    rfl
  · have g2 : k = n := by simp at h2; omega
    subst g2
    conv => whnf
    exact ⟨trivial, fin_pure rfl (by rw [List.take_of_length_le (by omega)]; rfl)⟩

def sumL : List Int → Int := fun l => l.foldl (· + ·) 0
theorem sumL_snoc (l : List Int) (x : Int) : sumL (l ++ [x]) = sumL l + x := by simp [sumL]
theorem sumL_bd {l : List Int} (h : ∀ v ∈ l, MayV v) : ∀ k, k ≤ l.length → -2147483648 * (k : Int) ≤ sumL (l.take k) ∧ sumL (l.take k) ≤ 2147483647 * (k : Int) := by
  intro k
  induction k with
  | zero => intro _; simp [sumL]
  | succ k ih =>
    intro hk
    have := ih (by omega)
    have hv := h _ (List.getElem_mem (show k < l.length by omega))
    unfold MayV at hv
    rw [List.take_succ_eq_append_getElem (by omega), sumL_snoc]
    omega
def meanL (l : List Int) : Int := sumL l / (l.length : Int)
theorem mean_fin (s n : Int) (hn : 0 < n) : (s.tmod n < 0 → s.tdiv n - 1 = s / n) ∧ (¬ s.tmod n < 0 → s.tdiv n = s / n) := by
  have h1 := Int.mul_tdiv_add_tmod s n
  have h2 : -n < s.tmod n ∧ s.tmod n < n := ⟨Int.lt_tmod_of_pos s hn, Int.tmod_lt_of_pos s hn⟩
  constructor
  · intro h
    refine ((Int.ediv_emod_unique (r := s.tmod n + n) hn).2 ⟨?_, by omega, by omega⟩).1.symm
    rw [Int.mul_sub]
    omega
  · intro h
    exact ((Int.ediv_emod_unique (r := s.tmod n) hn).2 ⟨by omega, by omega, by omega⟩).1.symm
theorem sMean {R : HP} {A : Option Addr} {n c : Nat} {l : List Int} (ha : Vs R A n l) (hn : n ≤ 1048576) (h0 : 0 < n) (hm : ∀ v ∈ l, MayV v) : PureR Try.prog R 88 [.slice A n c] (.int .i64 (meanL l)) := by
  refine PureR.of_sat fun w hs => ?_
  obtain ⟨h1, sa⟩ := ha.spot hs
  rcases sa with sa | ⟨b, off, rfl, sa⟩
  · omega
  refine fn_of_run0 true Try.func88 rfl hmix rfl fun w0 => ?_
  conv => whnf
  refine ⟨trivial, LoopAt.keep (α := Nat) [4, 10, 11] (fun k => [(3, .v (.int .i64 (sumL (l.take k)))), (12, .v (.int .i64 (k : Int)))]) (fun k => k ≤ n) (fun k => n - k) 0 (Nat.zero_le _) rfl ⟨⟨rfl, rfl⟩, ⟨rfl, rfl⟩, trivial⟩ ⟨⟨rfl, rfl⟩, ⟨rfl, rfl⟩, ⟨rfl, rfl⟩, trivial⟩ trivial ?_⟩
  intro k hk
  have hb := sumL_bd hm k (by omega)
  conv => whnf
  refine ⟨fun h2 => ?_, fun h2 => ?_⟩
  · have g2 : k < n := by simpa using h2
    have hb2 := sumL_bd hm (k + 1) (by omega)
    rw [List.take_succ_eq_append_getElem (by omega), sumL_snoc] at hb2
    conv => whnf
    refine ⟨⟨trivial, by omega⟩, LoadAt.cell (.int .i64 (l[k]'(by omega))) rfl rfl (fun w hw => sa w hw k (by omega)) ?_⟩
    conv => whnf
    refine ⟨⟨⟨trivial, by unfold rng; omega⟩, by unfold rng; omega⟩, Next.keep (k + 1) (by omega) (by omega) ⟨⟨?_, rfl⟩, ⟨rfl, rfl⟩, trivial⟩ ⟨⟨rfl, rfl⟩, ⟨rfl, rfl⟩, ⟨rfl, rfl⟩, trivial⟩ trivial rfl rfl rfl⟩
    rw [List.take_succ_eq_append_getElem (by omega), sumL_snoc]
    rfl
  · have g2 : k = n := by simp at h2; omega
    subst g2
    have hall : l.take k = l := List.take_of_length_le (by omega)
    rw [hall] at hb ⊢
    have hq := IntWalk.i64_quo' (sumL l) k (by omega)
    have hlen : meanL l = sumL l / (k : Int) := by unfold meanL; rw [h1]
    obtain ⟨f1, f2⟩ := mean_fin (sumL l) k (by omega)
    conv => whnf
    refine ⟨fun h3 => ?_, fun h3 => ?_⟩
    · have g3 : (sumL l).tmod k < 0 := by simpa using h3
      have e := f1 g3
      have hlo : -2147483648 ≤ sumL l / (k : Int) := Int.le_ediv_of_mul_le (by omega) (by omega)
      have hhi : sumL l / (k : Int) ≤ 2147483647 := Int.le_of_lt_add_one (Int.ediv_lt_of_lt_mul (by omega) (by omega))
      conv => whnf
      refine ⟨⟨⟨⟨trivial, by omega, hq⟩, by omega⟩, by rw [e]; unfold rng; omega⟩, fin_pure rfl ?_⟩
      rw [hlen, ← e]
      rfl
    · have g3 : ¬ (sumL l).tmod k < 0 := by simpa using h3
      conv => whnf
      refine ⟨⟨⟨trivial, by omega, hq⟩, by omega⟩, fin_pure rfl ?_⟩
      rw [hlen, ← f2 g3]
      rfl
theorem sWay0 (R : HP) : PureR Try.prog R 54 [.int .i64 0] (.func (.func 86) #[] #[]) := by
  refine fn_of_run0 false Try.func54 rfl hmix rfl fun w0 => ?_
  conv => whnf
  refine iff_t (by decide) ?_
  conv => whnf
  exact ⟨trivial, fin_pure rfl rfl⟩
theorem sWay1 (R : HP) : PureR Try.prog R 54 [.int .i64 1] (.func (.func 87) #[] #[]) := by
  refine fn_of_run0 false Try.func54 rfl hmix rfl fun w0 => ?_
  conv => whnf
  refine iff_f (by decide) ?_
  conv => whnf
  refine iff_t (by decide) ?_
  conv => whnf
  exact ⟨trivial, fin_pure rfl rfl⟩
theorem sWay2 (R : HP) : PureR Try.prog R 54 [.int .i64 2] (.func (.func 88) #[] #[]) := by
  refine fn_of_run0 false Try.func54 rfl hmix rfl fun w0 => ?_
  conv => whnf
  refine iff_f (by decide) ?_
  conv => whnf
  refine iff_f (by decide) ?_
  conv => whnf
  refine iff_t (by decide) ?_
  conv => whnf
  exact ⟨trivial, fin_pure rfl rfl⟩
theorem sWayNo (h : Int) (hh : h < 0 ∨ 2 < h) (R : HP) : PureR Try.prog R 54 [.int .i64 h] .nilFunc := by
  refine fn_of_run0 false Try.func54 rfl hmix rfl fun w0 => ?_
  conv => whnf
  refine iff_f (by simp; omega) ?_
  conv => whnf
  refine iff_f (by simp; omega) ?_
  conv => whnf
  refine iff_f (by simp; omega) ?_
  conv => whnf
  exact ⟨trivial, fin_pure rfl rfl⟩
end Go.Proofs.Ytccpgalpahfpaaa

/-
  down.Level.
-/
namespace Go.Proofs.Ytccpgalpahfpaaa
open Go.RowKit
open Sy
set_option linter.unusedVariables false
set_option linter.unusedSimpArgs false
set_option maxRecDepth 100000
set_option maxHeartbeats 4000000

theorem GridAt.may {w : World} {gb W H : Nat} {f : Nat → Nat → Int} (h : GridAt w gb W H f) {x y : Nat} (hx : x < W) (hy : y < H) : MayV (f x y) := by
  obtain ⟨sb, c, p, q, hO⟩ := h
  have hI := tile_of hx
  have hJ := tile_of hy
  have := (hO.slabs _ _ hI.1 hJ.1).may (y % 16 * tw W (x / 16) + x % 16) (cell_lt hI.2 hJ.2)
  rwa [tileF_at (H := H) f hx] at this
theorem GridAt.size {w : World} {gb W H : Nat} {f : Nat → Nat → Int} (h : GridAt w gb W H f) : 1 ≤ W ∧ W ≤ 1024 ∧ 1 ≤ H ∧ H ≤ 1024 := by
  obtain ⟨sb, c, p, q, hO⟩ := h
  exact ⟨hO.w1, hO.w2, hO.h1, hO.h2⟩
theorem row_nil {R : HP} {h : Hl} (e : TypeId) (size : Nat) (s : R h) : sepL [rowH (.slice none 0 0) 0 e size []] R h := by
  refine ⟨fun _ => none, h, fun i => .inl rfl, ?_, ⟨by simp, .inl ⟨rfl, rfl, fun _ => rfl⟩⟩, s⟩
  funext i; simp [un]
theorem sub_drop1 {A B : HP} {l : List HP} {R : HP} {h : Hl} (s : sepL (A :: B :: l) R h) : ∃ h', (∀ i o, h' i = some o → h i = some o) ∧ sepL (A :: l) R h' := sub_tail (sepL_pull 1 s)
theorem sub_drop2 {A B C : HP} {l : List HP} {R : HP} {h : Hl} (s : sepL (A :: B :: C :: l) R h) : ∃ h', (∀ i o, h' i = some o → h i = some o) ∧ sepL (A :: l) R h' := by
  obtain ⟨h1, e1, s1⟩ := sub_drop1 s
  obtain ⟨h2, e2, s2⟩ := sub_drop1 s1
  exact ⟨h2, fun i o e => e1 i o (e2 i o e), s2⟩

theorem gv_vRows {f : Nat → Nat → Int} {W : Nat} : ∀ {H x y : Nat}, x < W → y < H → gv W (vRows f 0 W 0 H) x y = f x y
  | 0, x, y, _, h => by omega
  | H + 1, x, y, hx, hy => by
    unfold gv
    rw [vRows_succ, List.getD_eq_getElem?_getD]
    have hl : (vRows f 0 W 0 H).length = H * W := vRows_len f 0 W 0 H
    rcases Nat.lt_or_ge y H with c | c
    · rw [List.getElem?_append_left (by rw [hl, Nat.mul_comm H W]; exact idx_lt hx c), ← List.getD_eq_getElem?_getD]
      exact gv_vRows hx c
    · have : y = H := by omega
      subst this
      rw [List.getElem?_append_right (by rw [hl]; omega), hl, show y * W + x - y * W = x by omega]
      simp [vRow, hx]
/-- the values for which a cell of a level stands; the level -/
def spL (W H k : Nat) (f : Nat → Nat → Int) (x y : Nat) : List Int := vRows f (x * 2 ^ k) (spX1 W k x - x * 2 ^ k + 1) (y * 2 ^ k) (spX1 H k y - y * 2 ^ k + 1)
def lv (ag : List Int → Int) (W H k : Nat) (f : Nat → Nat → Int) (x y : Nat) : Int := ag (spL W H k f x y)
theorem spL_mem {W H k : Nat} {f : Nat → Nat → Int} {x y : Nat} (hW : 1 ≤ W) (hH : 1 ≤ H) (hx : x < halfN W k) (hy : y < halfN H k) {P : Int → Prop} (h : ∀ a b, a < W → b < H → P (f a b)) : ∀ v ∈ spL W H k f x y, P v := by
  intro v hv
  obtain ⟨sx1, sx2⟩ := sp_ok hW hx
  obtain ⟨sy1, sy2⟩ := sp_ok hH hy
  simp only [spL, vRows, vRow, List.mem_flatMap, List.mem_map, List.mem_range] at hv
  obtain ⟨b, hb, a, ha, rfl⟩ := hv
  exact h _ _ (by omega) (by omega)
theorem spL_len {W H k : Nat} {f : Nat → Nat → Int} {x y : Nat} (hW : W ≤ 1024) (hH : H ≤ 1024) (h1 : 1 ≤ W) (h2 : 1 ≤ H) (hx : x < halfN W k) (hy : y < halfN H k) : 0 < (spL W H k f x y).length ∧ (spL W H k f x y).length ≤ 1048576 := by
  obtain ⟨sx1, sx2⟩ := sp_ok h1 hx
  obtain ⟨sy1, sy2⟩ := sp_ok h2 hy
  unfold spL
  rw [vRows_len]
  exact ⟨Nat.mul_pos (by omega) (by omega), Nat.mul_le_mul (show _ ≤ 1024 by omega) (show _ ≤ 1024 by omega)⟩

theorem sLevel {R : HP} {gb W H k : Nat} {f : Nat → Nat → Int} {how : Int} {F : FuncId} {ag : List Int → Int} (hR : ∀ w, Sat R w → GridAt w gb W H f) (hk : k < levN W H)
    (hF : F = 86 ∨ F = 87 ∨ F = 88) (hway : ∀ R', PureR Try.prog R' 54 [.int .i64 how] (.func (.func F) #[] #[]))
    (hof : ∀ (R' : HP) (A : Option Addr) (n c : Nat) (l : List Int), Vs R' A n l → n ≤ 1048576 → 0 < n → (∀ v ∈ l, MayV v) → PureR Try.prog R' F [.slice A n c] (.int .i64 (ag l))) (hmay : ∀ l, l ≠ [] → (∀ v ∈ l, MayV v) → MayV (ag l)) :
    FnR Try.prog R 24 [.pointer (some ⟨gb, 0, none⟩), .int .i64 k, .int .i64 how] [] fun r hs => ∃ g2, r = .tuple #[.pointer (some ⟨g2, 0, none⟩), .int .i64 0] ∧ hs = [gridH g2 (halfN W k) (halfN H k) (lv ag W H k f)] := by
  refine FnR.of_sat fun w hs => ?_
  have hG := hR w hs
  obtain ⟨w1, w2, h1, h2⟩ := hG.size
  have hmf : ∀ a b, a < W → b < H → MayV (f a b) := fun a b ha hb => hG.may ha hb
  have hsz : SizeOk (W : Int) (H : Int) := ⟨by omega, by omega, by omega, by omega⟩
  have lw := half_le (k := k) w1
  have lh := half_le (k := k) h1
  obtain ⟨LW, hLW⟩ : ∃ LW, halfN W k = LW := ⟨_, rfl⟩
  obtain ⟨LH, hLH⟩ : ∃ LH, halfN H k = LH := ⟨_, rfl⟩
  have hts := fun R' => sTSize W H k hsz hk R'
  rw [hLW] at lw
  rw [hLH] at lh
  rw [hLW, hLH] at hts
  rw [hLW, hLH]
  have lenB : ∀ j i, j ≤ LH → i ≤ LW → (vA (lv ag W H k f) 0 LW 0 j i).length ≤ 1049600 := fun j i hj hi => by
    rw [vA_len]
    have := Nat.mul_le_mul (show j ≤ 1024 by omega) (show LW ≤ 1024 by omega)
    omega
  refine fn_of_run0 false Try.func24 rfl hmix rfl fun w0 => ?_
  conv => whnf
  refine ⟨trivial, CallAt.pure (fun R' hR' => gSize_p fun w s => hR w (hR' w s)) ?_⟩
  conv => whnf
  refine ⟨trivial, CallAt.pure (fun R' _ => hts R') ?_⟩
  conv => whnf
  refine ⟨trivial, CallAt.pure (fun R' _ => hway R') ?_⟩
  conv => whnf
  refine ⟨fun h3 => ?_, fun h3 => absurd h3 (by decide)⟩
  conv => whnf
  refine iff_f rfl ?_
  conv => whnf
  refine ⟨trivial, LoopAt.heap (α := Nat × Option Addr × Nat) [0, 1, 8, 9, 10, 11, 13, 44] (fun a => [(14, .v (.slice a.2.1 (vRows (lv ag W H k f) 0 LW 0 a.1).length a.2.2)), (45, .v (.int .i64 (a.1 : Int)))])
    (fun a => [rowH (.slice a.2.1 (vRows (lv ag W H k f) 0 LW 0 a.1).length a.2.2) (vRows (lv ag W H k f) 0 LW 0 a.1).length 2 1 (ints (vRows (lv ag W H k f) 0 LW 0 a.1))]) (fun a => a.1 ≤ LH) (fun a => LH - a.1) (0, none, 0) (Nat.zero_le _)
    rfl ⟨⟨rfl, rfl⟩, ⟨rfl, rfl⟩, trivial⟩ ⟨⟨rfl, rfl⟩, ⟨rfl, rfl⟩, ⟨rfl, rfl⟩, ⟨rfl, rfl⟩, ⟨rfl, rfl⟩, ⟨rfl, rfl⟩, ⟨rfl, rfl⟩, ⟨rfl, rfl⟩, trivial⟩ trivial (fun h s => sub_same (row_nil _ _ s)) ?_⟩
  rintro ⟨j, B, d⟩ hj
  simp only at hj
  conv => whnf
  refine ⟨fun h4 => ?_, fun h4 => ?_⟩
  · have g4 : j < LH := by simpa using h4
    conv => whnf
    refine ⟨trivial, LoopAt.heap (α := Nat × Option Addr × Nat) [0, 1, 8, 9, 10, 11, 13, 15, 44, 45, 48] (fun a => [(14, .v (.slice a.2.1 (vA (lv ag W H k f) 0 LW 0 j a.1).length a.2.2)), (49, .v (.int .i64 (a.1 : Int)))])
      (fun a => [rowH (.slice a.2.1 (vA (lv ag W H k f) 0 LW 0 j a.1).length a.2.2) (vA (lv ag W H k f) 0 LW 0 j a.1).length 2 1 (ints (vA (lv ag W H k f) 0 LW 0 j a.1))]) (fun a => a.1 ≤ LW) (fun a => LW - a.1) (0, B, d) (Nat.zero_le _)
      rfl ⟨⟨by simp [vA, vRow, getT], rfl⟩, ⟨rfl, rfl⟩, trivial⟩ ⟨⟨rfl, rfl⟩, ⟨rfl, rfl⟩, ⟨rfl, rfl⟩, ⟨rfl, rfl⟩, ⟨rfl, rfl⟩, ⟨rfl, rfl⟩, ⟨rfl, rfl⟩, ⟨rfl, rfl⟩, ⟨rfl, rfl⟩, ⟨rfl, rfl⟩, ⟨rfl, rfl⟩, trivial⟩ trivial (fun h s => sub_same (by simpa [vA, vRow] using s)) ?_⟩
    rintro ⟨i, B, d⟩ hi
    simp only at hi
    conv => whnf
    refine ⟨fun h5 => ?_, fun h5 => ?_⟩
    · have g5 : i < LW := by simpa using h5
      have hx : i < halfN W k := by omega
      have hy : j < halfN H k := by omega
      obtain ⟨sx1, sx2⟩ := sp_ok w1 hx
      obtain ⟨sy1, sy2⟩ := sp_ok h1 hy
      have hlen := lenB j i (by omega) (by omega)
      have hsl := spL_len (f := f) w2 h2 w1 h1 hx hy
      have hsm := spL_mem w1 h1 hx hy hmf
      have hval := fun (R' : HP) (hR' : ∀ w, Sat R' w → GridAt w gb W H f) => gValues_f hR' (i * 2 ^ k) (j * 2 ^ k) (spX1 W k i) (spX1 H k j) sx1 sx2 sy1 sy2
      obtain ⟨L, hL⟩ : ∃ L, spL W H k f i j = L := ⟨_, rfl⟩
      have hL' : vRows f (i * 2 ^ k) (spX1 W k i - i * 2 ^ k + 1) (j * 2 ^ k) (spX1 H k j - j * 2 ^ k + 1) = L := hL
      rw [hL'] at hval
      rw [hL] at hsl hsm
      have hlv : lv ag W H k f i j = ag L := by unfold lv; rw [hL]
      conv => whnf
      refine ⟨trivial, CallAt.pure (fun R' _ => sTSpan W H k i j hsz hk hx hy R') ?_⟩
      conv => whnf
      refine ⟨trivial, CallAt.fn (pre := []) _ (fun h s => s) (fun R' hR' => hval R' fun w s => hR w (hR' w s).rest) ?_⟩
      rintro r hs ⟨B2, d2, rfl, rfl⟩
      rcases hF with rfl | rfl | rfl
      all_goals
        conv => whnf
        refine ⟨trivial, CallAt.pure (fun R' hR' => hof R' _ _ _ L (Vs.row fun w s => (hR' w s).in_ 0 rfl) hsl.2 hsl.1 hsm) ?_⟩
        conv => whnf
        refine ⟨trivial, OpAt.lit [.int .i64 (ag L)] 1 rfl rfl rfl rfl rfl (by decide) rfl rfl rfl (by simp [Value.cells]) rfl (by decide) fun g2 => ?_⟩
        conv => whnf
        refine ⟨trivial, OpAt.append (.slice B (vA (lv ag W H k f) 0 LW 0 j i).length d) (vA (lv ag W H k f) 0 LW 0 j i).length 1 8 (ints (vA (lv ag W H k f) 0 LW 0 j i)) [.int .i64 (ag L)] (some ⟨g2, 0, none⟩) 1 1 _ rfl (fun h s => sepL_pull 2 s) rfl rfl rfl rfl rfl rfl rfl rfl rfl (by decide) (fun w hw => rowH_reads rfl (Sat.left hw)) (ints_one [_]) (by simp only [maxLen]; omega) (by omega) fun B' d' => ?_⟩
        conv => whnf
        refine ⟨⟨trivial, by unfold rng; omega⟩, Next.heap (i + 1, B', d') (by simp only; omega) (by simp only; omega) ⟨⟨?_, rfl⟩, ⟨rfl, rfl⟩, trivial⟩ ⟨⟨rfl, rfl⟩, ⟨rfl, rfl⟩, ⟨rfl, rfl⟩, ⟨rfl, rfl⟩, ⟨rfl, rfl⟩, ⟨rfl, rfl⟩, ⟨rfl, rfl⟩, ⟨rfl, rfl⟩, ⟨rfl, rfl⟩, ⟨rfl, rfl⟩, ⟨rfl, rfl⟩, trivial⟩ trivial rfl rfl fun h s => ?_⟩
        · rw [vA_next]; simp [getT]
        · obtain ⟨h', e, s'⟩ := sub_drop2 s
          refine ⟨h', e, ?_⟩
          rw [vA_next, ints_append]
          simpa [ints, hlv] using s'
    · have g5 : i = LW := by simp at h5; omega
      subst g5
      conv => whnf
      refine ⟨⟨trivial, by unfold rng; omega⟩, Next.heap (j + 1, B, d) (by simp only; omega) (by simp only; omega) ⟨⟨?_, rfl⟩, ⟨rfl, rfl⟩, trivial⟩ ⟨⟨rfl, rfl⟩, ⟨rfl, rfl⟩, ⟨rfl, rfl⟩, ⟨rfl, rfl⟩, ⟨rfl, rfl⟩, ⟨rfl, rfl⟩, ⟨rfl, rfl⟩, ⟨rfl, rfl⟩, trivial⟩ trivial rfl rfl fun h s => ?_⟩
      · rw [vRows_succ]; rfl
      · rw [vRows_succ]; exact sub_same s
  · have g4 : j = LH := by simp at h4; omega
    subst g4
    have hlen : (vRows (lv ag W H k f) 0 LW 0 j).length = LW * j := by rw [vRows_len, Nat.mul_comm]
    have hmm : ∀ v ∈ vRows (lv ag W H k f) 0 LW 0 j, MayV v := by
      intro v hv
      simp only [vRows, vRow, List.mem_flatMap, List.mem_map, List.mem_range] at hv
      obtain ⟨b, hb, a, ha, rfl⟩ := hv
      unfold lv
      have hx : 0 + a < halfN W k := by omega
      have hy : 0 + b < halfN H k := by omega
      refine hmay _ ?_ (spL_mem w1 h1 hx hy hmf)
      have := (spL_len (f := f) w2 h2 w1 h1 hx hy).1
      intro e; rw [e] at this; simp at this
    conv => whnf
    refine ⟨trivial, CallAt.fn (pre := []) _ (fun h s => s) (fun R' hR' => sFrom (Vs.row fun w s => (hR' w s).in_ 0 rfl) hmm (by omega) (by omega) (by omega) (by omega) hlen.symm) ?_⟩
    rintro r hs ⟨g2, rfl, rfl⟩
    conv => whnf
    refine ⟨trivial, .mk [gridH g2 LW j (lv ag W H k f)] (fun w ⟨h, hs, s⟩ => ?_) ⟨g2, rfl, rfl⟩⟩
    obtain ⟨h', e, s'⟩ := sub_drop1 s
    refine ⟨h', hs.mono e, sep_mono s' (fun _ g => gridH_congr (fun x y hx hy => ?_) g) fun _ x => x⟩
    exact gv_vRows hx hy
end Go.Proofs.Ytccpgalpahfpaaa

/-
  grid.At.
-/
namespace Go.Proofs.Ytccpgalpahfpaaa
open Go.RowKit
open Sy
set_option linter.unusedVariables false
set_option linter.unusedSimpArgs false
set_option maxRecDepth 100000
set_option maxHeartbeats 4000000

theorem drewN_below (w : World) (m : Nat) : Below w.heap.size w (w.drewN m) := by
  exact bel_drewN (Below.refl w.heap.size w) m
theorem sat_ext {w w' : World} (s : Sat (fun g => g = fun i => w.heap[i]?) w') {i : Nat} {o} (h : w.heap[i]? = some o) : w'.heap[i]? = some o := by
  obtain ⟨g, g1, rfl⟩ := s
  exact g1 i o h
theorem gAt_p {R : HP} {gb W H x y : Nat} {f : Nat → Nat → Int} (hR : ∀ w, Sat R w → GridAt w gb W H f) (hx : x < W) (hy : y < H) :
    PureR Try.prog R 53 [.pointer (some ⟨gb, 0, none⟩), cellV x y] (.tuple #[.int .i64 (f x y), .int .i64 0]) := by
  refine PureR.of_below fun w s => ?_
  obtain ⟨sb, c, p, q, hO⟩ := hR w s
  refine PureR.below ?_
  have hO' : ∀ w', Sat (fun g => g = fun i => w.heap[i]?) w' → GridOpen w' gb W H f sb c p q := fun w' s' => hO.agree fun i hi => by
    obtain ⟨t, cs, hb⟩ := hO.there hi
    have hb' : w.heap[i]? = some (.cells cs t (0, 0)) := hb
    rw [hb']; exact sat_ext s' hb'
  have w1 := hO.w1; have w2 := hO.w2; have h1 := hO.h1; have h2 := hO.h2
  have hI := tile_of hx
  have hJ := tile_of hy
  have hk := idx_lt hI.1 hJ.1
  have hT : tiles W ≤ 64 := by unfold tiles; omega
  refine fn_of_run0 false Try.func53 rfl hmix rfl fun w0 => ?_
  conv => whnf
  refine ⟨trivial, CallAt.pure (fun R' _ => sSpot x y R') ?_⟩
  conv => whnf
  refine ⟨trivial, CallAt.pure (v := .int .i64 0) (fun R' hR' => PureR.of_below fun w s => ?_) ?_⟩
  · have := gcheck_any gb W H _ _ x y x y w (hO' w (hR' w s)).head (by omega) (by omega) (by omega) (by omega)
    rwa [show withinZ (x : Int) y x y W H = 0 from within_of ⟨by omega, by omega, by omega, by omega⟩ (by omega) (by omega) (by omega) (by omega) (by omega) (by omega)] at this
  conv => whnf
  refine iff_f (by decide) ?_
  conv => whnf
  refine ⟨trivial, RegAt.quiet hmix (by kernel_rfl) ?_⟩
  conv => whnf
  refine ⟨trivial, CallQ.pure (v := .pointer (some ⟨p (y / 16 * tiles W + x / 16), 0, none⟩)) (fun R' hR' => PureR.of_below fun w s => ?_) ?_⟩
  · have hO := hO' w (hR' w s)
    obtain ⟨cur, hc, hl⟩ := hO.list
    refine (gslab_at gb sb _ c (tiles W) x y _ (p (y / 16 * tiles W + x / 16)) _ _ #[] w hO.head ?_ rfl hk hT (by omega) (by omega)).mono ?_
    · exact (hc.cell _).trans (hl _ hk)
    · rintro e w' ⟨rfl, m, rfl⟩
      exact ⟨rfl, drewN_below w m⟩
  conv => whnf
  refine ⟨trivial, CallQ.pure (fun R' hR' => PureR.of_below fun w s => inner_any x y w) ?_⟩
  conv => whnf
  refine ⟨trivial, CallQ.pure (fun R' hR' => PureR.of_below fun w s => sAt_ok ((hO' w (hR' w s)).slabs _ _ hI.1 hJ.1) _ _ hI.2 hJ.2) ?_⟩
  conv => whnf
  refine ⟨trivial, ?_⟩
  conv => whnf
  refine ⟨trivial, fin_pure rfl ?_⟩
  rw [tileF_at (H := H) f hx]
  rfl
end Go.Proofs.Ytccpgalpahfpaaa

/-
  No grid has levels.
-/
namespace Go.Proofs.Ytccpgalpahfpaaa
open Go.RowKit
open Sy
set_option linter.unusedVariables false
set_option linter.unusedSimpArgs false
set_option maxRecDepth 100000
set_option maxHeartbeats 4000000

theorem sLevelNil (k how : Int) (R : HP) : PureR Try.prog R 24 [.pointer none, .int .i64 k, .int .i64 how] (.tuple #[.pointer none, .int .i64 1]) := by
  refine fn_of_run0 false Try.func24 rfl hmix rfl fun w0 => ?_
  conv => whnf
  exact ⟨trivial, fin_pure rfl rfl⟩
theorem sSizeNil (R : HP) : PureR Try.prog R 39 [.pointer none] (.tuple #[.int .i64 0, .int .i64 0]) := by
  refine fn_of_run0 false Try.func39 rfl hmix rfl fun w0 => ?_
  conv => whnf
  exact ⟨trivial, fin_pure rfl rfl⟩
theorem sRowNil (how : Int) (R : HP) : PureR Try.prog R 27 [.pointer none, .int .i64 how] (.tuple #[.slice none 0 0, .int .i64 1]) := by
  refine fn_of_run0 false Try.func27 rfl hmix rfl fun w0 => ?_
  conv => whnf
  refine ⟨trivial, CallAt.pure (fun R' _ => sSizeNil R') ?_⟩
  conv => whnf
  refine ⟨trivial, CallAt.pure (fun R' _ => PureR.of_below fun w _ => Levels_bad 0 0 w (by decide) (by decide) (by decide) (by decide) (by unfold SizeOk; omega)) ?_⟩
  conv => whnf
  refine ⟨trivial, LoopAt.keep (α := Unit) [0, 1, 4, 5, 8, 21] (fun a => [(22, .v (.int .i64 0))]) (fun a => True) (fun a => 0) () trivial
    rfl ⟨⟨rfl, rfl⟩, trivial⟩ ⟨⟨rfl, rfl⟩, ⟨rfl, rfl⟩, ⟨rfl, rfl⟩, ⟨rfl, rfl⟩, ⟨rfl, rfl⟩, ⟨rfl, rfl⟩, trivial⟩ trivial ?_⟩
  rintro ⟨⟩ _
  conv => whnf
  refine iff_t (by decide) ?_
  conv => whnf
  refine ⟨trivial, CallAt.pure (fun R' _ => sLevelNil 0 how R') ?_⟩
  conv => whnf
  refine iff_t (by decide) ?_
  conv => whnf
  exact ⟨trivial, fin_pure rfl rfl⟩
theorem mean_may {l : List Int} (h0 : l ≠ []) (h : ∀ v ∈ l, MayV v) : MayV (meanL l) := by
  have hs := sumL_bd h l.length (Nat.le_refl _)
  rw [List.take_length] at hs
  have hl : (0 : Int) < l.length := by have := List.length_pos_iff.2 h0; omega
  unfold meanL
  exact ⟨(Int.le_ediv_iff_mul_le hl).2 hs.1, Int.le_of_lt_add_one ((Int.ediv_lt_iff_lt_mul hl).2 (by rw [Int.add_mul]; omega))⟩
theorem sAwake18 (R : HP) : PureR Try.prog R 23 [] (.bool true) := by
  refine fn_of_run0 false Try.func23 rfl hmix rfl fun w0 => ?_
  conv => whnf
  refine ⟨trivial, OpAt.lit [.int .i64 3, .int .i64 4] 1 rfl rfl rfl rfl rfl (by decide) rfl rfl rfl (by simp [Value.cells]) rfl (by decide) fun g => ?_⟩
  conv => whnf
  refine ⟨trivial, CallAt.fn (pre := []) _ (fun h s => s) (fun R' hR' => sFrom (W := 2) (H := 1) (l := [3, 4]) (Vs.row fun w s => (hR' w s).in_ 0 rfl) (by simp [MayV]) (by decide) (by decide) (by decide) (by decide) rfl) ?_⟩
  rintro r hs ⟨gb, rfl, rfl⟩
  conv => whnf
  refine ⟨trivial, CallAt.fn (pre := []) _ (fun h s => s) (fun R' hR' => sLevel (W := 2) (H := 1) (k := 1) (ag := meanL) (gridAt_rest 0 rfl hR') (by decide) (.inr (.inr rfl)) (fun R' => sWay2 R') (fun R' A n c l h1 h2 h3 h4 => sMean h1 h2 h3 h4) (fun l h1 h2 => mean_may h1 h2)) ?_⟩
  rintro r hs ⟨g2, rfl, rfl⟩
  conv => whnf
  refine ⟨trivial, CallAt.pure (fun R' hR' => gAt_p (x := 0) (y := 0) (gridAt_rest 0 rfl hR') (by decide) (by decide)) ?_⟩
  conv => whnf
  iterate 3
    refine ⟨fun _ => ?_, fun h => absurd h (by decide)⟩
    conv => whnf
  refine ⟨trivial, .mk [] (fun w ⟨h, hs, s⟩ => ?_) ⟨?_, rfl⟩⟩
  · obtain ⟨h1, e1, s1⟩ := sub_tail s
    obtain ⟨h2, e2, s2⟩ := sub_tail s1
    obtain ⟨h3, e3, s3⟩ := sub_tail s2
    exact ⟨h3, hs.mono fun i o e => e1 i o (e2 i o (e3 i o e)), s3⟩
  · rfl
theorem DownNil_walk (k how : Int) (w : World) (a1 : -9223372036854775808 ≤ k) (a2 : k ≤ 9223372036854775807) (b1 : -9223372036854775808 ≤ how) (b2 : how ≤ 9223372036854775807) :
    Calls Try.prog 6 #[.int .i64 k, .int .i64 how] w fun e w' => e = .returned (.bool true) ∧ Below w.heap.size w w' := by
  refine PureR.below (args := [.int .i64 k, .int .i64 how]) ?_
  refine fn_of_run0 false Try.func6 rfl hmix rfl fun w0 => ?_
  conv => whnf
  refine ⟨trivial, CallAt.pure (fun R' _ => sAwake18 R') ?_⟩
  conv => whnf
  refine iff_f (by decide) ?_
  conv => whnf
  refine ⟨trivial, CallAt.pure (fun R' _ => sLevelNil k how R') ?_⟩
  conv => whnf
  refine ⟨trivial, CallAt.pure (fun R' _ => sRowNil how R') ?_⟩
  conv => whnf
  iterate 2
    refine ⟨fun _ => ?_, fun h => absurd h (by decide)⟩
    conv => whnf
  exact ⟨trivial, fin_pure rfl rfl⟩
end Go.Proofs.Ytccpgalpahfpaaa

/-
  Bytes in memory of the call's own: the shape of such a slice; what 'it gives new bytes' means.
-/
namespace Go.Proofs.Ytccpgalpahfpaaa
open Go.RowKit

theorem info_u8 : (Try.prog.info? 5).map (fun i => (i.zero, i.size, i.bytes)) = some (some (.int .u8 0), 1, 1) := by kernel_rfl

/-- it returns a slice of bytes in memory of its own -/
def GivesB (w : World) (l : List UInt8) (e : Ending) (w' : World) : Prop :=
  ∃ A c, e = .returned (.slice A l.length c) ∧ w'.ownsRow w.heap.size 5 1 (.slice A l.length c) l.length (byts l) ∧ Below w.heap.size w w'

theorem own_shape {w : World} {base : Nat} {e : TypeId} {size n : Nat} {v : Value} {xs : List Value} (h : w.ownsRow base e size v n xs) : ∃ A c, v = .slice A n c ∧ n ≤ c ∧ c ≤ 9223372036854775807 ∧ (A = none → n = 0 ∧ c = 0) := by
  rcases h.2 with ⟨rfl, rfl⟩ | ⟨g, cap, cur, rfl, _, _, hn, hm, _⟩
  · exact ⟨_, _, rfl, Nat.le_refl _, by omega, fun _ => ⟨rfl, rfl⟩⟩
  · exact ⟨_, _, rfl, hn, hm, fun h => by cases h⟩

theorem givesB_mk {w w' : World} {l : List UInt8} {v : Value} {n : Nat} {xs : List Value} (h : w'.ownsRow w.heap.size 5 1 v n xs) (hx : xs = byts l) (hb : Below w.heap.size w w') : GivesB w l (.returned v) w' := by
  subst hx
  have hn : n = l.length := by have := h.1; simpa using this.symm
  subst hn
  obtain ⟨A, c, rfl, _⟩ := own_shape h
  exact ⟨A, c, rfl, h, hb⟩
theorem own_facts {w : World} {base : Nat} {e : TypeId} {size n c : Nat} {A : Option Addr} {xs : List Value} (h : w.ownsRow base e size (.slice A n c) n xs) : n ≤ c ∧ c ≤ 9223372036854775807 ∧ (A = none → n = 0 ∧ c = 0) := by
  obtain ⟨A', c', h1, h2, h3, h4⟩ := own_shape h
  injection h1 with h5 h6 h7
  subst h5 h7
  exact ⟨h2, h3, h4⟩

end Go.Proofs.Ytccpgalpahfpaaa

/-
  The document's list of the levels' sizes (hachureref15.Sizes), and the plain facts of the halves.
-/
namespace Go.Proofs.Ytccpgalpahfpaaa
open Go.RowKit
set_option linter.unusedVariables false
set_option linter.unusedSimpArgs false

theorem halfZ_zero (n : Int) : halfZ n 0 = n := by unfold halfZ; simp

theorem halfZ_succ (n : Int) (j : Nat) : (halfZ n j + 1) / 2 = halfZ n (j + 1) := by
  unfold halfZ
  rw [Int.pow_succ, ← Int.ediv_ediv_of_nonneg (Int.le_of_lt (Int.pow_pos (by omega)))]
  omega

theorem halfZ_big (n : Int) (j : Nat) : 1 < halfZ n j ↔ 2 ^ j ≤ n - 1 := by
  have hp : (0 : Int) < 2 ^ j := Int.pow_pos (by omega)
  unfold halfZ
  have := Int.le_ediv_iff_mul_le (a := 1) (b := n - 1) hp
  rw [Int.one_mul] at this
  rw [← this]
  omega

theorem bitLen_lt (n j : Nat) (hn : n < 2 ^ 64) : j < Lib.bitLen n ↔ 2 ^ j ≤ n := by
  constructor
  · intro h
    by_cases c : n < 2 ^ j
    · have := Lib.bitLenAux_le 64 n j c
      unfold Lib.bitLen at h
      omega
    · omega
  · intro h
    have hp : 0 < 2 ^ j := Nat.two_pow_pos j
    rw [Lib.bitLen_shift j n h hn]
    have h1 : 1 ≤ n / 2 ^ j := (Nat.le_div_iff_mul_le hp).2 (by omega)
    have h2 : n / 2 ^ j ≤ n := Nat.div_le_self _ _
    rw [Lib.bitLen_half (n / 2 ^ j) (by omega) (by omega)]
    omega

theorem lev_lt {a b : Int} (h : SizeOk a b) (j : Nat) : j + 1 < levN a b ↔ (1 < halfZ a j ∨ 1 < halfZ b j) := by
  obtain ⟨h1, h2, h3, h4⟩ := h
  rw [halfZ_big, halfZ_big]
  unfold levN
  have := bitLen_lt (max a b - 1).toNat j (by omega)
  have e : ((2 ^ j : Nat) : Int) = 2 ^ j := by simp
  rw [← e]
  omega

/-- cells in memory -/
def cel (l : List (Int × Int)) : List Value := l.flatMap fun p => [.int .i64 p.1, .int .i64 p.2]
theorem cel_append (l m : List (Int × Int)) : cel (l ++ m) = cel l ++ cel m := by simp [cel]
theorem cel_length (l : List (Int × Int)) : (cel l).length = l.length * 2 := by
  induction l with
  | nil => rfl
  | cons p l ih => simp [cel] at ih ⊢; omega
theorem cel_one (l : List (Int × Int)) : ∀ u ∈ cel l, u.oneCell' = true := by
  intro u hu
  simp [cel] at hu
  obtain ⟨x, y, _, h⟩ := hu
  rcases h with rfl | rfl <;> rfl
theorem cel_at : ∀ (l : List (Int × Int)) (k : Nat) (h : k < l.length), (cel l)[k * 2]? = some (.int .i64 l[k].1) ∧ (cel l)[k * 2 + 1]? = some (.int .i64 l[k].2)
  | p :: l, 0, _ => by simp [cel]
  | p :: l, k + 1, h => by
    have ih := cel_at l k (by simpa using h)
    have e : cel (p :: l) = .int .i64 p.1 :: .int .i64 p.2 :: cel l := by simp [cel]
    rw [e, show (k + 1) * 2 = k * 2 + 1 + 1 from by omega]
    simpa using ih

/-- the first j sizes -/
def szs (a b : Int) (j : Nat) : List (Int × Int) := (List.range j).map fun i => (halfZ a i, halfZ b i)
@[simp] theorem szs_length (a b : Int) (j : Nat) : (szs a b j).length = j := by simp [szs]
theorem szs_succ (a b : Int) (j : Nat) : szs a b (j + 1) = szs a b j ++ [(halfZ a j, halfZ b j)] := by simp [szs, List.range_succ]
theorem szs_at (a b : Int) (j k : Nat) (h : k < (szs a b j).length) : (szs a b j)[k] = (halfZ a k, halfZ b k) := by simp [szs]

theorem info_cell : (Try.prog.info? 24).map (fun i => (i.zero, i.size, i.bytes)) = some (some (.agg #[.int .i64 0, .int .i64 0]), 2, 16) := by kernel_rfl

theorem reads_cells (w : World) (l : List (Int × Int)) (e : TypeId) (C : Array Value) (hC : C = (cel l).toArray) : Reads (w.alloc (.cells C e)) (w.heap.size + 1) 2 (some ⟨w.heap.size, 0, none⟩) l.length (cel l) := by
  subst hC
  refine ⟨cel_length l, fun _ => ⟨_, rfl, Nat.lt_succ_self _, fun j u hj => ?_⟩⟩
  rw [add_plain, Nat.zero_add]
  simpa using hj

theorem own_new (w : World) (l : List (Int × Int)) (e : TypeId) (C : Array Value) (hC : C = (cel l).toArray) (hl : l.length ≤ maxLen) {base : Nat} (hb : base ≤ w.heap.size) : (w.alloc (.cells C e)).ownsRow base e 2 (.slice (some ⟨w.heap.size, 0, none⟩) l.length l.length) l.length (cel l) := by
  subst hC
  refine ⟨cel_length l, .inr ⟨w.heap.size, _, _, rfl, hb, heap_alloc_new w _, Nat.le_refl _, hl, by simp [cel_length], ?_⟩⟩
  rw [List.take_of_length_le (by simp [cel_length])]

theorem rSizes_bad (a b : Int) (w : World) (h : ¬ SizeOk a b) :
    Calls Try.prog 34 #[.int .i64 a, .int .i64 b] w fun e w' => e = .returned (.slice none 0 0) ∧ w = w' := by
  unfold SizeOk at h
  rcases (show a < 1 ∨ (1 ≤ a ∧ 1024 < a) ∨ (1 ≤ a ∧ a ≤ 1024 ∧ b < 1) ∨ (1 ≤ a ∧ a ≤ 1024 ∧ 1 ≤ b ∧ 1024 < b) from by omega) with c | c | c | c
  all_goals
    clear h
    go_enter Try.func34, Try.ntmps34
    go_wp2_with fail
    go_ret
    exact ⟨rfl, rfl⟩

set_option maxHeartbeats 1000000 in
set_option maxRecDepth 100000 in
theorem rSizes_ok (a b : Int) (w : World) (h : SizeOk a b) :
    Calls Try.prog 34 #[.int .i64 a, .int .i64 b] w fun e w' => ∃ A c, e = .returned (.slice A (levN a b) c) ∧ w'.ownsRow w.heap.size 24 2 (.slice A (levN a b) c) (levN a b) (cel (szs a b (levN a b))) ∧ Below w.heap.size w w' := by
  have hl := levN_le h
  obtain ⟨h1, h2, h3, h4⟩ := id h
  obtain ⟨i0, hi0, hz0, hz1, hz2⟩ := info_parts info_cell
  have hown0 := own_new w [(a, b)] 24 #[.int .i64 a, .int .i64 b] (by simp [cel]) (by simp [maxLen]) (base := w.heap.size) (Nat.le_refl _)
  have hlev : 0 < levN a b := by unfold levN; omega
  have HLT : Hid (∀ j, j + 1 < levN a b ↔ (1 < halfZ a j ∨ 1 < halfZ b j)) := fun j => lev_lt h j
  clear h
  go_enter Try.func34, Try.ntmps34
  go_wp2_with fail
  go_loopw [0, 1, 5] (fun p q v wr => ∃ (j : Nat) (A : Option Addr) (c : Nat), j + 1 ≤ levN a b ∧ p = .int .i64 (halfZ a j) ∧ q = .int .i64 (halfZ b j) ∧ v = .slice A (j + 1) c ∧ wr.ownsRow w.heap.size 24 2 (.slice A (j + 1) c) (j + 1) (cel (szs a b (j + 1))) ∧ Below w.heap.size w wr) (fun p q _ _ => (intOf p + intOf q).toNat)
  case atStart => exact ⟨0, _, _, by omega, by rw [halfZ_zero], by rw [halfZ_zero], rfl, by simpa [szs, halfZ_zero] using hown0, (Below.refl _ _).alloc (Nat.le_refl _) _⟩
  case round =>
    obtain ⟨j, A, c, hj, rfl, rfl, rfl, hown, hbr⟩ := hrel
    clear hown0
    obtain ⟨pa, pa2⟩ := halfZ_pos a j h1 h2
    obtain ⟨pb, pb2⟩ := halfZ_pos b j h3 h4
    have ea := Lib.hid (halfZ_succ a j)
    have eb := Lib.hid (halfZ_succ b j)
    have hj1 := Lib.hid (HLT.out j)
    obtain ⟨p, hp⟩ : ∃ p, halfZ a j = p := ⟨_, rfl⟩
    obtain ⟨q, hq⟩ : ∃ q, halfZ b j = q := ⟨_, rfl⟩
    rw [hp] at ea hj1 pa pa2 ⊢
    rw [hq] at eb hj1 pb pb2 ⊢
    clear hp hq
    by_cases hgo : 1 < p ∨ 1 < q
    · have hj2 : j + 1 < levN a b := hj1.out.2 hgo
      have hsz : wr.heap.size < wr.heap.size + 1 := by omega
      rcases (show 1 < p ∨ (p ≤ 1 ∧ 1 < q) from by omega) with g | g
      all_goals
        clear hgo
        go_wp2_with (at_builtin; refine wpList_append_appl _ rfl (.tmp 36) (.tmp 40) _ rfl w.heap.size 24 i0 _ 2 16 Try.underlying72 hi0 hz0 hz1 hz2 rfl (by omega) (.slice A (j + 1) c) _ _ rfl (.inl (hown.alloc _)) (wr.heap.size + 1) (some ⟨wr.heap.size, 0, none⟩) 1 1 (cel [((p + 1) / 2, (q + 1) / 2)]) rfl (reads_cells _ _ _ _ (by simp [cel])) (cel_one _) (.inl (by omega)) (by simp only [maxLen]; omega) (by omega) (by have := hbr.size; simp; omega) ?_; intro v1 w1 hown1 hB1 hg1 hat1)
        go_roundw
        case rel =>
          obtain ⟨A3, c3, rfl, _⟩ := own_shape hown1
          rw [ea.out, eb.out] at hown1 ⊢
          refine ⟨j + 1, A3, c3, by omega, rfl, rfl, rfl, ?_, (hbr.alloc hbr.size _).trans hB1⟩
          rw [szs_succ a b (j + 1), cel_append]
          exact hown1
        case measure =>
          simp only [intOf]
          omega
    · have g1 : p ≤ 1 := by omega
      have g2 : q ≤ 1 := by omega
      have hj2 : Hid (levN a b = j + 1) := by
        unfold Hid
        have := hj1.out
        omega
      clear hgo
      go_wp2_with fail
      go_ret
      exact ⟨A, c, by rw [hj2.out]; rfl, by rw [hj2.out]; exact hown, hbr⟩
end Go.Proofs.Ytccpgalpahfpaaa

/-
  ref16.Span, ref18.mean, ref15.Sizes, law09.Is.
-/
namespace Go.Proofs.Ytccpgalpahfpaaa
open Go.RowKit
open Sy
set_option linter.unusedVariables false
set_option linter.unusedSimpArgs false
set_option maxRecDepth 100000
set_option maxHeartbeats 4000000

theorem of_dt {p : Prop} [Decidable p] (h : decide p = true) : p := of_decide_eq_true h
theorem of_df {p : Prop} [Decidable p] (h : decide p = false) : ¬ p := of_decide_eq_false h
theorem sRSpan {A : Option Addr} {n c : Nat} (W H k x y : Nat) (hs : SizeOk (W : Int) (H : Int)) (hk : k < levN W H) (hx : x < halfN W k) (hy : y < halfN H k) (R : HP) :
    PureR Try.prog R 43 [modV W H A n c, .int .i64 k, cellV x y] (rectV ((x * 2 ^ k : Nat) : Int) ((y * 2 ^ k : Nat) : Int) ((spX1 W k x : Nat) : Int) ((spX1 H k y : Nat) : Int)) := by
  have k10 := lev10 hs hk
  have hp := pow_le k k10
  have hx1 := half_mul hx
  have hy1 := half_mul hy
  have hs' := hs
  unfold SizeOk at hs'
  have lx := (half_le (W := W) (k := k) (by omega)).2
  have ly := (half_le (W := H) (k := k) (by omega)).2
  have bx : (x + 1) * 2 ^ k ≤ 2047 := by rw [Nat.add_mul]; omega
  have by' : (y + 1) * 2 ^ k ≤ 2047 := by rw [Nat.add_mul]; omega
  have ex : (x : Int) * ((2 ^ k : Nat) : Int) = ((x * 2 ^ k : Nat) : Int) := by simp
  have ey : (y : Int) * ((2 ^ k : Nat) : Int) = ((y * 2 ^ k : Nat) : Int) := by simp
  have ex2 : ((x : Int) + 1) * ((2 ^ k : Nat) : Int) = (((x + 1) * 2 ^ k : Nat) : Int) := by simp
  have ey2 : ((y : Int) + 1) * ((2 ^ k : Nat) : Int) = (((y + 1) * 2 ^ k : Nat) : Int) := by simp
  have zx := spX1_Z (W := W) (k := k) (x := x) (by omega)
  have zy := spX1_Z (W := H) (k := k) (x := y) (by omega)
  refine fn_of_run0 false Try.func43 rfl hmix rfl fun w0 => ?_
  conv => whnf
  refine ⟨trivial, LoopAt.keep (α := Nat) [1, 3, 5, 6] (fun i => [(7, .v (.int .i64 ((2 ^ i : Nat) : Int))), (8, .v (.int .i64 (i : Int)))]) (fun i => i ≤ k) (fun i => k - i) 0 (Nat.zero_le _) rfl ⟨⟨rfl, rfl⟩, ⟨rfl, rfl⟩, trivial⟩ ⟨⟨rfl, rfl⟩, ⟨rfl, rfl⟩, ⟨rfl, rfl⟩, ⟨rfl, rfl⟩, trivial⟩ ⟨⟨rfl, rfl, rfl, rfl⟩, ⟨rfl, rfl, rfl, rfl⟩, ⟨rfl, rfl, rfl, rfl⟩, trivial⟩ ?_⟩
  intro i hi
  have hpi := pow_le i (by omega)
  obtain ⟨q, hq⟩ : ∃ q, 2 ^ i = q := ⟨_, rfl⟩
  rw [hq]
  conv => whnf
  refine ⟨fun h2 => ?_, fun h2 => ?_⟩
  · have g2 : i < k := by simpa using h2
    conv => whnf
    refine ⟨⟨⟨trivial, by unfold rng; omega⟩, by unfold rng; omega⟩, Next.keep (i + 1) (by omega) (by omega) ⟨⟨?_, rfl⟩, ⟨rfl, rfl⟩, trivial⟩ ⟨⟨rfl, rfl⟩, ⟨rfl, rfl⟩, ⟨rfl, rfl⟩, ⟨rfl, rfl⟩, trivial⟩ ⟨⟨rfl, rfl, rfl, rfl⟩, ⟨rfl, rfl, rfl, rfl⟩, ⟨rfl, rfl, rfl, rfl⟩, trivial⟩ rfl rfl rfl⟩
    have : 2 * (q : Int) = ((2 ^ (i + 1) : Nat) : Int) := by rw [Nat.pow_succ, hq]; omega
    exact congrArg (fun z => some (SV.v (.int .i64 z))) this
  · have g2 : i = k := by simp at h2; omega
    subst g2
    rw [hq] at hp hx1 hy1 bx by' ex ey ex2 ey2 zx zy ⊢
    have e3 : (x + 1) * q = x * q + q := Nat.add_mul x 1 q |>.trans (by rw [Nat.one_mul])
    have e4 : (y + 1) * q = y * q + q := Nat.add_mul y 1 q |>.trans (by rw [Nat.one_mul])
    conv => whnf
    refine ⟨fun h3 => ?_, fun h3 => ?_⟩
    all_goals
      first | have g3 := of_dt h3 | have g3 := of_df h3
      rw [ex2] at g3
      conv => whnf
      refine ⟨fun h4 => ?_, fun h4 => ?_⟩
      all_goals
        first | have g4 := of_dt h4 | have g4 := of_df h4
        rw [ey2] at g4
        conv => whnf
        refine ⟨?_, fin_pure rfl ?_⟩
        · repeat' apply And.intro
          all_goals first
            | exact True.intro
            | omega
            | (rw [ex]; omega)
            | (rw [ey]; omega)
            | (rw [ex2]; omega)
            | (rw [ey2]; omega)
        · show rectV _ _ _ _ = rectV _ _ _ _
          congr 1 <;> omega
theorem sSizes (W H : Nat) (hs : SizeOk (W : Int) (H : Int)) (R : HP) :
    FnR Try.prog R 34 [.int .i64 W, .int .i64 H] [] fun r hs => ∃ A c, r = .slice A (levN W H) c ∧ hs = [rowH (.slice A (levN W H) c) (levN W H) 24 2 (cel (szs W H (levN W H)))] := by
  intro w s
  refine (rSizes_ok W H w hs).mono ?_
  rintro e w' ⟨A, c, rfl, hown, hb⟩
  exact ⟨_, _, rfl, ⟨A, c, rfl, rfl⟩, sat_row s hb hown, .of_below hb⟩
theorem sRMean {R : HP} {A : Option Addr} {n c : Nat} {l : List Int} (ha : Vs R A n l) (hn : n ≤ 1048576) (h0 : 0 < n) (hm : ∀ v ∈ l, MayV v) : PureR Try.prog R 56 [.slice A n c] (.int .i64 (meanL l)) := by
  refine PureR.of_sat fun w hs => ?_
  obtain ⟨h1, sa⟩ := ha.spot hs
  rcases sa with sa | ⟨b, off, rfl, sa⟩
  · omega
  refine fn_of_run0 true Try.func56 rfl hmix rfl fun w0 => ?_
  conv => whnf
  refine ⟨trivial, LoopAt.keep (α := Nat) [0] (fun k => [(3, .v (.int .i64 (sumL (l.take k)))), (4, .v (.int .i64 (k : Int)))]) (fun k => k ≤ n) (fun k => n - k) 0 (Nat.zero_le _) rfl ⟨⟨rfl, rfl⟩, ⟨rfl, rfl⟩, trivial⟩ ⟨⟨rfl, rfl⟩, trivial⟩ trivial ?_⟩
  intro k hk
  have hb := sumL_bd hm k (by omega)
  conv => whnf
  refine ⟨fun h2 => ?_, fun h2 => ?_⟩
  · have g2 : k < n := by simpa using h2
    have hb2 := sumL_bd hm (k + 1) (by omega)
    rw [List.take_succ_eq_append_getElem (by omega), sumL_snoc] at hb2
    conv => whnf
    refine ⟨⟨trivial, by omega⟩, LoadAt.cell (.int .i64 (l[k]'(by omega))) rfl rfl (fun w hw => sa w hw k (by omega)) ?_⟩
    conv => whnf
    refine ⟨⟨⟨trivial, by unfold rng; omega⟩, by unfold rng; omega⟩, Next.keep (k + 1) (by omega) (by omega) ⟨⟨?_, rfl⟩, ⟨rfl, rfl⟩, trivial⟩ ⟨⟨rfl, rfl⟩, trivial⟩ trivial rfl rfl rfl⟩
    rw [List.take_succ_eq_append_getElem (by omega), sumL_snoc]
    rfl
  · have g2 : k = n := by simp at h2; omega
    subst g2
    have hall : l.take k = l := List.take_of_length_le (by omega)
    rw [hall] at hb ⊢
    have hq := IntWalk.i64_quo' (sumL l) k (by omega)
    have hlen : meanL l = sumL l / (k : Int) := by unfold meanL; rw [h1]
    obtain ⟨f1, f2⟩ := mean_fin (sumL l) k (by omega)
    have q1 : sumL l / (k : Int) * k ≤ sumL l := Int.ediv_mul_le _ (by omega)
    have q2 : sumL l < (sumL l / (k : Int) + 1) * k := Int.lt_ediv_add_one_mul_self _ (by omega)
    have hlo : -2147483648 ≤ sumL l / (k : Int) := Int.le_ediv_of_mul_le (by omega) (by omega)
    have hhi : sumL l / (k : Int) ≤ 2147483647 := Int.le_of_lt_add_one (Int.ediv_lt_of_lt_mul (by omega) (by omega))
    have h0' : sumL l / (k : Int) ≤ (sumL l).tdiv k ∧ (sumL l).tdiv k ≤ sumL l / (k : Int) + 1 := by
      by_cases c : (sumL l).tmod k < 0
      · have := f1 c; omega
      · have := f2 c; omega
    rw [hlen]
    generalize sumL l / (k : Int) = q at *
    rw [Int.add_mul, Int.one_mul] at q2
    conv => whnf
    refine ⟨⟨trivial, by omega, hq⟩, LoopAt.keep (α := Int) [3, 5] (fun m => [(6, .v (.int .i64 m))]) (fun m => q ≤ m ∧ m ≤ q + 1) (fun m => (m - q).toNat) ((sumL l).tdiv k) h0' rfl ⟨⟨rfl, rfl⟩, trivial⟩ ⟨⟨rfl, rfl⟩, ⟨rfl, rfl⟩, trivial⟩ trivial ?_⟩
    intro m hm
    have hm' : m = q ∧ m * k = q * k ∨ m = q + 1 ∧ m * k = q * k + k := by
      rcases (show m = q ∨ m = q + 1 by omega) with e | e
      · exact .inl ⟨e, by rw [e]⟩
      · exact .inr ⟨e, by rw [e, Int.add_mul, Int.one_mul]⟩
    generalize hMK : m * (k : Int) = mk at *
    generalize q * (k : Int) = qk at *
    conv => whnf
    refine ⟨fun h3 => ?_, fun h3 => ?_⟩
    · have g3 : sumL l < m * (k : Int) := of_dt h3
      rw [hMK] at g3
      conv => whnf
      refine ⟨⟨⟨trivial, by rw [hMK]; unfold rng; omega⟩, by unfold rng; omega⟩, Next.keep (m - 1) ⟨by omega, by omega⟩ (by omega) ⟨⟨rfl, rfl⟩, trivial⟩ ⟨⟨rfl, rfl⟩, ⟨rfl, rfl⟩, trivial⟩ trivial rfl rfl rfl⟩
    · have g3 : ¬ sumL l < m * (k : Int) := of_df h3
      rw [hMK] at g3
      conv => whnf
      refine ⟨⟨trivial, by rw [hMK]; unfold rng; omega⟩, fin_pure rfl ?_⟩
      rw [show m = q by omega]
      rfl
end Go.Proofs.Ytccpgalpahfpaaa

/-
  law09.Is; down.Level's refusals.
-/
namespace Go.Proofs.Ytccpgalpahfpaaa
open Go.RowKit
open Sy
set_option linter.unusedVariables false
set_option linter.unusedSimpArgs false
set_option maxRecDepth 100000
set_option maxHeartbeats 4000000

theorem gValAll {R : HP} {gb W H : Nat} {f : Nat → Nat → Int} {l : List Int} (hR : ∀ w, Sat R w → GridAt w gb W H f) (hl : vRows f 0 W 0 H = l) :
    FnR Try.prog R 29 [.pointer (some ⟨gb, 0, none⟩), rectV 0 0 ((W : Int) - 1) ((H : Int) - 1)] [] fun r hs => ∃ A c, r = .tuple #[.slice A l.length c, .int .i64 0] ∧
      hs = [rowH (.slice A l.length c) l.length 2 1 (ints l)] := by
  refine FnR.of_sat fun w hs => ?_
  obtain ⟨w1, w2, h1, h2⟩ := (hR w hs).size
  have := gValues_f hR 0 0 (W - 1) (H - 1) (by omega) (by omega) (by omega) (by omega)
  rw [show W - 1 - 0 + 1 = W by omega, show H - 1 - 0 + 1 = H by omega, hl, show ((W - 1 : Nat) : Int) = (W : Int) - 1 by omega, show ((H - 1 : Nat) : Int) = (H : Int) - 1 by omega] at this
  exact this
theorem sIs {R : HP} {gb W H n c : Nat} {A : Option Addr} {f : Nat → Nat → Int} {l : List Int} (hR : ∀ w, Sat R w → GridAt w gb W H f) (ha : Vs R A n l) (hl : vRows f 0 W 0 H = l) :
    PureR Try.prog R 26 [.pointer (some ⟨gb, 0, none⟩), modV W H A n c] (.bool true) := by
  refine PureR.of_sat fun w hs => ?_
  obtain ⟨w1, w2, h1, h2⟩ := (hR w hs).size
  have hlen : l.length ≤ 1048576 := by rw [← hl, vRows_len]; exact Nat.mul_le_mul h2 w2
  refine fn_of_run0 false Try.func26 rfl hmix rfl fun w0 => ?_
  conv => whnf
  refine ⟨trivial, CallAt.pure (fun R' hR' => gSize_p fun w s => hR w (hR' w s)) ?_⟩
  conv => whnf
  refine ⟨trivial, CallAt.pure (fun R' hR' => gAll_p fun w s => hR w (hR' w s)) ?_⟩
  conv => whnf
  refine ⟨trivial, CallAt.fn (pre := []) _ (fun h s => s) (fun R' hR' => gValAll (fun w s => hR w (hR' w s)) hl) ?_⟩
  rintro r hs ⟨B, d, rfl, rfl⟩
  conv => whnf
  refine ⟨fun _ => ?_, fun h => absurd h (by simp)⟩
  conv => whnf
  refine ⟨fun _ => ?_, fun h => absurd h (by simp)⟩
  conv => whnf
  refine ⟨fun _ => ?_, fun h => absurd h (by simp)⟩
  conv => whnf
  refine ⟨trivial, CallAt.pure (fun R' hR' => sSame (Vs.row fun w s => (hR' w s).in_ 0 rfl) (ha.mono fun w s => (hR' w s).rest) (by omega)) ?_⟩
  conv => whnf
  refine ⟨trivial, .mk [] (fun w ⟨h, hs, s⟩ => ?_) ⟨?_, rfl⟩⟩
  · obtain ⟨h1, e1, s1⟩ := sub_tail s
    exact ⟨h1, hs.mono e1, s1⟩
  · simp [mkRes]
theorem sLevelArg {R : HP} {gb W H : Nat} {f : Nat → Nat → Int} {k how : Int} (hR : ∀ w, Sat R w → GridAt w gb W H f) (hbad : (k < 0 ∨ (levN W H : Int) ≤ k) ∨ (how < 0 ∨ 2 < how)) :
    PureR Try.prog R 24 [.pointer (some ⟨gb, 0, none⟩), .int .i64 k, .int .i64 how] (.tuple #[.pointer none, .int .i64 11]) := by
  refine PureR.of_sat fun w hs => ?_
  obtain ⟨w1, w2, h1, h2⟩ := (hR w hs).size
  have hsz : SizeOk (W : Int) (H : Int) := ⟨by omega, by omega, by omega, by omega⟩
  by_cases hk : k < 0 ∨ (levN W H : Int) ≤ k
  · have hway : ∃ v, ∀ R', PureR Try.prog R' 54 [.int .i64 how] v ∧ (v = .nilFunc ∨ ∃ F, v = .func (.func F) #[] #[]) := by
      rcases (show how = 0 ∨ how = 1 ∨ how = 2 ∨ (how < 0 ∨ 2 < how) by omega) with e | e | e | e
      · subst e; exact ⟨_, fun R' => ⟨sWay0 R', .inr ⟨_, rfl⟩⟩⟩
      · subst e; exact ⟨_, fun R' => ⟨sWay1 R', .inr ⟨_, rfl⟩⟩⟩
      · subst e; exact ⟨_, fun R' => ⟨sWay2 R', .inr ⟨_, rfl⟩⟩⟩
      · exact ⟨_, fun R' => ⟨sWayNo how e R', .inl rfl⟩⟩
    obtain ⟨v, hv⟩ := hway
    refine fn_of_run0 false Try.func24 rfl hmix rfl fun w0 => ?_
    conv => whnf
    refine ⟨trivial, CallAt.pure (fun R' hR' => gSize_p fun w s => hR w (hR' w s)) ?_⟩
    conv => whnf
    refine ⟨trivial, CallAt.pure (fun R' _ => sTSizeArg W H k hsz hk R') ?_⟩
    conv => whnf
    refine ⟨trivial, CallAt.pure (fun R' _ => (hv R').1) ?_⟩
    conv => whnf
    refine ⟨fun h3 => absurd h3 (by decide), fun h3 => ?_⟩
    conv => whnf
    exact ⟨trivial, fin_pure rfl rfl⟩
  · have hh : how < 0 ∨ 2 < how := by rcases hbad with h | h; exact absurd h hk; exact h
    obtain ⟨K, rfl⟩ : ∃ K : Nat, k = K := ⟨k.toNat, by omega⟩
    refine fn_of_run0 false Try.func24 rfl hmix rfl fun w0 => ?_
    conv => whnf
    refine ⟨trivial, CallAt.pure (fun R' hR' => gSize_p fun w s => hR w (hR' w s)) ?_⟩
    conv => whnf
    refine ⟨trivial, CallAt.pure (fun R' _ => sTSize W H K hsz (by omega) R') ?_⟩
    conv => whnf
    refine ⟨trivial, CallAt.pure (fun R' _ => sWayNo how hh R') ?_⟩
    conv => whnf
    refine ⟨fun h3 => ?_, fun h3 => absurd h3 (by decide)⟩
    conv => whnf
    refine iff_t rfl ?_
    conv => whnf
    exact ⟨trivial, fin_pure rfl rfl⟩
end Go.Proofs.Ytccpgalpahfpaaa

/-
  ref18.Level.
-/
namespace Go.Proofs.Ytccpgalpahfpaaa
open Go.RowKit
open Sy
set_option linter.unusedVariables false
set_option linter.unusedSimpArgs false
set_option maxRecDepth 100000
set_option maxHeartbeats 4000000

theorem sSizes2 (W H : Nat) (hs : SizeOk (W : Int) (H : Int)) (R : HP) :
    FnR Try.prog R 34 [.int .i64 W, .int .i64 H] [] fun r hs => ∃ g c, r = .slice (some ⟨g, 0, none⟩) (levN W H) c ∧ hs = [rowH (.slice (some ⟨g, 0, none⟩) (levN W H) c) (levN W H) 24 2 (cel (szs W H (levN W H)))] := by
  intro w s
  refine (sSizes W H hs R w s).mono ?_
  rintro e w' ⟨r, hs, rfl, ⟨A, c, rfl, rfl⟩, s', hw⟩
  obtain ⟨g, rfl, _⟩ := rowH_at (Sat.left s') (by unfold levN; omega)
  exact ⟨_, _, rfl, ⟨g, c, rfl, rfl⟩, s', hw⟩
theorem sz_read {W H g c L k : Nat} {w : World} (s : Sat (rowH (.slice (some ⟨g, 0, none⟩) L c) L 24 2 (cel (szs W H L))) w) (hk : k < L) (hW : 1 ≤ W) (hH : 1 ≤ H) :
    w.cell? ⟨g, k * 2, none⟩ = some (.int .i64 (halfN W k : Nat)) ∧ w.cell? ⟨g, k * 2 + 1, none⟩ = some (.int .i64 (halfN H k : Nat)) := by
  obtain ⟨g', e, hr⟩ := rowH_at s (by omega)
  injection e with e
  injection e with e
  subst e
  have := cel_at (szs W H L) k (by simpa using hk)
  rw [szs_at] at this
  simp only [halfZ_N W k hW, halfZ_N H k hH] at this
  exact ⟨hr _ _ this.1, hr _ _ this.2⟩
def agOf (how : Int) : List Int → Int := if how = 0 then mnL else if how = 1 then mxL else meanL
theorem sRLevel {R : HP} {A : Option Addr} {n c W H k : Nat} {how : Int} {ag : List Int → Int} {l : List Int} (ha : Vs R A n l) (hn : W * H = n) (hm : ∀ v ∈ l, MayV v) (hsz : SizeOk (W : Int) (H : Int)) (hk : k < levN W H) (hh : how = 0 ∧ ag = mnL ∨ how = 1 ∧ ag = mxL ∨ how = 2 ∧ ag = meanL) :
    FnR Try.prog R 25 [modV W H A n c, .int .i64 k, .int .i64 how] [] fun r hs => ∃ B d, r = .tuple #[modV (halfN W k) (halfN H k) B (vRows (lv ag W H k (gv W l)) 0 (halfN W k) 0 (halfN H k)).length d, .int .i64 0] ∧
      hs = [rowH (.slice B (vRows (lv ag W H k (gv W l)) 0 (halfN W k) 0 (halfN H k)).length d) (vRows (lv ag W H k (gv W l)) 0 (halfN W k) 0 (halfN H k)).length 2 1 (ints (vRows (lv ag W H k (gv W l)) 0 (halfN W k) 0 (halfN H k)))] := by
  refine FnR.of_sat fun w hs => ?_
  have hl := (ha.spot hs).1
  clear hs
  have hlev := levN_le hsz
  have hsz' := hsz
  unfold SizeOk at hsz'
  have w1 : 1 ≤ W := by omega
  have w2 : W ≤ 1024 := by omega
  have h1 : 1 ≤ H := by omega
  have h2 : H ≤ 1024 := by omega
  have hmf : ∀ a b, a < W → b < H → MayV (gv W l a b) := fun a b ha hb => by
    unfold gv
    have := idx_lt ha hb
    rw [List.getD_eq_getElem?_getD, List.getElem?_eq_getElem (by rw [hl, ← hn]; exact this)]
    exact hm _ (List.getElem_mem _)
  have lw := half_le (k := k) w1
  have lh := half_le (k := k) h1
  have hszr := fun (g c : Nat) (w : World) s => sz_read (W := W) (H := H) (g := g) (c := c) (w := w) s hk w1 h1
  obtain ⟨LW, hLW⟩ : ∃ LW, halfN W k = LW := ⟨_, rfl⟩
  obtain ⟨LH, hLH⟩ : ∃ LH, halfN H k = LH := ⟨_, rfl⟩
  rw [hLW] at lw hszr
  rw [hLH] at lh hszr
  rw [hLW, hLH]
  have lenB : ∀ j i, j ≤ LH → i ≤ LW → (vA (lv ag W H k (gv W l)) 0 LW 0 j i).length ≤ 1049600 := fun j i hj hi => by
    rw [vA_len]
    have := Nat.mul_le_mul (show j ≤ 1024 by omega) (show LW ≤ 1024 by omega)
    omega
  refine fn_of_run0 false Try.func25 rfl hmix rfl fun w0 => ?_
  conv => whnf
  refine ⟨trivial, CallAt.fn (pre := []) _ (fun h s => s) (fun R' hR' => sSizes2 W H hsz R') ?_⟩
  rintro r hs ⟨sg, sc, rfl, rfl⟩
  conv => whnf
  refine ⟨fun _ => ?_, fun h => absurd h (by simp)⟩
  conv => whnf
  refine ⟨fun _ => ?_, fun h => absurd h (by simp; omega)⟩
  conv => whnf
  refine ⟨fun _ => ?_, fun h => absurd h (by simp; omega)⟩
  conv => whnf
  refine iff_f (by simp; omega) ?_
  conv => whnf
  refine ⟨trivial, RegAt.box 11 9 27 (.tmp 47) hmix (by kernel_rfl) rfl rfl rfl rfl rfl rfl rfl rfl rfl rfl rfl (fun s h => by injection h with h; subst h; rfl) ?_⟩
  conv => whnf
  refine ⟨⟨trivial, by omega⟩, LoadAt.cell (.int .i64 (LW : Int)) rfl rfl (fun w hw => by have := (hszr sg sc w (hw.in_ 0 rfl)).1; simpa using this) ?_⟩
  conv => whnf
  refine ⟨⟨trivial, by omega⟩, LoadAt.cell (.int .i64 (LH : Int)) rfl rfl (fun w hw => by have := (hszr sg sc w (hw.in_ 0 rfl)).2; simpa using this) ?_⟩
  conv => whnf
  refine ⟨trivial, ?_⟩
  conv => whnf
  refine ⟨trivial, LoopAt.of (α := Nat × Option Addr × Nat) [1, 2, 3, 6, 9] (fun a => [(10, .v (.int .i64 (a.1 : Int)))]) (fun a => [(2, 27, [.v (.int .i64 (LW : Int)), .v (.int .i64 (LH : Int)), .v (.slice a.2.1 (vRows (lv ag W H k (gv W l)) 0 LW 0 a.1).length a.2.2)]), (1, 27, [.v (.int .i64 0), .v (.int .i64 0), .v (.slice none 0 0)]), (0, 27, [.v (.int .i64 (W : Int)), .v (.int .i64 (H : Int)), .v (.slice A n c)])]) (fun a => [rowH (.slice a.2.1 (vRows (lv ag W H k (gv W l)) 0 LW 0 a.1).length a.2.2) (vRows (lv ag W H k (gv W l)) 0 LW 0 a.1).length 2 1 (ints (vRows (lv ag W H k (gv W l)) 0 LW 0 a.1))]) (fun a => a.1 ≤ LH) (fun a => LH - a.1) (0, none, 0) (Nat.zero_le _) ?_ ?_⟩
  · exact Le.of (Nat.le_refl _) (Nat.zero_le _) ⟨⟨rfl, rfl⟩, ⟨rfl, rfl⟩, ⟨rfl, rfl⟩, ⟨rfl, rfl⟩, ⟨rfl, rfl⟩, ⟨rfl, rfl⟩, trivial⟩ ⟨⟨rfl, rfl, rfl, rfl⟩, ⟨rfl, rfl, rfl, rfl⟩, ⟨rfl, rfl, rfl, rfl⟩, trivial⟩ fun h s => by
      obtain ⟨h', e, s'⟩ := sub_tail s
      exact ⟨h', e, row_nil _ _ s'⟩
  rintro ⟨j, B, d⟩ hj
  simp only at hj
  conv => whnf
  refine ⟨fun h4 => ?_, fun h4 => ?_⟩
  · have g4 : j < LH := by simpa using h4
    conv => whnf
    refine ⟨trivial, LoopAt.of (α := Nat × Option Addr × Nat) [1, 2, 3, 6, 9, 10] (fun a => [(11, .v (.int .i64 (a.1 : Int)))]) (fun a => [(2, 27, [.v (.int .i64 (LW : Int)), .v (.int .i64 (LH : Int)), .v (.slice a.2.1 (vA (lv ag W H k (gv W l)) 0 LW 0 j a.1).length a.2.2)]), (1, 27, [.v (.int .i64 0), .v (.int .i64 0), .v (.slice none 0 0)]), (0, 27, [.v (.int .i64 (W : Int)), .v (.int .i64 (H : Int)), .v (.slice A n c)])]) (fun a => [rowH (.slice a.2.1 (vA (lv ag W H k (gv W l)) 0 LW 0 j a.1).length a.2.2) (vA (lv ag W H k (gv W l)) 0 LW 0 j a.1).length 2 1 (ints (vA (lv ag W H k (gv W l)) 0 LW 0 j a.1))]) (fun a => a.1 ≤ LW) (fun a => LW - a.1) (0, B, d) (Nat.zero_le _) ?_ ?_⟩
    · exact Le.of (Nat.le_refl _) (Nat.zero_le _) ⟨⟨rfl, rfl⟩, ⟨rfl, rfl⟩, ⟨rfl, rfl⟩, ⟨rfl, rfl⟩, ⟨rfl, rfl⟩, ⟨rfl, rfl⟩, ⟨rfl, rfl⟩, trivial⟩ ⟨⟨by simp [vA, vRow, getO], rfl, rfl, rfl⟩, ⟨rfl, rfl, rfl, rfl⟩, ⟨rfl, rfl, rfl, rfl⟩, trivial⟩ fun h s => sub_same (by simpa [vA, vRow, hd] using s)
    rintro ⟨i, B, d⟩ hi
    simp only at hi
    conv => whnf
    refine ⟨fun h5 => ?_, fun h5 => ?_⟩
    · have g5 : i < LW := by simpa using h5
      have hx : i < halfN W k := by omega
      have hy : j < halfN H k := by omega
      obtain ⟨sx1, sx2⟩ := sp_ok w1 hx
      obtain ⟨sy1, sy2⟩ := sp_ok h1 hy
      have hlen := lenB j i (by omega) (by omega)
      have hsl := spL_len (f := gv W l) w2 h2 w1 h1 hx hy
      have hsm := spL_mem w1 h1 hx hy hmf
      have hval := fun (R' : HP) (hR' : Vs R' A n l) => sRValues (c := c) hR' hn w2 h2 (i * 2 ^ k) (j * 2 ^ k) (spX1 W k i) (spX1 H k j) sx1 sx2 sy1 sy2
      obtain ⟨L, hL⟩ : ∃ L, spL W H k (gv W l) i j = L := ⟨_, rfl⟩
      have hL' : vRows (gv W l) (i * 2 ^ k) (spX1 W k i - i * 2 ^ k + 1) (j * 2 ^ k) (spX1 H k j - j * 2 ^ k + 1) = L := hL
      rw [hL'] at hval
      rw [hL] at hsl hsm
      have hlv : lv ag W H k (gv W l) i j = ag L := by unfold lv; rw [hL]
      conv => whnf
      refine ⟨trivial, RegAt.groups [([.T 0, .T 1, .T 2, .T 3, .T 4, .T 5, .H 6], 7), ([.H 7], 8), ([.T 8, .T 9, .T 10, .T 11], 12), ([.T 12], 13)] hmix (by kernel_rfl) ?_⟩
      conv => whnf
      refine ⟨trivial, CallAt.pure (fun R' hR' => sRSpan W H k i j hsz hk hx hy R') ?_⟩
      conv => whnf
      refine ⟨trivial, ⟨⟨rfl, rfl⟩, fun h s => sub_same s⟩, ?_⟩
      conv => whnf
      refine ⟨trivial, CallAt.fn (pre := []) _ (fun h s => s) (fun R' hR' => hval R' (ha.mono fun w s => (hR' w s).rest)) ?_⟩
      rintro r hs ⟨B2, d2, rfl, rfl⟩
      conv => whnf
      refine ⟨trivial, ?_⟩
      conv => whnf
      refine ⟨trivial, CallAt.pure (fun R' hR' => sRange (Vs.row fun w s => (hR' w s).in_ 0 rfl) (by omega)) ?_⟩
      conv => whnf
      rcases hh with ⟨rfl, rfl⟩ | ⟨rfl, rfl⟩ | ⟨rfl, rfl⟩
      · refine iff_t (by decide) ?_
        conv => whnf
        refine ⟨trivial, OpAt.lit [.int .i64 (mnL L)] 1 rfl rfl rfl rfl rfl (by decide) rfl rfl rfl (by simp [Value.cells]) rfl (by decide) fun g2 => ?_⟩
        conv => whnf
        refine ⟨trivial, OpAt.append (.slice B (vA (lv mnL W H k (gv W l)) 0 LW 0 j i).length d) (vA (lv mnL W H k (gv W l)) 0 LW 0 j i).length 1 8 (ints (vA (lv mnL W H k (gv W l)) 0 LW 0 j i)) [.int .i64 (mnL L)] (some ⟨g2, 0, none⟩) 1 1 _ rfl (fun h s => sepL_pull 2 s) rfl rfl rfl rfl rfl rfl rfl rfl rfl (by decide) (fun w hw => rowH_reads rfl (Sat.left hw)) (ints_one [_]) (by simp only [maxLen]; omega) (by omega) fun B' d' => ?_⟩
        conv => whnf
        refine ⟨⟨trivial, by unfold rng; omega⟩, .mk (i + 1, B', d') (by simp only; omega) (by simp only; omega) ?_⟩
        refine Le.of (Nat.le_of_ble_eq_true rfl) (Nat.zero_le _) ⟨⟨rfl, rfl⟩, ⟨rfl, rfl⟩, ⟨rfl, rfl⟩, ⟨rfl, rfl⟩, ⟨rfl, rfl⟩, ⟨rfl, rfl⟩, ⟨rfl, rfl⟩, trivial⟩ ⟨⟨?_, rfl, rfl, rfl⟩, ⟨rfl, rfl, rfl, rfl⟩, ⟨rfl, rfl, rfl, rfl⟩, trivial⟩ fun h s => ?_
        · rw [vA_next]; simp [getO]
        · obtain ⟨h', e, s'⟩ := sub_drop2 s
          refine ⟨h', e, ?_⟩
          rw [vA_next, ints_append]
          simpa [ints, hlv, hd] using s'
      · refine iff_f (by decide) ?_
        conv => whnf
        refine iff_t (by decide) ?_
        conv => whnf
        refine ⟨trivial, OpAt.lit [.int .i64 (mxL L)] 1 rfl rfl rfl rfl rfl (by decide) rfl rfl rfl (by simp [Value.cells]) rfl (by decide) fun g2 => ?_⟩
        conv => whnf
        refine ⟨trivial, OpAt.append (.slice B (vA (lv mxL W H k (gv W l)) 0 LW 0 j i).length d) (vA (lv mxL W H k (gv W l)) 0 LW 0 j i).length 1 8 (ints (vA (lv mxL W H k (gv W l)) 0 LW 0 j i)) [.int .i64 (mxL L)] (some ⟨g2, 0, none⟩) 1 1 _ rfl (fun h s => sepL_pull 2 s) rfl rfl rfl rfl rfl rfl rfl rfl rfl (by decide) (fun w hw => rowH_reads rfl (Sat.left hw)) (ints_one [_]) (by simp only [maxLen]; omega) (by omega) fun B' d' => ?_⟩
        conv => whnf
        refine ⟨⟨trivial, by unfold rng; omega⟩, .mk (i + 1, B', d') (by simp only; omega) (by simp only; omega) ?_⟩
        refine Le.of (Nat.le_of_ble_eq_true rfl) (Nat.zero_le _) ⟨⟨rfl, rfl⟩, ⟨rfl, rfl⟩, ⟨rfl, rfl⟩, ⟨rfl, rfl⟩, ⟨rfl, rfl⟩, ⟨rfl, rfl⟩, ⟨rfl, rfl⟩, trivial⟩ ⟨⟨?_, rfl, rfl, rfl⟩, ⟨rfl, rfl, rfl, rfl⟩, ⟨rfl, rfl, rfl, rfl⟩, trivial⟩ fun h s => ?_
        · rw [vA_next]; simp [getO]
        · obtain ⟨h', e, s'⟩ := sub_drop2 s
          refine ⟨h', e, ?_⟩
          rw [vA_next, ints_append]
          simpa [ints, hlv, hd] using s'
      · refine iff_f (by decide) ?_
        conv => whnf
        refine iff_f (by decide) ?_
        conv => whnf
        refine ⟨trivial, RegAt.groups [([.T 0, .T 1, .T 2, .H 3, .H 4], 5), ([.H 5], 6), ([.T 6], 7), ([.H 7], 8)] hmix (by kernel_rfl) ?_⟩
        conv => whnf
        refine ⟨trivial, CallAt.pure (fun R' hR' => sRMean (Vs.row fun w s => (hR' w s).in_ 0 rfl) hsl.2 hsl.1 hsm) ?_⟩
        conv => whnf
        refine ⟨trivial, ⟨⟨rfl, rfl⟩, fun h s => sub_same s⟩, ?_⟩
        conv => whnf
        refine ⟨trivial, OpAt.lit [.int .i64 (meanL L)] 1 rfl rfl rfl rfl rfl (by decide) rfl rfl rfl (by simp [Value.cells]) rfl (by decide) fun g2 => ?_⟩
        conv => whnf
        refine ⟨trivial, ⟨⟨rfl, rfl⟩, fun h s => sub_tail s⟩, ?_⟩
        conv => whnf
        refine ⟨trivial, OpAt.append (.slice B (vA (lv meanL W H k (gv W l)) 0 LW 0 j i).length d) (vA (lv meanL W H k (gv W l)) 0 LW 0 j i).length 1 8 (ints (vA (lv meanL W H k (gv W l)) 0 LW 0 j i)) [.int .i64 (meanL L)] (some ⟨g2, 0, none⟩) 1 1 _ rfl (fun h s => sepL_pull 2 s) rfl rfl rfl rfl rfl rfl rfl rfl rfl (by decide) (fun w hw => rowH_reads rfl (Sat.left hw)) (ints_one [_]) (by simp only [maxLen]; omega) (by omega) fun B' d' => ?_⟩
        conv => whnf
        refine ⟨trivial, ?_⟩
        conv => whnf
        refine ⟨⟨trivial, by unfold rng; omega⟩, .mk (i + 1, B', d') (by simp only; omega) (by simp only; omega) ?_⟩
        refine Le.of (Nat.le_of_ble_eq_true rfl) (Nat.zero_le _) ⟨⟨rfl, rfl⟩, ⟨rfl, rfl⟩, ⟨rfl, rfl⟩, ⟨rfl, rfl⟩, ⟨rfl, rfl⟩, ⟨rfl, rfl⟩, ⟨rfl, rfl⟩, trivial⟩ ⟨⟨?_, rfl, rfl, rfl⟩, ⟨rfl, rfl, rfl, rfl⟩, ⟨rfl, rfl, rfl, rfl⟩, trivial⟩ fun h s => ?_
        · rw [vA_next]; simp [getO]
        · obtain ⟨h', e, s'⟩ := sub_drop2 s
          refine ⟨h', e, ?_⟩
          rw [vA_next, ints_append]
          simpa [ints, hlv, hd] using s'
    · have g5 : i = LW := by simp at h5; omega
      subst g5
      conv => whnf
      refine ⟨⟨trivial, by unfold rng; omega⟩, .mk (j + 1, B, d) (by simp only; omega) (by simp only; omega) ?_⟩
      refine Le.of (Nat.le_of_ble_eq_true rfl) (Nat.zero_le _) ⟨⟨rfl, rfl⟩, ⟨rfl, rfl⟩, ⟨rfl, rfl⟩, ⟨rfl, rfl⟩, ⟨rfl, rfl⟩, ⟨rfl, rfl⟩, trivial⟩ ⟨⟨?_, rfl, rfl, rfl⟩, ⟨rfl, rfl, rfl, rfl⟩, ⟨rfl, rfl, rfl, rfl⟩, trivial⟩ fun h s => ?_
      · rw [vRows_succ]; rfl
      · rw [vRows_succ]; exact sub_same s
  · have g4 : j = LH := by simp at h4; omega
    subst g4
    conv => whnf
    exact ⟨trivial, .mk _ (fun w s => s) ⟨B, d, rfl, rfl⟩⟩
end Go.Proofs.Ytccpgalpahfpaaa

/-
  The least and the greatest of a list: they are in it, and none is below or above.
-/
namespace Go.Proofs.Ytccpgalpahfpaaa
open Go.RowKit
open Sy
set_option linter.unusedVariables false
set_option linter.unusedSimpArgs false
set_option maxRecDepth 100000
set_option maxHeartbeats 4000000

theorem foldl_min_mem : ∀ (l : List Int) (a : Int), l.foldl min a = a ∨ l.foldl min a ∈ l
  | [], a => .inl rfl
  | b :: l, a => by
    simp only [List.foldl_cons, List.mem_cons]
    rcases foldl_min_mem l (min a b) with h | h
    · rw [h]
      rcases (show min a b = a ∨ min a b = b by omega) with e | e
      · exact .inl e
      · exact .inr (.inl e)
    · exact .inr (.inr h)
theorem foldl_min_le : ∀ (l : List Int) (a : Int), l.foldl min a ≤ a ∧ ∀ v ∈ l, l.foldl min a ≤ v
  | [], a => ⟨Int.le_refl _, by simp⟩
  | b :: l, a => by
    simp only [List.foldl_cons, List.mem_cons]
    obtain ⟨h1, h2⟩ := foldl_min_le l (min a b)
    refine ⟨by omega, fun v hv => ?_⟩
    rcases hv with rfl | hv
    · omega
    · exact h2 v hv
theorem foldl_max_mem : ∀ (l : List Int) (a : Int), l.foldl max a = a ∨ l.foldl max a ∈ l
  | [], a => .inl rfl
  | b :: l, a => by
    simp only [List.foldl_cons, List.mem_cons]
    rcases foldl_max_mem l (max a b) with h | h
    · rw [h]
      rcases (show max a b = a ∨ max a b = b by omega) with e | e
      · exact .inl e
      · exact .inr (.inl e)
    · exact .inr (.inr h)
theorem foldl_max_le : ∀ (l : List Int) (a : Int), a ≤ l.foldl max a ∧ ∀ v ∈ l, v ≤ l.foldl max a
  | [], a => ⟨Int.le_refl _, by simp⟩
  | b :: l, a => by
    simp only [List.foldl_cons, List.mem_cons]
    obtain ⟨h1, h2⟩ := foldl_max_le l (max a b)
    refine ⟨by omega, fun v hv => ?_⟩
    rcases hv with rfl | hv
    · omega
    · exact h2 v hv
theorem mnL_mem : ∀ {l : List Int}, l ≠ [] → mnL l ∈ l
  | [], h => absurd rfl h
  | a :: l, _ => by
    unfold mnL
    show l.foldl min a ∈ a :: l
    rcases foldl_min_mem l a with h | h
    · rw [h]; exact List.mem_cons_self
    · exact List.mem_cons_of_mem _ h
theorem mxL_mem : ∀ {l : List Int}, l ≠ [] → mxL l ∈ l
  | [], h => absurd rfl h
  | a :: l, _ => by
    unfold mxL
    show l.foldl max a ∈ a :: l
    rcases foldl_max_mem l a with h | h
    · rw [h]; exact List.mem_cons_self
    · exact List.mem_cons_of_mem _ h
theorem mnL_le : ∀ {l : List Int} {v : Int}, v ∈ l → mnL l ≤ v
  | a :: l, v, h => by
    unfold mnL
    obtain ⟨h1, h2⟩ := foldl_min_le l a
    rcases List.mem_cons.1 h with rfl | h
    · exact h1
    · exact h2 v h
theorem le_mxL : ∀ {l : List Int} {v : Int}, v ∈ l → v ≤ mxL l
  | a :: l, v, h => by
    unfold mxL
    obtain ⟨h1, h2⟩ := foldl_max_le l a
    rcases List.mem_cons.1 h with rfl | h
    · exact h1
    · exact h2 v h
theorem mnL_eq {l : List Int} {m : Int} (h : m ∈ l) (hl : ∀ v ∈ l, m ≤ v) : mnL l = m := by
  have h1 := mnL_le h
  have h2 := hl _ (mnL_mem (List.ne_nil_of_mem h))
  omega
theorem mxL_eq {l : List Int} {m : Int} (h : m ∈ l) (hl : ∀ v ∈ l, v ≤ m) : mxL l = m := by
  have h1 := le_mxL h
  have h2 := hl _ (mxL_mem (List.ne_nil_of_mem h))
  omega
theorem mn_may {l : List Int} (h0 : l ≠ []) (h : ∀ v ∈ l, MayV v) : MayV (mnL l) := h _ (mnL_mem h0)
theorem mx_may {l : List Int} (h0 : l ≠ []) (h : ∀ v ∈ l, MayV v) : MayV (mxL l) := h _ (mxL_mem h0)
/-- which cells of the grid a cell of a level stands for -/
theorem mem_spL {W H k x y : Nat} {f : Nat → Nat → Int} (hW : 1 ≤ W) (hH : 1 ≤ H) (hx : x < halfN W k) (hy : y < halfN H k) (v : Int) : v ∈ spL W H k f x y ↔ ∃ a b, a < W ∧ b < H ∧ a / 2 ^ k = x ∧ b / 2 ^ k = y ∧ f a b = v := by
  obtain ⟨sx1, sx2⟩ := sp_ok hW hx
  obtain ⟨sy1, sy2⟩ := sp_ok hH hy
  have hq := pow_pos' k
  unfold spX1 at sx1 sx2 sy1 sy2
  simp only [spL, spX1, vRows, vRow, List.mem_flatMap, List.mem_map, List.mem_range]
  generalize 2 ^ k = q at *
  constructor
  · rintro ⟨j, hj, i, hi, rfl⟩
    refine ⟨x * q + i, y * q + j, by omega, by omega, ?_, ?_, rfl⟩
    · rw [Nat.mul_comm, Nat.mul_add_div hq, Nat.div_eq_of_lt]
      · omega
      · rw [Nat.add_mul] at hi; omega
    · rw [Nat.mul_comm, Nat.mul_add_div hq, Nat.div_eq_of_lt]
      · omega
      · rw [Nat.add_mul] at hj; omega
  · rintro ⟨a, b, ha, hb, rfl, rfl, rfl⟩
    have e1 : a / q * q + a % q = a := by rw [Nat.mul_comm]; exact Nat.div_add_mod a q
    have e2 : b / q * q + b % q = b := by rw [Nat.mul_comm]; exact Nat.div_add_mod b q
    have m1 : a % q < q := Nat.mod_lt _ hq
    have m2 : b % q < q := Nat.mod_lt _ hq
    refine ⟨b % q, ?_, a % q, ?_, by rw [e1, e2]⟩
    · rw [Nat.add_mul]; omega
    · rw [Nat.add_mul]; omega
end Go.Proofs.Ytccpgalpahfpaaa

/-
  law09.Land (as in XPilot); ref18.Level.
-/
namespace Go.Proofs.Ytccpgalpahfpaaa
open Go.RowKit
open Sy
set_option linter.unusedVariables false
set_option linter.unusedSimpArgs false
set_option maxRecDepth 100000
set_option maxHeartbeats 4000000

def LandOk (W H most : Int) (n : Nat) (l : List Int) : Prop := 1 ≤ W ∧ 1 ≤ H ∧ W ≤ most ∧ H ≤ most ∧ W * H ≤ most ∧ W * H = n ∧ ∀ v ∈ l, MayV v
instance (W H most : Int) (n : Nat) (l : List Int) : Decidable (LandOk W H most n l) := by unfold LandOk MayV; infer_instance

theorem sLand {R : HP} (W H most : Int) {A : Option Addr} {n c : Nat} {l : List Int} (ha : Vs R A n l) (hm : most ≤ 4096) (hn : n ≤ 9223372036854775807) :
    PureR Try.prog R 12 [.int .i64 W, .int .i64 H, .slice A n c, .int .i64 most]
      (if LandOk W H most n l then .tuple #[.agg #[.int .i64 W, .int .i64 H, .slice A n c], .bool true] else .tuple #[.agg #[.int .i64 0, .int .i64 0, .slice none 0 0], .bool false]) := by
  refine PureR.of_sat fun w hs => ?_
  obtain ⟨hl, sa⟩ := ha.spot hs
  have no : ∀ {r : Value}, r = .tuple #[.agg #[.int .i64 0, .int .i64 0, .slice none 0 0], .bool false] → ¬ LandOk W H most n l → r = (if LandOk W H most n l then .tuple #[.agg #[.int .i64 W, .int .i64 H, .slice A n c], .bool true] else .tuple #[.agg #[.int .i64 0, .int .i64 0, .slice none 0 0], .bool false]) := fun e h => by rw [if_neg h]; exact e
  refine fn_of_run0 false Try.func12 rfl hmix rfl fun w0 => ?_
  conv => whnf
  refine ⟨fun h1 => ?_, fun h1 => ?_⟩
  rotate_left
  · conv => whnf
    exact ⟨trivial, fin_pure rfl (no rfl (by rintro ⟨a, _⟩; simp at h1; omega))⟩
  have g1 := of_decide_eq_false h1
  conv => whnf
  refine ⟨fun h2 => ?_, fun h2 => ?_⟩
  rotate_left
  · conv => whnf
    exact ⟨trivial, fin_pure rfl (no rfl (by rintro ⟨_, a, _⟩; simp at h2; omega))⟩
  have g2 := of_decide_eq_false h2
  conv => whnf
  refine ⟨fun h3 => ?_, fun h3 => ?_⟩
  rotate_left
  · conv => whnf
    exact ⟨trivial, fin_pure rfl (no rfl (by rintro ⟨_, _, a, _⟩; simp at h3; omega))⟩
  have g3 := of_decide_eq_false h3
  conv => whnf
  refine ⟨fun h4 => ?_, fun h4 => ?_⟩
  rotate_left
  · conv => whnf
    exact ⟨trivial, fin_pure rfl (no rfl (by rintro ⟨_, _, _, a, _⟩; simp at h4; omega))⟩
  have g4 := of_decide_eq_false h4
  have hR0 : 0 ≤ W * H := Int.mul_nonneg (by omega) (by omega)
  have hRp : 0 < W * H := Int.mul_pos (by omega) (by omega)
  have hR1 : rng .i64 (W * H) := by
    have a1 : W * H ≤ 4096 * 4096 := Int.mul_le_mul (by omega) (by omega) (by omega) (by omega)
    exact ⟨by omega, by omega⟩
  conv => whnf
  refine ⟨fun h5 => ?_, fun h5 => ?_⟩
  rotate_left
  · conv => whnf
    exact ⟨⟨trivial, hR1⟩, fin_pure rfl (no rfl (by rintro ⟨_, _, _, _, a, _⟩; simp at h5; omega))⟩
  have g5 := of_decide_eq_false h5
  conv => whnf
  refine ⟨fun h6 => ?_, fun h6 => ?_⟩
  · conv => whnf
    exact ⟨⟨⟨trivial, hR1⟩, hR1⟩, fin_pure rfl (no rfl (by rintro ⟨_, _, _, _, _, a, _⟩; simp at h6; omega))⟩
  have g6 : (n : Int) = W * H := by simpa using h6
  rcases sa with sa | ⟨b, off, rfl, sa⟩
  · omega
  conv => whnf
  refine ⟨⟨⟨trivial, hR1⟩, hR1⟩, ?_⟩
  refine LoopAt.keep (α := Nat) [0, 1, 2, 8] (fun k => [(10, .v (.int .i64 (k : Int)))]) (fun k => k ≤ n ∧ ∀ v ∈ l.take k, MayV v) (fun k => n - k) 0 ⟨Nat.zero_le _, by simp⟩ rfl ⟨⟨rfl, rfl⟩, trivial⟩ ⟨⟨rfl, rfl⟩, ⟨rfl, rfl⟩, ⟨rfl, rfl⟩, ⟨rfl, rfl⟩, trivial⟩ ⟨⟨rfl, rfl, rfl, rfl⟩, trivial⟩ ?_
  rintro k ⟨hk, hmay⟩
  conv => whnf
  refine ⟨fun h7 => ?_, fun h7 => ?_⟩
  · have g7 : k < n := by simpa using h7
    conv => whnf
    refine ⟨⟨trivial, by omega⟩, LoadAt.cell (.int .i64 (l[k]'(by omega))) rfl rfl (fun w hw => ?_) ?_⟩
    · exact sa w hw k (by omega)
    conv => whnf
    refine ⟨trivial, CallAt.pure (fun R' hR' => sMay _ R') ?_⟩
    conv => whnf
    refine ⟨fun h8 => ?_, fun h8 => ?_⟩
    · conv => whnf
      have g8 : ¬ MayV (l[k]'(by omega)) := by simpa using h8
      exact ⟨trivial, fin_pure rfl (no rfl (by rintro ⟨_, _, _, _, _, _, a⟩; exact g8 (a _ (List.getElem_mem _))))⟩
    · have g8 : MayV (l[k]'(by omega)) := by simpa using h8
      conv => whnf
      refine ⟨⟨trivial, by unfold rng; omega⟩, Next.keep (k + 1) ⟨by omega, ?_⟩ (by omega) ⟨⟨rfl, rfl⟩, trivial⟩ ⟨⟨rfl, rfl⟩, ⟨rfl, rfl⟩, ⟨rfl, rfl⟩, ⟨rfl, rfl⟩, trivial⟩ ⟨⟨rfl, rfl, rfl, rfl⟩, trivial⟩ rfl rfl rfl⟩
      rw [List.take_succ_eq_append_getElem (by omega)]
      intro v hv
      rcases List.mem_append.1 hv with hv | hv
      · exact hmay v hv
      · have : v = l[k]'(by omega) := by simpa using hv
        rw [this]; exact g8
  · have g7 : n ≤ k := by simpa using h7
    conv => whnf
    refine ⟨trivial, fin_pure rfl ?_⟩
    rw [if_pos ⟨by omega, by omega, by omega, by omega, by omega, by omega, fun v hv => hmay v (by rw [List.take_of_length_le (by omega)]; exact hv)⟩]
    rfl

/-- what a caller's slice shows -/
theorem ints_of {w : World} {x : Addr} {len cap : Nat} {zs : List Int} (hl : len ≤ cap) (hz : zs.length = cap) (hcell : ∀ i, i < zs.length → w.cell? (x.add i) = some (.int .i64 (zs.getD i 0))) : ∃ l, Reads w w.heap.size 1 (some x) len (ints l) := by
  refine ⟨zs.take len, ?_, fun hn => ⟨x, rfl, ?_, fun j u hu => ?_⟩⟩
  · simp [ints]; omega
  · have h := hcell 0 (by omega)
    rcases Nat.lt_or_ge x.block w.heap.size with hlt | hge
    · exact hlt
    · have : (x.add 0).block = x.block := add_block x 0
      simp [World.cell?, this, Array.getElem?_eq_none hge] at h
  · have hj : j < len := by
      have := (List.getElem?_eq_some_iff.1 hu).1
      simp [ints] at this; omega
    rw [hcell j (by omega)]
    rw [ints_at _ j (by simp; omega)] at hu
    rw [← hu]
    simp [List.getElem_take, List.getD, List.getElem?_eq_getElem (show j < zs.length by omega)]
/-- the world as it was -/
def was (w : World) : HP := fun g => g = fun i => w.heap[i]?
theorem vs_of_reads {w : World} {A : Option Addr} {n : Nat} {l : List Int} (h : Reads w w.heap.size 1 A n (ints l)) : Vs (was w) A n l := by
  intro w' s
  have ext : ∀ i, i < w.heap.size → w'.heap[i]? = w.heap[i]? := fun i hi => by
    have e : w.heap[i]? = some w.heap[i] := Array.getElem?_eq_getElem hi
    rw [e]; exact sat_ext s e
  have hsz : w.heap.size ≤ w'.heap.size := by
    rcases Nat.lt_or_ge w'.heap.size w.heap.size with c | c
    · have := ext _ c
      rw [Array.getElem?_eq_none (Nat.le_refl _)] at this
      have e : w.heap[w'.heap.size]? = some (w.heap[w'.heap.size]) := Array.getElem?_eq_getElem c
      rw [e] at this; cases this
    · exact c
  refine ⟨h.1, fun hn => ?_⟩
  obtain ⟨ad, e, hb, hc⟩ := h.2 hn
  refine ⟨ad, e, Nat.lt_of_lt_of_le hb hsz, fun j u hu => ?_⟩
  have := hc j u hu
  rw [← this]
  have hj : (ad.add j).block < w.heap.size := by rw [add_block]; exact hb
  simp only [World.cell?, ext _ hj]
theorem sub_all {R : HP} {w : World} : ∀ {l : List HP}, Sat (sepL l R) w → Sat (sepL [] R) w := fun s => Sat.rest s
/-- what a grid of a list's values shows -/
theorem vRows_gv {W H : Nat} {l : List Int} (h : l.length = W * H) : vRows (gv W l) 0 W 0 H = l := by
  apply List.ext_getElem
  · rw [vRows_len, h]; exact Nat.mul_comm _ _
  · intro i h1 h2
    have hW : 0 < W := Nat.pos_of_ne_zero fun c => by subst c; rw [Nat.zero_mul] at h; omega
    have hx : i % W < W := Nat.mod_lt _ hW
    have hy : i / W < H := Nat.div_lt_of_lt_mul (by omega)
    have := gv_vRows (f := gv W l) hx hy
    unfold gv at this
    rw [show i / W * W + i % W = i by rw [Nat.mul_comm]; exact Nat.div_add_mod i W] at this
    have e : (vRows (gv W l) 0 W 0 H).getD i 0 = l.getD i 0 := this
    rw [List.getD_eq_getElem?_getD, List.getD_eq_getElem?_getD, List.getElem?_eq_getElem h1, List.getElem?_eq_getElem h2] at e
    exact e
end Go.Proofs.Ytccpgalpahfpaaa

/-
  Any level of any grid, in any way, is what the chapter says, or there is its error.
-/
namespace Go.Proofs.Ytccpgalpahfpaaa
open Go.RowKit
open Sy
set_option linter.unusedVariables false
set_option linter.unusedSimpArgs false
set_option maxRecDepth 100000
set_option maxHeartbeats 4000000

theorem sRLevelArg {A : Option Addr} {n c W H : Nat} {k how : Int} (hsz : SizeOk (W : Int) (H : Int)) (hbad : (k < 0 ∨ (levN W H : Int) ≤ k) ∨ (how < 0 ∨ 2 < how)) (R : HP) :
    PureR Try.prog R 25 [modV W H A n c, .int .i64 k, .int .i64 how] (.tuple #[modV 0 0 none 0 0, .int .i64 11]) := by
  have fin : ∀ {hs : List HP}, hs = [] → ∀ {A : HP} w, Sat (sepL [A] R) w → Sat (sepL hs R) w := by
    rintro _ rfl A w ⟨h, hs, s⟩
    obtain ⟨h1, e1, s1⟩ := sub_tail s
    exact ⟨h1, hs.mono e1, s1⟩
  refine fn_of_run0 false Try.func25 rfl hmix rfl fun w0 => ?_
  conv => whnf
  refine ⟨trivial, CallAt.fn (pre := []) _ (fun h s => s) (fun R' hR' => sSizes2 W H hsz R') ?_⟩
  rintro r hs ⟨sg, sc, rfl, rfl⟩
  conv => whnf
  refine ⟨fun g1 => ?_, fun g1 => ?_⟩
  · conv => whnf
    refine ⟨fun g2 => ?_, fun g2 => ?_⟩
    · conv => whnf
      refine ⟨fun g3 => ?_, fun g3 => ?_⟩
      · conv => whnf
        refine iff_t ?_ ?_
        · simp at g1 g2 g3 ⊢; omega
        · conv => whnf
          exact ⟨trivial, .mk [] (fin rfl) ⟨rfl, rfl⟩⟩
      · conv => whnf
        exact ⟨trivial, .mk [] (fin rfl) ⟨rfl, rfl⟩⟩
    · conv => whnf
      exact ⟨trivial, .mk [] (fin rfl) ⟨rfl, rfl⟩⟩
  · conv => whnf
    exact ⟨trivial, .mk [] (fin rfl) ⟨rfl, rfl⟩⟩

theorem land_nat {W H most : Int} {n : Nat} {l : List Int} (h : LandOk W H most n l) (hm : most ≤ 1024) : ∃ W' H' : Nat, W = W' ∧ H = H' ∧ 1 ≤ W' ∧ W' ≤ 1024 ∧ 1 ≤ H' ∧ H' ≤ 1024 ∧ W' * H' = n ∧ 0 < n ∧ (n : Int) ≤ most := by
  obtain ⟨h1, h2, h3, h4, h5, h6, h7⟩ := h
  obtain ⟨W', rfl⟩ : ∃ W' : Nat, W = W' := ⟨W.toNat, by omega⟩
  obtain ⟨H', rfl⟩ : ∃ H' : Nat, H = H' := ⟨H.toNat, by omega⟩
  have e : W' * H' = n := by
    have : ((W' * H' : Nat) : Int) = n := by rw [← h6]; simp
    omega
  refine ⟨W', H', rfl, rfl, by omega, by omega, by omega, by omega, e, ?_, by omega⟩
  rw [← e]; exact Nat.mul_pos (by omega) (by omega)
/-- the grid that a list of values makes -/
theorem sMadeV {R : HP} {W H n c : Nat} {A : Option Addr} {l : List Int} (ha : Vs R A n l) (h1 : 1 ≤ W) (h2 : W ≤ 1024) (h3 : 1 ≤ H) (h4 : H ≤ 1024) (hn : W * H = n) (hm : ∀ v ∈ l, MayV v) :
    FnR Try.prog R 13 [.int .i64 W, .int .i64 H, .slice A n c] [] fun r hs => ∃ gb, r = .tuple #[.pointer (some ⟨gb, 0, none⟩), .bool true] ∧ hs = [gridH gb W H (gv W l)] := by
  refine FnR.of_sat fun w hs => ?_
  obtain ⟨hl, sa⟩ := ha.spot hs
  rcases sa with sa | ⟨b, off, rfl, sa⟩
  · have := Nat.mul_pos h1 h3
    omega
  exact sMade W H b off n c l R h1 h2 h3 h4 hl hn hm sa
theorem sLandYes {R : HP} {W H most : Int} {A : Option Addr} {n c : Nat} {l : List Int} (ha : Vs R A n l) (hm : most ≤ 4096) (hn : n ≤ maxLen) (h : LandOk W H most n l) :
    PureR Try.prog R 12 [.int .i64 W, .int .i64 H, .slice A n c, .int .i64 most] (.tuple #[.agg #[.int .i64 W, .int .i64 H, .slice A n c], .bool true]) := by
  have := sLand W H most (c := c) ha hm (by simp only [maxLen] at hn; omega)
  rwa [if_pos h] at this
theorem sLandNo {R : HP} {W H most : Int} {A : Option Addr} {n c : Nat} {l : List Int} (ha : Vs R A n l) (hm : most ≤ 4096) (hn : n ≤ maxLen) (h : ¬ LandOk W H most n l) :
    PureR Try.prog R 12 [.int .i64 W, .int .i64 H, .slice A n c, .int .i64 most] (.tuple #[.agg #[.int .i64 0, .int .i64 0, .slice none 0 0], .bool false]) := by
  have := sLand W H most (c := c) ha hm (by simp only [maxLen] at hn; omega)
  rwa [if_neg h] at this
/-- a level, in any of the three ways -/
theorem sLevelHow {R : HP} {gb W H k : Nat} {f : Nat → Nat → Int} {how : Int} {ag : List Int → Int} (hR : ∀ w, Sat R w → GridAt w gb W H f) (hk : k < levN W H) (hh : how = 0 ∧ ag = mnL ∨ how = 1 ∧ ag = mxL ∨ how = 2 ∧ ag = meanL) :
    FnR Try.prog R 24 [.pointer (some ⟨gb, 0, none⟩), .int .i64 k, .int .i64 how] [] fun r hs => ∃ g2, r = .tuple #[.pointer (some ⟨g2, 0, none⟩), .int .i64 0] ∧ hs = [gridH g2 (halfN W k) (halfN H k) (lv ag W H k f)] := by
  rcases hh with ⟨rfl, rfl⟩ | ⟨rfl, rfl⟩ | ⟨rfl, rfl⟩
  · exact sLevel hR hk (.inl rfl) (fun R' => sWay0 R') (fun R' A n c l h1 h2 h3 h4 => sMin h1 (by omega) h3) fun l h1 h2 => mn_may h1 h2
  · exact sLevel hR hk (.inr (.inl rfl)) (fun R' => sWay1 R') (fun R' A n c l h1 h2 h3 h4 => sMax h1 (by omega) h3) fun l h1 h2 => mx_may h1 h2
  · exact sLevel hR hk (.inr (.inr rfl)) (fun R' => sWay2 R') (fun R' A n c l h1 h2 h3 h4 => sMean h1 h2 h3 h4) fun l h1 h2 => mean_may h1 h2

theorem DownLevels_walk (W H : Int) (A : Option Addr) (n c : Nat) (l : List Int) (k how : Int) (w : World) (_ : -9223372036854775808 ≤ W) (_ : W ≤ 9223372036854775807) (_ : -9223372036854775808 ≤ H) (_ : H ≤ 9223372036854775807) (ha : Reads w w.heap.size 1 A n (ints l)) (hn : n ≤ maxLen)
    (_ : -9223372036854775808 ≤ k) (_ : k ≤ 9223372036854775807) (_ : -9223372036854775808 ≤ how) (_ : how ≤ 9223372036854775807) :
    Calls Try.prog 5 #[.int .i64 W, .int .i64 H, .slice A n c, .int .i64 k, .int .i64 how] w fun e w' => e = .returned (.bool true) ∧ Below w.heap.size w w' := by
  refine PureR.below (args := [.int .i64 W, .int .i64 H, .slice A n c, .int .i64 k, .int .i64 how]) ?_
  have hv := vs_of_reads ha
  have hl : l.length = n := by have := ha.1; simpa [ints] using this
  by_cases hok : LandOk W H 1000 n l
  · obtain ⟨W, H, rfl, rfl, w1, w2, h1, h2, hWH, hn0, hn1⟩ := land_nat hok (by decide)
    have hm := hok.2.2.2.2.2.2
    have hsz : SizeOk (W : Int) (H : Int) := ⟨by omega, by omega, by omega, by omega⟩
    by_cases hbad : (k < 0 ∨ (levN W H : Int) ≤ k) ∨ (how < 0 ∨ 2 < how)
    · refine fn_of_run0 false Try.func5 rfl hmix rfl fun w0 => ?_
      conv => whnf
      refine ⟨trivial, CallAt.pure (fun R' hR' => sAwake18 R') ?_⟩
      conv => whnf
      refine iff_f (by decide) ?_
      conv => whnf
      refine ⟨trivial, CallAt.pure (fun R' hR' => sLandYes (hv.mono fun w s => hR' w s) (by decide) hn hok) ?_⟩
      conv => whnf
      refine iff_f (by decide) ?_
      conv => whnf
      refine ⟨trivial, CallAt.fn (pre := []) _ (fun h s => s) (fun R' hR' => sMadeV (hv.mono fun w s => hR' w s) w1 w2 h1 h2 hWH hm) ?_⟩
      rintro r hs ⟨gb, rfl, rfl⟩
      conv => whnf
      refine iff_f (by decide) ?_
      conv => whnf
      refine ⟨trivial, CallAt.pure (fun R' hR' => sLevelArg (gridAt_rest 0 rfl hR') hbad) ?_⟩
      conv => whnf
      refine ⟨trivial, CallAt.pure (fun R' hR' => sRLevelArg hsz hbad R') ?_⟩
      conv => whnf
      refine iff_f (by decide) ?_
      conv => whnf
      refine iff_t (by decide) ?_
      conv => whnf
      refine ⟨trivial, .mk [] (fun w s => s.rest) ⟨rfl, rfl⟩⟩
    · obtain ⟨K, rfl⟩ : ∃ K : Nat, k = K := ⟨k.toNat, by omega⟩
      have hk : K < levN W H := by omega
      obtain ⟨ag, hag⟩ : ∃ ag, how = 0 ∧ ag = mnL ∨ how = 1 ∧ ag = mxL ∨ how = 2 ∧ ag = meanL := by
        rcases (show how = 0 ∨ how = 1 ∨ how = 2 by omega) with e | e | e
        · exact ⟨mnL, .inl ⟨e, rfl⟩⟩
        · exact ⟨mxL, .inr (.inl ⟨e, rfl⟩)⟩
        · exact ⟨meanL, .inr (.inr ⟨e, rfl⟩)⟩
      refine fn_of_run0 false Try.func5 rfl hmix rfl fun w0 => ?_
      conv => whnf
      refine ⟨trivial, CallAt.pure (fun R' hR' => sAwake18 R') ?_⟩
      conv => whnf
      refine iff_f (by decide) ?_
      conv => whnf
      refine ⟨trivial, CallAt.pure (fun R' hR' => sLandYes (hv.mono fun w s => hR' w s) (by decide) hn hok) ?_⟩
      conv => whnf
      refine iff_f (by decide) ?_
      conv => whnf
      refine ⟨trivial, CallAt.fn (pre := []) _ (fun h s => s) (fun R' hR' => sMadeV (hv.mono fun w s => hR' w s) w1 w2 h1 h2 hWH hm) ?_⟩
      rintro r hs ⟨gb, rfl, rfl⟩
      conv => whnf
      refine iff_f (by decide) ?_
      conv => whnf
      refine ⟨trivial, CallAt.fn (pre := []) _ (fun h s => s) (fun R' hR' => sLevelHow (gridAt_rest 0 rfl hR') hk hag) ?_⟩
      rintro r hs ⟨g2, rfl, rfl⟩
      conv => whnf
      refine ⟨trivial, CallAt.fn (pre := []) _ (fun h s => s) (fun R' hR' => sRLevel (hv.mono fun w s => (hR' w s).rest) hWH hm hsz hk hag) ?_⟩
      rintro r hs ⟨B, d, rfl, rfl⟩
      conv => whnf
      refine iff_f (by decide) ?_
      conv => whnf
      refine iff_f (by decide) ?_
      conv => whnf
      refine ⟨trivial, CallAt.pure (fun R' hR' => sIs (gridAt_rest 1 rfl hR') (Vs.row fun w s => (hR' w s).in_ 0 rfl) rfl) ?_⟩
      conv => whnf
      refine ⟨fun _ => ?_, fun h => absurd h (by decide)⟩
      conv => whnf
      refine ⟨trivial, CallAt.pure (fun R' hR' => sIs (gridAt_rest 2 rfl hR') (hv.mono fun w s => (hR' w s).rest) (vRows_gv (by rw [hl, hWH]))) ?_⟩
      conv => whnf
      refine ⟨trivial, .mk [] (fun w s => s.rest) ⟨rfl, rfl⟩⟩
  · refine fn_of_run0 false Try.func5 rfl hmix rfl fun w0 => ?_
    conv => whnf
    refine ⟨trivial, CallAt.pure (fun R' hR' => sAwake18 R') ?_⟩
    conv => whnf
    refine iff_f (by decide) ?_
    conv => whnf
    refine ⟨trivial, CallAt.pure (fun R' hR' => sLandNo (hv.mono fun w s => hR' w s) (by decide) hn hok) ?_⟩
    conv => whnf
    refine iff_t (by decide) ?_
    conv => whnf
    exact ⟨trivial, fin_pure rfl rfl⟩
end Go.Proofs.Ytccpgalpahfpaaa

/-
  The statement of hachurelaw18.DownLevels: for every input the call returns true, and each argument reads afterwards as it read before. The row's own frame round the walk 'DownLevels_walk'.
-/
namespace Go.Proofs.Ytccpgalpahfpaaa.downLevelsRow
open Go.Proofs.Ytccpgalpahfpaaa
open Go.ChangeShapes Go.WideShapes Go.ChangeAt Go.RowKit Go.Joins
set_option linter.unusedVariables false

theorem own : ownKnob Try.prog.godebug = none := by kernel_rfl
theorem laidOut : laidOutB Try.prog = true := by kernel_rfl


set_option maxRecDepth 100000 in
theorem lifted (os : Os) (started : os.Started) (H : Type) (enc : TypeId × Value → H) :
    ReturnsInHanded {} Try.checked os 5 .any (Rows.downLevelsSpec.pre6 enc Try.prog Try.f5 Rows.downLevelsRow.domain false) (Rows.downLevelsSpec.post enc Try.prog Try.f5 false true false false) := by
  refine returnsInHanded_of_change (C := Try.checked) own started (by kernel_rfl) Try.func5
    (ChangeSpec.witness6 (enc := enc) (C := Try.checked) false ⟨#[], #[.int .i64 0, .int .i64 0, .slice none 0 0, .int .i64 0, .int .i64 0], []⟩ 8 (by kernel_rfl) (by kernel_rfl) (by kernel_rfl) (by kernel_rfl)) ?_
  intro W base args ds gs before hval0 hW hcnd _
  have hval : ∀ (j : Nat) t v, Try.f5.params[j]? = some t → args[j]? = some v → Value.okWide Try.prog W .any base t v := hval0
  have hW' := hW
  obtain ⟨p, q, hA0, hV, rfl, hfz, hnd⟩ := hW
  have hA : DataW.TrodAll enc Try.prog W 0 (fun _ => true) true Try.f5.params.toList args.toList ds p := hA0
  rw [Try.params5] at hA hval
  obtain ⟨v0, vs0, d0, ds0, p0, q0, hargs, rfl, rfl, h0, r0⟩ := trodAll_cons hA
  obtain ⟨v1, vs1, d1, ds1, p1, q1, rfl, rfl, rfl, h1, r1⟩ := trodAll_cons r0
  obtain ⟨v2, vs2, d2, ds2, p2, q2, rfl, rfl, rfl, h2, r2⟩ := trodAll_cons r1
  obtain ⟨v3, vs3, d3, ds3, p3, q3, rfl, rfl, rfl, h3, r3⟩ := trodAll_cons r2
  obtain ⟨v4, vs4, d4, ds4, p4, q4, rfl, rfl, rfl, h4, r4⟩ := trodAll_cons r3
  obtain ⟨rfl, rfl, rfl⟩ := trodAll_nil r4
  obtain rfl : args = #[v0, v1, v2, v3, v4] := by cases args; simp_all
  obtain ⟨rfl, rfl⟩ := trodVars_none hV
  have k0 := h0
  have lt0 : ∀ x ∈ p0, x.block < W.heap.size := by obtain ⟨m, hm⟩ := k0; exact DataW.trod_lt m _ _ _ hm
  have k1 := h1
  have lt1 : ∀ x ∈ p1, x.block < W.heap.size := by obtain ⟨m, hm⟩ := k1; exact DataW.trod_lt m _ _ _ hm
  have k2 := h2
  have lt2 : ∀ x ∈ p2, x.block < W.heap.size := by obtain ⟨m, hm⟩ := k2; exact DataW.trod_lt m _ _ _ hm
  have k3 := h3
  have lt3 : ∀ x ∈ p3, x.block < W.heap.size := by obtain ⟨m, hm⟩ := k3; exact DataW.trod_lt m _ _ _ hm
  have k4 := h4
  have lt4 : ∀ x ∈ p4, x.block < W.heap.size := by obtain ⟨m, hm⟩ := k4; exact DataW.trod_lt m _ _ _ hm
  obtain ⟨a0, rfl, rfl, rfl, w0⟩ := open_int Try.underlying2 (hval 0 2 v0 rfl rfl) h0
  have b0 := bounds_i64 w0
  obtain ⟨a1, rfl, rfl, rfl, w1⟩ := open_int Try.underlying2 (hval 1 2 v1 rfl rfl) h1
  have b1 := bounds_i64 w1
  obtain ⟨a2, len2, cap2, rfl⟩ := okWide_slice Try.underlying22 (hval 2 22 v2 rfl rfl)
  obtain ⟨l2, hl2, hn2⟩ : ∃ l, Reads W W.heap.size 1 a2 len2 (ints l) ∧ len2 ≤ maxLen := by
    obtain ⟨fuel, hf⟩ := h2
    rcases open_ints Try.underlying22 Try.underlying2 (by kernel_rfl) hf with ⟨hcs, _⟩ | ⟨x, l, c, zs, hcs, _, hl, hm, hz, _, hcell, hwz⟩
    · simp [Value.cells] at hcs
      obtain ⟨rfl, rfl, rfl⟩ := hcs
      exact ⟨[], Reads.empty, by simp [maxLen]⟩
    · simp [Value.cells] at hcs
      obtain ⟨rfl, rfl, rfl⟩ := hcs
      obtain ⟨l, hl2⟩ := ints_of hl (by simpa using hz) hcell
      exact ⟨l, hl2, Nat.le_trans hl hm⟩
  obtain ⟨a3, rfl, rfl, rfl, w3⟩ := open_int Try.underlying3 (hval 3 3 v3 rfl rfl) h3
  have b3 := bounds_i64 w3
  obtain ⟨a4, rfl, rfl, rfl, w4⟩ := open_int Try.underlying3 (hval 4 3 v4 rfl rfl) h4
  have b4 := bounds_i64 w4
  clear hA0 hval0
  refine (DownLevels_walk a0 a1 a2 len2 cap2 l2 a3 a4 W b0.1 b0.2 b1.1 b1.2 hl2 hn2 b3.1 b3.2 b4.1 b4.2).mono fun e W' ⟨he, bel⟩ => ?_
  subst he
  exact ⟨_, rfl, _, _, _, [], _, [], hW', trodAll_mk1 (shut_bool Try.underlying4 _), (trodAll_cons_mk (Below.trod laidOut (by kernel_rfl) (of_decide_eq_true (by kernel_rfl)) k0 bel lt0) (trodAll_cons_mk (Below.trod laidOut (by kernel_rfl) (of_decide_eq_true (by kernel_rfl)) k1 bel lt1) (trodAll_cons_mk (Below.trod laidOut (by kernel_rfl) (of_decide_eq_true (by kernel_rfl)) k2 bel lt2) (trodAll_cons_mk (Below.trod laidOut (by kernel_rfl) (of_decide_eq_true (by kernel_rfl)) k3 bel lt3) (trodAll_cons_mk (Below.trod laidOut (by kernel_rfl) (of_decide_eq_true (by kernel_rfl)) k4 bel lt4) trodAll_mk0))))), rfl, bel.frame _, fun h => by cases h⟩

theorem over : Rows.downLevelsRow.holds Try.pinned (OpenSpec.ofChange Rows.downLevelsSpec) :=
  OpenClaim.holds_of_wide 5 Try.f5 rfl rfl rfl rfl rfl rfl rfl ⟨rfl, rfl, rfl, rfl, rfl⟩ rfl rfl rfl rfl rfl (by kernel_rfl) Try.func5 (by kernel_rfl)
    (of_decide_eq_true (by kernel_rfl)) (by unfold Func.isWrapper; first | (rw [if_pos (by decide +kernel)]; kernel_rfl) | (rw [if_neg (by decide +kernel)]; exact ⟨rfl, rfl⟩))
    (fun os started H enc _ => lifted os started H enc)
end Go.Proofs.Ytccpgalpahfpaaa.downLevelsRow
namespace Go.Proofs.Ytccpgalpahfpaaa

theorem downLevels_holds : Rows.DownLevelsSaid := downLevelsRow.over
#print axioms downLevels_holds
end Go.Proofs.Ytccpgalpahfpaaa

