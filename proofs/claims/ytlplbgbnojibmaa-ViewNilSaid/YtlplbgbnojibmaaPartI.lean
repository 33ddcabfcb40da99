/-
  Texts of the proofs, one behind the other: SyGrid, Made, Refs, Range, RVals, Paint, Lay, From, TierN, DownF, Level, GridAt, DownNil.
-/
import Derived.Test.YtlplbgbnojibmaaPartS
import Derived.Test.YtlplbgbnojibmaaPartH
/-
  Grids as a part of the heap; what the functions of a grid keep to, in these words.
-/
namespace Go.Proofs.Ytlplbgbnojibmaa
open Go.RowKit
open Sy
set_option linter.unusedVariables false
set_option linter.unusedSimpArgs false

theorem hmix : Try.prog.follows .mixedOrders = true := by kernel_rfl

/-- the blocks of a grid -/
def foot (gb sb T : Nat) (p : Nat → Nat) (q : Nat → Option Nat) (i : Nat) : Prop := i = gb ∨ i = sb ∨ ∃ k, k < T ∧ (i = p k ∨ q k = some i)
noncomputable def cutH (w : World) (F : Nat → Prop) : Hl := by
  classical
  exact fun i => if F i then w.heap[i]? else none
theorem cutH_in {w : World} {F : Nat → Prop} {i : Nat} (h : F i) : cutH w F i = w.heap[i]? := by unfold cutH; rw [if_pos h]
theorem cutH_out {w : World} {F : Nat → Prop} {i : Nat} (h : ¬ F i) : cutH w F i = none := by unfold cutH; rw [if_neg h]
theorem cutH_sub (w : World) (F : Nat → Prop) : Sub (cutH w F) w := by
  intro i o e
  by_cases c : F i
  · rwa [cutH_in c] at e
  · rw [cutH_out c] at e; cases e
/-- a part of the heap that is just a grid -/
def gridH (gb W H : Nat) (f : Nat → Nat → Int) : HP := fun h => ∃ w sb c p q, GridOpen w gb W H f sb c p q ∧ h = cutH w (foot gb sb (tiles W * tiles H) p q)
def GridAt (w : World) (gb W H : Nat) (f : Nat → Nat → Int) : Prop := ∃ sb c p q, GridOpen w gb W H f sb c p q

theorem SlabIs.agree {w w' : World} {b sw sh : Nat} {f : Nat → Int} {q : Option Nat} (h : SlabIs w b sw sh f q) (hb : w'.heap[b]? = w.heap[b]?) (hq : ∀ g, q = some g → w'.heap[g]? = w.heap[g]?) : SlabIs w' b sw sh f q := by
  obtain ⟨a1, a2, a3, a4, a5, v, hB, hL⟩ := h
  refine ⟨a1, a2, a3, a4, a5, v, hb.trans hB, ?_⟩
  cases q with
  | none => exact hL
  | some g => exact ⟨hL.1, (hq g rfl).trans hL.2⟩
theorem GridOpen.slab_k {w : World} {gb W H sb c : Nat} {f : Nat → Nat → Int} {p : Nat → Nat} {q : Nat → Option Nat} (h : GridOpen w gb W H f sb c p q) {k : Nat} (hk : k < tiles W * tiles H) : ∃ i j, SlabIs w (p k) (tw W i) (tw H j) (tileF f W i j) (q k) := by
  have hW := tiles_pos h.w1
  have e : k / tiles W * tiles W + k % tiles W = k := by rw [Nat.mul_comm]; exact Nat.div_add_mod k (tiles W)
  have := h.slabs (k % tiles W) (k / tiles W) (Nat.mod_lt _ hW) (Nat.div_lt_of_lt_mul hk)
  rw [e] at this
  exact ⟨_, _, this⟩
theorem GridOpen.there {w : World} {gb W H sb c : Nat} {f : Nat → Nat → Int} {p : Nat → Nat} {q : Nat → Option Nat} (h : GridOpen w gb W H f sb c p q) {i : Nat} (hi : foot gb sb (tiles W * tiles H) p q i) : ∃ t cs, Blk w i t cs := by
  rcases hi with rfl | rfl | ⟨k, hk, hi⟩
  · exact ⟨_, _, h.head⟩
  · obtain ⟨cur, hc, _⟩ := h.list
    exact ⟨_, _, hc⟩
  · obtain ⟨x, y, hs⟩ := h.slab_k hk
    rcases hi with rfl | hi
    · obtain ⟨cs, hb⟩ := hs.blk
      exact ⟨_, _, hb⟩
    · obtain ⟨cs, hb⟩ := hs.qblk hi
      exact ⟨_, _, hb⟩
theorem GridOpen.agree {w w' : World} {gb W H sb c : Nat} {f : Nat → Nat → Int} {p : Nat → Nat} {q : Nat → Option Nat} (h : GridOpen w gb W H f sb c p q) (ha : ∀ i, foot gb sb (tiles W * tiles H) p q i → w'.heap[i]? = w.heap[i]?) : GridOpen w' gb W H f sb c p q := by
  obtain ⟨cur, hc, hl⟩ := h.list
  refine ⟨h.w1, h.w2, h.h1, h.h2, (ha gb (.inl rfl)).trans h.head, ⟨cur, (ha sb (.inr (.inl rfl))).trans hc, hl⟩, fun i j hi hj => ?_, h.inj, h.inq⟩
  have hk := idx_lt hi hj
  exact (h.slabs i j hi hj).agree (ha _ (.inr (.inr ⟨_, hk, .inl rfl⟩))) fun g hg => ha _ (.inr (.inr ⟨_, hk, .inr hg⟩))

theorem gridH_open {gb W H : Nat} {f : Nat → Nat → Int} {h : Hl} {w : World} (g : gridH gb W H f h) (s : Sub h w) : ∃ sb c p q, GridOpen w gb W H f sb c p q ∧ h = cutH w (foot gb sb (tiles W * tiles H) p q) := by
  obtain ⟨w0, sb, c, p, q, hO, rfl⟩ := g
  have ha : ∀ i, foot gb sb (tiles W * tiles H) p q i → w.heap[i]? = w0.heap[i]? := fun i hi => by
    obtain ⟨t, cs, hb⟩ := hO.there hi
    have hb' : w0.heap[i]? = some (.cells cs t (0, 0)) := hb
    rw [hb']
    exact s i _ (by rw [cutH_in hi]; exact hb')
  refine ⟨sb, c, p, q, hO.agree ha, ?_⟩
  funext i
  by_cases c : foot gb sb (tiles W * tiles H) p q i
  · rw [cutH_in c, cutH_in c, ha i c]
  · rw [cutH_out c, cutH_out c]
theorem gridAt_of {gb W H : Nat} {f : Nat → Nat → Int} {w : World} (s : Sat (gridH gb W H f) w) : GridAt w gb W H f := by
  obtain ⟨h, hs, g⟩ := s
  obtain ⟨sb, c, p, q, hO, _⟩ := gridH_open g hs
  exact ⟨sb, c, p, q, hO⟩

section
variable {R : HP} {gb W H : Nat} {f : Nat → Nat → Int}
theorem gSize_p (hR : ∀ w, Sat R w → GridAt w gb W H f) : PureR Try.prog R 69 [.pointer (some ⟨gb, 0, none⟩)] (.tuple #[.int .i64 W, .int .i64 H]) := by
  refine PureR.of_below fun w s => ?_
  obtain ⟨sb, c, p, q, hO⟩ := hR w s
  exact gSize_any gb W H _ _ w hO.head
theorem gAll_p (hR : ∀ w, Sat R w → GridAt w gb W H f) : PureR Try.prog R 59 [.pointer (some ⟨gb, 0, none⟩)] (rectV 0 0 ((W : Int) - 1) ((H : Int) - 1)) := by
  refine PureR.of_below fun w s => ?_
  obtain ⟨sb, c, p, q, hO⟩ := hR w s
  have := hO.w1; have := hO.w2; have := hO.h1; have := hO.h2
  exact gAll_any gb W H _ _ w hO.head (by omega) (by omega) (by omega) (by omega)
theorem gValues_f (hR : ∀ w, Sat R w → GridAt w gb W H f) (x0 y0 x1 y1 : Nat) (r2 : x0 ≤ x1) (r3 : x1 < W) (r5 : y0 ≤ y1) (r6 : y1 < H) :
    FnR Try.prog R 74 [.pointer (some ⟨gb, 0, none⟩), rectV x0 y0 x1 y1] [] fun r hs => ∃ A c, r = .tuple #[.slice A (vRows f x0 (x1 - x0 + 1) y0 (y1 - y0 + 1)).length c, .int .i64 0] ∧
      hs = [rowH (.slice A (vRows f x0 (x1 - x0 + 1) y0 (y1 - y0 + 1)).length c) (vRows f x0 (x1 - x0 + 1) y0 (y1 - y0 + 1)).length 2 1 (ints (vRows f x0 (x1 - x0 + 1) y0 (y1 - y0 + 1)))] := by
  intro w s
  obtain ⟨sb, c, p, q, hO⟩ := hR w s
  refine (gValues_ok (F := fun _ => True) ⟨sb, c, p, q, hO, fun _ _ => ⟨trivial, fun _ _ => trivial⟩⟩ x0 y0 x1 y1 r2 r3 r5 r6).mono ?_
  rintro e w' ⟨A, c, rfl, hown, hb⟩
  exact ⟨_, _, rfl, ⟨A, c, rfl, rfl⟩, sat_row s hb hown, .of_below hb⟩
theorem gNew_f (v : Int) (h1 : 1 ≤ W) (h2 : W ≤ 1024) (h3 : 1 ≤ H) (h4 : H ≤ 1024) (hv : MayV v) :
    FnR Try.prog R 68 [.int .i64 W, .int .i64 H, .int .i64 v] [] fun r hs => ∃ gb, r = .tuple #[.pointer (some ⟨gb, 0, none⟩), .int .i64 0] ∧ hs = [gridH gb W H fun _ _ => v] := by
  rintro w ⟨h2', s2, hR⟩
  refine (gNew_ok W H v w h1 h2 h3 h4 hv).mono ?_
  rintro e w' ⟨gb, rfl, hgb, ⟨sb, c, p, q, hsb, hO, hF⟩, hb⟩
  refine ⟨_, _, rfl, ⟨gb, rfl, rfl⟩, ⟨_, (cutH_sub w' (foot gb sb (tiles W * tiles H) p q)).un (s2.below hb), _, h2', fun i => ?_, rfl, ⟨w', sb, c, p, q, hO, rfl⟩, hR⟩, .of_below hb⟩
  by_cases c0 : foot gb sb (tiles W * tiles H) p q i
  · right
    refine s2.none ?_
    rcases c0 with rfl | rfl | ⟨k, hk, rfl | hq⟩
    · exact hgb
    · exact hsb
    · exact (hF k hk).1.1
    · exact ((hF k hk).2 _ hq).1
  · exact .inl (cutH_out c0)
theorem gFill_f (r : Rc) (v : Int) (r1 : 0 ≤ r.x0) (r2 : r.x0 ≤ r.x1) (r3 : r.x1 < W) (r4 : 0 ≤ r.y0) (r5 : r.y0 ≤ r.y1) (r6 : r.y1 < H) (hv : MayV v) :
    FnR Try.prog R 103 [.pointer (some ⟨gb, 0, none⟩), rectV r.x0 r.y0 r.x1 r.y1, .int .i64 v] [gridH gb W H f] fun x hs => x = .int .i64 0 ∧ hs = [gridH gb W H (fillG r v f)] := by
  rintro w ⟨h, hsub, h1, h2, d, rfl, hg, hR⟩
  obtain ⟨sb, c, p, q, hO, rfl⟩ := gridH_open hg hsub.left
  let F : Nat → Prop := fun i => ∃ k, k < tiles W * tiles H ∧ (i = p k ∨ q k = some i)
  refine (gFill_ok (F := F) ⟨sb, c, p, q, hO, fun k hk => ⟨⟨k, hk, .inl rfl⟩, fun g hg => ⟨k, hk, .inr hg⟩⟩⟩ r v r1 r2 r3 r4 r5 r6 hv).mono ?_
  rintro e w' ⟨rfl, ⟨sb', c', p', q', hO', hF'⟩, hT⟩
  have hne : ∀ i, F i → i ≠ gb ∧ i ≠ sb := by
    rintro i ⟨k, hk, hi⟩
    obtain ⟨x, y, hs⟩ := hO.slab_k hk
    obtain ⟨cur, hc, _⟩ := hO.list
    rcases hi with rfl | hi
    · obtain ⟨cs, hb⟩ := hs.blk
      exact ⟨hb.ne_ hO.head (by decide), hb.ne_ hc (by decide)⟩
    · obtain ⟨cs, hb⟩ := hs.qblk hi
      exact ⟨hb.ne_ hO.head (by decide), hb.ne_ hc (by decide)⟩
  have hsb : sb' = sb := by
    have e1 : Blk w' gb _ _ := hO.head.touch hT fun c0 => (hne gb c0).1 rfl
    have e1' : w'.heap[gb]? = _ := e1
    have e2 : w'.heap[gb]? = _ := hO'.head
    rw [e1'] at e2
    injection e2 with e2
    injection e2 with e2
    have e3 := congrArg (fun a : Array Value => a[3]?) e2
    simp at e3
    exact e3.1.symm
  subst hsb
  have s2 : Sub h2 w' := fun i o e => by
    have hi := hsub.right d i o e
    have hlt := (Array.getElem?_eq_some_iff.1 hi).1
    rw [hT.block i hlt ?_]
    · exact hi
    · intro c0
      have hf : foot gb sb' (tiles W * tiles H) p q i := .inr (.inr c0)
      rcases d i with x | x
      · rw [cutH_in hf, hi] at x; cases x
      · rw [x] at e; cases e
  refine ⟨_, _, rfl, ⟨rfl, rfl⟩, ⟨_, (cutH_sub w' (foot gb sb' (tiles W * tiles H) p' q')).un s2, _, h2, fun i => ?_, rfl, ⟨w', sb', c', p', q', hO', rfl⟩, hR⟩, ⟨hT.os, hT.tape, hT.output, hT.size⟩⟩
  by_cases c0 : foot gb sb' (tiles W * tiles H) p' q' i
  · right
    have old : foot gb sb' (tiles W * tiles H) p q i → h2 i = none := fun hf => by
      rcases d i with x | x
      · rw [cutH_in hf] at x
        obtain ⟨t, cs, hb⟩ := hO.there hf
        have hb' : w.heap[i]? = _ := hb
        rw [hb'] at x; cases x
      · exact x
    have new : F i ∨ (w.heap.size ≤ i ∧ i < w'.heap.size) → h2 i = none := fun hf => by
      rcases hf with hf | hf
      · exact old (.inr (.inr hf))
      · exact (hsub.right d).none hf.1
    rcases c0 with rfl | rfl | ⟨k, hk, rfl | hq⟩
    · exact old (.inl rfl)
    · exact old (.inr (.inl rfl))
    · exact new (hF' k hk).1
    · exact new ((hF' k hk).2 _ hq)
  · exact .inl (cutH_out c0)
end
end Go.Proofs.Ytlplbgbnojibmaa

/-
  A grid of a size with values: Land, Set, Made.
-/
namespace Go.Proofs.Ytlplbgbnojibmaa
open Go.RowKit
open Sy
set_option linter.unusedVariables false
set_option linter.unusedSimpArgs false
set_option maxRecDepth 100000
set_option maxHeartbeats 2000000

theorem sMay (v : Int) (R : HP) : PureR Try.prog R 67 [.int .i64 v] (.bool (decide (MayV v))) := PureR.of_below fun w _ => (rMay_any v w).mono fun e w' ⟨h1, h2⟩ => ⟨h1, by subst h2; exact Below.refl _ _⟩
theorem sSpot (x y : Int) (R : HP) : PureR Try.prog R 104 [cellV x y] (rectV x y x y) := PureR.of_below fun w _ => gspot_any x y w

theorem gSet_f {R : HP} {gb W H : Nat} {f : Nat → Nat → Int} (x y : Nat) (v : Int) (hx : x < W) (hy : y < H) (hv : MayV v) :
    FnR Try.prog R 53 [.pointer (some ⟨gb, 0, none⟩), cellV x y, .int .i64 v] [gridH gb W H f] fun r hs => r = .int .i64 0 ∧ hs = [gridH gb W H (fillG ⟨x, y, x, y⟩ v f)] := by
  refine fn_of_run0 false Try.func53 rfl hmix rfl fun w0 => ?_
  conv => whnf
  refine ⟨trivial, CallAt.pure (fun R' _ => sSpot x y R') ?_⟩
  conv => whnf
  refine ⟨trivial, CallAt.fn [] (fun h s => s) (fun R' _ => gFill_f ⟨x, y, x, y⟩ v (by simp only; omega) (by simp only; omega) (by simp only; omega) (by simp only; omega) (by simp only; omega) (by simp only; omega) hv) ?_⟩
  rintro r hs ⟨rfl, rfl⟩
  conv => whnf
  exact ⟨trivial, .mk _ (fun w s => s) ⟨rfl, rfl⟩⟩

theorem gSet_i {R : HP} {gb W H : Nat} {f : Nat → Nat → Int} {x y v : Int} (X Y : Nat) (ex : x = X) (ey : y = Y) (hx : X < W) (hy : Y < H) (hv : MayV v) :
    FnR Try.prog R 53 [.pointer (some ⟨gb, 0, none⟩), .agg #[.int .i64 x, .int .i64 y], .int .i64 v] [gridH gb W H f] fun r hs => r = .int .i64 0 ∧ hs = [gridH gb W H (fillG ⟨X, Y, X, Y⟩ v f)] := by
  subst ex ey
  exact gSet_f X Y v hx hy hv
theorem tileF_congr {f g : Nat → Nat → Int} {W H i j : Nat} (h : ∀ x y, x < W → y < H → f x y = g x y) (hi : i < tiles W) (hj : j < tiles H) {k : Nat} (hk : k < tw W i * tw H j) : tileF f W i j k = tileF g W i j k := by
  unfold tileF
  have h1 := tw_pos hi
  have h2 : k % tw W i < tw W i := Nat.mod_lt _ (by omega)
  have h3 : k / tw W i < tw H j := Nat.div_lt_of_lt_mul hk
  refine h _ _ ?_ ?_
  · have h4 : tw W i ≤ W - 16 * i := Nat.min_le_right _ _
    omega
  · have h4 : tw H j ≤ H - 16 * j := Nat.min_le_right _ _
    generalize k / tw W i = z at *
    omega
theorem gridH_congr {gb W H : Nat} {f g : Nat → Nat → Int} (e : ∀ x y, x < W → y < H → f x y = g x y) {h : Hl} (hg : gridH gb W H f h) : gridH gb W H g h := by
  obtain ⟨w, sb, c, p, q, hO, rfl⟩ := hg
  exact ⟨w, sb, c, p, q, ⟨hO.w1, hO.w2, hO.h1, hO.h2, hO.head, hO.list, fun i j hi hj => (hO.slabs i j hi hj).congr fun k hk => tileF_congr e hi hj hk, hO.inj, hO.inq⟩, rfl⟩
/-- the cells that a list of values has, row by row -/
def gv (W : Nat) (l : List Int) (x y : Nat) : Int := l.getD (y * W + x) 0
def gvK (W : Nat) (l : List Int) (k x y : Nat) : Int := if y * W + x < k then l.getD (y * W + x) 0 else 0
theorem gvK_all {W H : Nat} {l : List Int} {x y : Nat} (hx : x < W) (hy : y < H) : gvK W l (W * H) x y = gv W l x y := by
  unfold gvK gv
  rw [if_pos (idx_lt hx hy)]
theorem xy_of {W k x y : Nat} (hx : x < W) : y * W + x = k ↔ x = k % W ∧ y = k / W := by
  constructor
  · rintro rfl
    rw [Nat.mul_comm, Nat.mul_add_mod, Nat.mod_eq_of_lt hx, Nat.mul_add_div (by omega), Nat.div_eq_of_lt hx]
    simp
  · rintro ⟨rfl, rfl⟩
    rw [Nat.mul_comm]; exact Nat.div_add_mod k W
theorem gvK_same {W : Nat} {l : List Int} {k x y : Nat} (hx : x < W) (h : l.getD k 0 = 0) : gvK W l k x y = gvK W l (k + 1) x y := by
  unfold gvK
  by_cases c : y * W + x < k
  · rw [if_pos c, if_pos (by omega)]
  · rw [if_neg c]
    by_cases c2 : y * W + x = k
    · rw [c2, if_pos (by omega), h]
    · rw [if_neg (by omega)]
theorem gvK_set {W : Nat} {l : List Int} {k x y : Nat} (hx : x < W) : fillG ⟨((k % W : Nat) : Int), ((k / W : Nat) : Int), ((k % W : Nat) : Int), ((k / W : Nat) : Int)⟩ (l.getD k 0) (gvK W l k) x y = gvK W l (k + 1) x y := by
  unfold fillG
  by_cases c : y * W + x = k
  · obtain ⟨h1, h2⟩ := (xy_of hx).1 c
    rw [if_pos ((inR_iff _ _ _).2 ⟨by simp only; omega, by simp only; omega, by simp only; omega, by simp only; omega⟩)]
    unfold gvK
    rw [if_pos (by omega), c]
  · rw [if_neg]
    · unfold gvK
      by_cases c2 : y * W + x < k
      · rw [if_pos c2, if_pos (by omega)]
      · rw [if_neg c2, if_neg (by omega)]
    · intro h
      have := (inR_iff _ _ _).1 h
      simp only at this
      exact c ((xy_of hx).2 ⟨by omega, by omega⟩)

theorem sMade (W H : Nat) (b off n c : Nat) (l : List Int) (R : HP) (h1 : 1 ≤ W) (h2 : W ≤ 1024) (h3 : 1 ≤ H) (h4 : H ≤ 1024) (hl : l.length = n) (hn : W * H = n) (hm : ∀ v ∈ l, MayV v)
    (hR : ∀ w, Sat R w → ∀ (k : Nat) (hk : k < l.length), w.cell? ⟨b, off + k, none⟩ = some (.int .i64 l[k])) :
    FnR Try.prog R 21 [.int .i64 W, .int .i64 H, .slice (some ⟨b, off, none⟩) n c] [] fun r hs => ∃ gb, r = .tuple #[.pointer (some ⟨gb, 0, none⟩), .bool true] ∧ hs = [gridH gb W H (gv W l)] := by
  have hn2 : n ≤ 1048576 := by rw [← hn]; exact Nat.mul_le_mul h2 h4
  have hmul : (W : Int) * (H : Int) = (n : Int) := by rw [← hn]; simp
  refine fn_of_run0 false Try.func21 rfl hmix rfl fun w0 => ?_
  conv => whnf
  refine ⟨trivial, CallAt.fn [] (fun h s => s) (fun R' _ => gNew_f 0 h1 h2 h3 h4 ⟨by decide, by decide⟩) ?_⟩
  rintro r hs ⟨gb, rfl, rfl⟩
  conv => whnf
  refine ⟨fun h5 => ?_, fun h5 => absurd h5 (by decide)⟩
  conv => whnf
  refine ⟨fun h6 => absurd h6 (by simp; omega), fun h6 => ?_⟩
  conv => whnf
  have hr1 : rng .i64 ((W : Int) * (H : Int)) := by unfold rng; omega
  refine ⟨⟨trivial, hr1⟩, LoopAt.of (α := Nat) [0, 1, 2, 8] (fun k => [(10, .v (.int .i64 (k : Int)))]) (fun _ => []) (fun k => [gridH gb W H (gvK W l k)]) (fun k => k ≤ n) (fun k => n - k) 0 (Nat.zero_le _) ?_ ?_⟩
  · exact Le.of (Nat.le_refl _) (Nat.le_refl _) ⟨⟨rfl, rfl⟩, ⟨rfl, rfl⟩, ⟨rfl, rfl⟩, ⟨rfl, rfl⟩, ⟨rfl, rfl⟩, trivial⟩ trivial fun h s => ⟨h, fun _ _ e => e, sep_mono s (fun _ g => gridH_congr (fun x y _ _ => by simp [gvK]) g) fun _ x => x⟩
  · intro k hk
    conv => whnf
    refine ⟨fun h7 => ?_, fun h7 => ?_⟩
    · have g7 : k < n := by simp at h7; omega
      have hkl : k < l.length := by omega
      conv => whnf
      refine ⟨⟨trivial, hr1⟩, RegAt.tail 18 hmix (by kernel_rfl) ?_⟩
      conv => whnf
      refine ⟨⟨trivial, by omega⟩, LoadAt.cell (.int .i64 l[k]) rfl rfl (fun w hw => hR w (Sat.right hw) k hkl) ?_⟩
      conv => whnf
      refine ⟨fun h8 => ?_, fun h8 => ?_⟩
      · have hx : k % W < W := Nat.mod_lt _ (by omega)
        have hy : k / W < H := Nat.div_lt_of_lt_mul (by omega)
        have hq : (k / W : Nat) ≤ k := Nat.div_le_self _ _
        conv => whnf
        refine ⟨⟨⟨⟨trivial, by omega, by omega⟩, ⟨by omega, by omega⟩, ?_⟩, by omega⟩, LoadAt.cell (.int .i64 l[k]) rfl rfl (fun w hw => hR w (Sat.right hw) k hkl) ?_⟩
        · have hq' : ((k / W : Nat) : Int) ≤ (k : Int) := Int.ofNat_le.2 hq
          exact ⟨Int.le_trans (by decide) (Int.natCast_nonneg (k / W)), Int.le_trans hq' (by omega)⟩
        conv => whnf
        refine ⟨trivial, CallAt.fn [] (fun h s => s) (fun R' _ => gSet_i (k % W) (k / W) rfl rfl hx hy (hm _ (List.getElem_mem hkl))) ?_⟩
        rintro r hs ⟨rfl, rfl⟩
        conv => whnf
        refine ⟨trivial, ?_⟩
        conv => whnf
        refine ⟨fun h9 => absurd h9 (by decide), fun h9 => ?_⟩
        conv => whnf
        refine ⟨⟨trivial, by unfold rng; omega⟩, .mk (k + 1) g7 (by omega) ?_⟩
        refine Le.of (Nat.le_refl _) (Nat.le_refl _) ⟨⟨rfl, rfl⟩, ⟨rfl, rfl⟩, ⟨rfl, rfl⟩, ⟨rfl, rfl⟩, ⟨rfl, rfl⟩, trivial⟩ trivial fun h s => ⟨h, fun _ _ e => e, sep_mono s (fun _ g => gridH_congr (fun x y hx' _ => ?_) g) fun _ x => x⟩
        have := gvK_set (l := l) (k := k) (y := y) hx'
        rw [List.getD_eq_getElem?_getD, List.getElem?_eq_getElem hkl] at this
        exact this
      · have h8' : l[k] = 0 := by simpa using h8
        conv => whnf
        refine ⟨trivial, ?_⟩
        conv => whnf
        refine ⟨⟨trivial, by unfold rng; omega⟩, .mk (k + 1) g7 (by omega) ?_⟩
        refine Le.of (Nat.le_refl _) (Nat.le_refl _) ⟨⟨rfl, rfl⟩, ⟨rfl, rfl⟩, ⟨rfl, rfl⟩, ⟨rfl, rfl⟩, ⟨rfl, rfl⟩, trivial⟩ trivial fun h s => ⟨h, fun _ _ e => e, sep_mono s (fun _ g => gridH_congr (fun x y hx' _ => ?_) g) fun _ x => x⟩
        exact gvK_same hx' (by rw [List.getD_eq_getElem?_getD, List.getElem?_eq_getElem hkl]; simpa using h8')
    · have g7 : k = n := by simp at h7; omega
      subst g7
      conv => whnf
      refine ⟨⟨trivial, hr1⟩, .mk [gridH gb W H (gv W l)] (fun w ⟨h, hs, s⟩ => ⟨h, hs, sep_mono s (fun _ g => gridH_congr (fun x y hx hy => ?_) g) fun _ x => x⟩) ⟨gb, rfl, rfl⟩⟩
      rw [← hn]
      exact gvK_all hx hy
end Go.Proofs.Ytlplbgbnojibmaa

/-
  The document's answers for lists of cells: Same, Range, Within, Values.
-/
namespace Go.Proofs.Ytlplbgbnojibmaa
open Go.RowKit
open Sy
set_option linter.unusedVariables false
set_option linter.unusedSimpArgs false
set_option maxRecDepth 100000
set_option maxHeartbeats 2000000

/-- whatever is apart from us shows these values -/
def Vs (R : HP) (A : Option Addr) (n : Nat) (l : List Int) : Prop := ∀ w, Sat R w → Reads w w.heap.size 1 A n (ints l)
theorem FnR.of_sat {P : Program} {R : HP} {f : FuncId} {args : List Value} {pre : List HP} {post : Value → List HP → Prop} (h : ∀ w, Sat (sepL pre R) w → FnR P R f args pre post) : FnR P R f args pre post := fun w hs => h w hs w hs
theorem PureR.of_sat {P : Program} {R : HP} {f : FuncId} {args : List Value} {v : Value} (h : ∀ w, Sat R w → PureR P R f args v) : PureR P R f args v := fun w hs => h w hs w hs
/-- where they are -/
def Spot (R : HP) (A : Option Addr) (n : Nat) (l : List Int) : Prop := n = 0 ∨ ∃ b off, A = some ⟨b, off, none⟩ ∧ ∀ w, Sat R w → ∀ (k : Nat) (hk : k < l.length), w.cell? ⟨b, off + k, none⟩ = some (.int .i64 l[k])
theorem ints_at (l : List Int) (k : Nat) (h : k < l.length) : (ints l)[k]? = some (.int .i64 l[k]) := by simp [ints, List.getElem?_eq_getElem h]
theorem Vs.spot {R : HP} {A : Option Addr} {n : Nat} {l : List Int} (h : Vs R A n l) {w : World} (s : Sat R w) : l.length = n ∧ Spot R A n l := by
  have hr := h w s
  have hl : l.length = n := by have := hr.1; simpa [ints] using this
  refine ⟨hl, ?_⟩
  rcases Nat.eq_zero_or_pos n with h0 | h0
  · exact .inl h0
  · right
    obtain ⟨ad, e, hb, hc⟩ := hr.2 h0
    obtain ⟨b, off, spot⟩ := ad
    have h1 := hc 0 _ (ints_at l 0 (by omega))
    have hs : spot = none := by simpa [Addr.add] using World.cell?_spot h1
    subst hs
    refine ⟨b, off, e, fun w' s' k hk => ?_⟩
    obtain ⟨ad', e', _, hc'⟩ := (h w' s').2 h0
    rw [e] at e'
    injection e' with e'
    subst e'
    have := hc' k _ (ints_at l k hk)
    rwa [add_plain] at this
theorem Vs.mono {R R' : HP} {A : Option Addr} {n : Nat} {l : List Int} (h : Vs R A n l) (hr : ∀ w, Sat R' w → Sat R w) : Vs R' A n l := fun w s => h w (hr w s)
theorem Vs.row {R : HP} {A : Option Addr} {n c : Nat} {l : List Int} (h : ∀ w, Sat R w → Sat (rowH (.slice A n c) n 2 1 (ints l)) w) : Vs R A n l := fun w s => rowH_reads rfl (h w s)

theorem sSame {R : HP} {A B : Option Addr} {n m c d : Nat} {l l' : List Int} (ha : Vs R A n l) (hb : Vs R B m l') (hn : n ≤ 9223372036854775807) : PureR Try.prog R 86 [.slice A n c, .slice B m d] (.bool (decide (l = l'))) := by
  refine PureR.of_sat fun w hs => ?_
  obtain ⟨h1, sa⟩ := ha.spot hs
  obtain ⟨h2, sb⟩ := hb.spot hs
  refine fn_of_run0 false Try.func86 rfl hmix rfl fun w0 => ?_
  conv => whnf
  refine ⟨fun h3 => ?_, fun h3 => ?_⟩
  · conv => whnf
    refine ⟨trivial, fin_pure rfl (congrArg Value.bool (decide_eq_false ?_).symm)⟩
    rintro rfl
    simp at h3
    omega
  · have h3' : n = m := by simp at h3; omega
    subst h3'
    conv => whnf
    refine ⟨trivial, LoopAt.keep (α := Nat) [0, 1] (fun k => [(5, .v (.int .i64 (k : Int)))]) (fun k => k ≤ n ∧ l.take k = l'.take k) (fun k => n - k) 0 ⟨Nat.zero_le _, by simp⟩ rfl ⟨⟨rfl, rfl⟩, trivial⟩ ⟨⟨rfl, rfl⟩, ⟨rfl, rfl⟩, trivial⟩ trivial ?_⟩
    rintro k ⟨hk, he⟩
    conv => whnf
    refine ⟨fun h4 => ?_, fun h4 => ?_⟩
    · have g4 : k < n := by simpa using h4
      rcases sa with sa | ⟨b, off, rfl, sa⟩
      · omega
      rcases sb with sb | ⟨b', off', rfl, sb⟩
      · omega
      conv => whnf
      refine ⟨trivial, RegAt.quiet hmix (by kernel_rfl) ?_⟩
      conv => whnf
      refine ⟨⟨trivial, by omega⟩, LoadAt.cell (.int .i64 l[k]) rfl rfl (fun w hw => sa w hw k (by omega)) ?_⟩
      conv => whnf
      refine ⟨⟨trivial, by omega⟩, LoadAt.cell (.int .i64 l'[k]) rfl rfl (fun w hw => sb w hw k (by omega)) ?_⟩
      conv => whnf
      refine ⟨trivial, ?_⟩
      conv => whnf
      refine ⟨fun h5 => ?_, fun h5 => ?_⟩
      · conv => whnf
        refine ⟨trivial, fin_pure rfl (congrArg Value.bool (decide_eq_false ?_).symm)⟩
        rintro rfl
        simp at h5
      · have h5' : l[k] = l'[k] := by simpa using h5
        conv => whnf
        refine ⟨⟨trivial, by unfold rng; omega⟩, Next.keep (k + 1) ⟨by omega, ?_⟩ (by omega) ⟨⟨rfl, rfl⟩, trivial⟩ ⟨⟨rfl, rfl⟩, ⟨rfl, rfl⟩, trivial⟩ trivial rfl rfl rfl⟩
        rw [List.take_succ_eq_append_getElem (by omega), List.take_succ_eq_append_getElem (by omega), he, h5']
    · have g4 : k = n := by simp at h4; omega
      subst g4
      conv => whnf
      refine ⟨trivial, fin_pure rfl (congrArg Value.bool (decide_eq_true ?_).symm)⟩
      rw [List.take_of_length_le (by omega), List.take_of_length_le (by omega)] at he
      exact he

theorem sRWithin (x0 y0 x1 y1 a b : Int) (R : HP) : PureR Try.prog R 153 [rectV x0 y0 x1 y1, .int .i64 a, .int .i64 b] (.int .i64 (withinZ x0 y0 x1 y1 a b)) := by
  have no3 : ¬ SizeOk a b → Value.int .i64 3 = .int .i64 (withinZ x0 y0 x1 y1 a b) := fun h => by unfold withinZ; rw [if_pos h]
  have no4 : SizeOk a b → ¬ InP x0 y0 x1 y1 a b → Value.int .i64 4 = .int .i64 (withinZ x0 y0 x1 y1 a b) := fun h h' => by unfold withinZ; rw [if_neg (fun c => c h), if_pos h']
  refine fn_of_run0 false Try.func153 rfl hmix rfl fun w0 => ?_
  conv => whnf
  refine ⟨fun h1 => ?_, fun h1 => ?_⟩
  rotate_left
  · conv => whnf
    exact ⟨trivial, fin_pure rfl (no3 (by unfold SizeOk; simp at h1; omega))⟩
  conv => whnf
  refine ⟨fun h2 => ?_, fun h2 => ?_⟩
  rotate_left
  · conv => whnf
    exact ⟨trivial, fin_pure rfl (no3 (by unfold SizeOk; simp at h2; omega))⟩
  conv => whnf
  refine ⟨fun h3 => ?_, fun h3 => ?_⟩
  rotate_left
  · conv => whnf
    exact ⟨trivial, fin_pure rfl (no3 (by unfold SizeOk; simp at h3; omega))⟩
  conv => whnf
  refine ⟨fun h4 => ?_, fun h4 => ?_⟩
  · conv => whnf
    exact ⟨trivial, fin_pure rfl (no3 (by unfold SizeOk; simp at h4; omega))⟩
  have hS : SizeOk a b := by unfold SizeOk; simp at h1 h2 h3 h4; omega
  conv => whnf
  refine ⟨fun h5 => ?_, fun h5 => ?_⟩
  rotate_left
  · conv => whnf
    exact ⟨trivial, fin_pure rfl (no4 hS (by unfold InP; simp at h5; omega))⟩
  conv => whnf
  refine ⟨fun h6 => ?_, fun h6 => ?_⟩
  rotate_left
  · conv => whnf
    exact ⟨trivial, fin_pure rfl (no4 hS (by unfold InP; simp at h6; omega))⟩
  conv => whnf
  refine ⟨fun h7 => ?_, fun h7 => ?_⟩
  rotate_left
  · conv => whnf
    exact ⟨trivial, fin_pure rfl (no4 hS (by unfold InP; simp at h7; omega))⟩
  conv => whnf
  refine ⟨fun h8 => ?_, fun h8 => ?_⟩
  rotate_left
  · conv => whnf
    exact ⟨trivial, fin_pure rfl (no4 hS (by unfold InP; simp at h8; omega))⟩
  conv => whnf
  refine ⟨fun h9 => ?_, fun h9 => ?_⟩
  rotate_left
  · conv => whnf
    exact ⟨trivial, fin_pure rfl (no4 hS (by unfold InP; simp at h9; omega))⟩
  conv => whnf
  refine ⟨fun h10 => ?_, fun h10 => ?_⟩
  rotate_left
  · conv => whnf
    exact ⟨trivial, fin_pure rfl (no4 hS (by unfold InP; simp at h10; omega))⟩
  conv => whnf
  refine ⟨fun h11 => ?_, fun h11 => ?_⟩
  rotate_left
  · conv => whnf
    exact ⟨trivial, fin_pure rfl (no4 hS (by unfold InP; simp at h11; omega))⟩
  conv => whnf
  refine ⟨fun h12 => ?_, fun h12 => ?_⟩
  · conv => whnf
    exact ⟨trivial, fin_pure rfl (no4 hS (by unfold InP; simp at h12; omega))⟩
  have hI : InP x0 y0 x1 y1 a b := by unfold InP; simp at h5 h6 h7 h8 h9 h10 h11 h12; omega
  conv => whnf
  refine ⟨fun h13 => ?_, fun h13 => ?_⟩
  rotate_left
  · conv => whnf
    exact ⟨trivial, fin_pure rfl (by unfold withinZ; rw [if_neg (fun c => c hS), if_neg (fun c => c hI), if_pos (by simp at h13; omega)]; rfl)⟩
  conv => whnf
  refine ⟨fun h14 => ?_, fun h14 => ?_⟩
  · conv => whnf
    exact ⟨trivial, fin_pure rfl (by unfold withinZ; rw [if_neg (fun c => c hS), if_neg (fun c => c hI), if_pos (by simp at h14; omega)]; rfl)⟩
  · conv => whnf
    exact ⟨trivial, fin_pure rfl (by unfold withinZ; rw [if_neg (fun c => c hS), if_neg (fun c => c hI), if_neg (by simp at h13 h14; omega)]; rfl)⟩
end Go.Proofs.Ytlplbgbnojibmaa

/-
  The document's answers: Range, Values of a model.
-/
namespace Go.Proofs.Ytlplbgbnojibmaa
open Go.RowKit
open Sy
set_option linter.unusedVariables false
set_option linter.unusedSimpArgs false
set_option maxRecDepth 100000
set_option maxHeartbeats 2000000

/-- the least, the greatest -/
def mnL : List Int → Int
  | [] => 0
  | a :: l => l.foldl min a
def mxL : List Int → Int
  | [] => 0
  | a :: l => l.foldl max a
theorem mnL_snoc {l : List Int} (h : l ≠ []) (x : Int) : mnL (l ++ [x]) = min (mnL l) x := by
  cases l with
  | nil => exact absurd rfl h
  | cons a l => simp [mnL]
theorem mxL_snoc {l : List Int} (h : l ≠ []) (x : Int) : mxL (l ++ [x]) = max (mxL l) x := by
  cases l with
  | nil => exact absurd rfl h
  | cons a l => simp [mxL]
abbrev rngV (a b : Int) : Value := .agg #[.int .i64 a, .int .i64 b]

theorem sRange {R : HP} {A : Option Addr} {n c : Nat} {l : List Int} (ha : Vs R A n l) (hn : n ≤ 4611686018427387904) : PureR Try.prog R 123 [.slice A n c] (rngV (mnL l) (mxL l)) := by
  refine PureR.of_sat fun w hs => ?_
  obtain ⟨h1, sa⟩ := ha.spot hs
  refine fn_of_run0 false Try.func123 rfl hmix rfl fun w0 => ?_
  conv => whnf
  refine ⟨fun h2 => ?_, fun h2 => ?_⟩
  · have : n = 0 := by simp at h2; omega
    have hl : l = [] := List.eq_nil_of_length_eq_zero (by omega)
    subst hl
    conv => whnf
    exact ⟨trivial, fin_pure rfl rfl⟩
  have g2 : n ≠ 0 := by simp at h2; omega
  rcases sa with sa | ⟨b, off, rfl, sa⟩
  · exact absurd sa g2
  have h0 : 0 < l.length := by omega
  have e0 : l.take 1 = [l[0]] := by rw [List.take_succ_eq_append_getElem h0]; simp
  conv => whnf
  refine ⟨trivial, RegAt.box 7 3 30 (.tmp 15) hmix (by kernel_rfl) rfl rfl rfl rfl rfl rfl rfl rfl rfl rfl rfl (fun s h => by injection h with h; subst h; rfl) ?_⟩
  conv => whnf
  refine ⟨⟨trivial, by omega⟩, LoadAt.cell (.int .i64 l[0]) rfl rfl (fun w hw => sa w hw 0 h0) ?_⟩
  conv => whnf
  refine ⟨⟨trivial, by omega⟩, LoadAt.cell (.int .i64 l[0]) rfl rfl (fun w hw => sa w hw 0 h0) ?_⟩
  conv => whnf
  refine ⟨trivial, ?_⟩
  conv => whnf
  refine ⟨trivial, LoopAt.of (α := Nat) [0, 2, 3] (fun k => [(4, .v (.int .i64 (k : Int)))]) (fun k => [(1, 30, [.v (.int .i64 (mnL (l.take k))), .v (.int .i64 (mxL (l.take k)))]), (0, 30, [.v (.int .i64 0), .v (.int .i64 0)])]) (fun _ => []) (fun k => 1 ≤ k ∧ k ≤ n) (fun k => n - k) 1 ⟨by omega, by omega⟩ ?_ ?_⟩
  · rw [e0]
    exact Le.of (Nat.le_refl _) (Nat.zero_le _) ⟨⟨rfl, rfl⟩, ⟨rfl, rfl⟩, ⟨rfl, rfl⟩, ⟨rfl, rfl⟩, trivial⟩ ⟨⟨rfl, rfl, rfl, rfl⟩, ⟨rfl, rfl, rfl, rfl⟩, trivial⟩ fun h s => ⟨h, fun _ _ e => e, s⟩
  · rintro k ⟨k1, k2⟩
    conv => whnf
    refine ⟨fun h3 => ?_, fun h3 => ?_⟩
    · have g3 : k < n := by simpa using h3
      have hkl : k < l.length := by omega
      have ne : l.take k ≠ [] := by
        intro e
        rcases List.take_eq_nil_iff.1 e with e | e
        · omega
        · rw [e] at hkl; simp at hkl
      have es : l.take (k + 1) = l.take k ++ [l[k]] := List.take_succ_eq_append_getElem hkl
      have emn := mnL_snoc ne l[k]
      have emx := mxL_snoc ne l[k]
      rw [← es] at emn emx
      conv => whnf
      refine ⟨trivial, RegAt.quiet hmix (by kernel_rfl) ?_⟩
      conv => whnf
      refine ⟨⟨trivial, by omega⟩, LoadAt.cell (.int .i64 l[k]) rfl rfl (fun w hw => sa w hw k hkl) ?_⟩
      conv => whnf
      refine ⟨trivial, ?_⟩
      conv => whnf
      refine ⟨fun h4 => ?_, fun h4 => ?_⟩
      · have g4 : l[k] < mnL (l.take k) := by simpa using h4
        conv => whnf
        refine ⟨⟨trivial, by omega⟩, LoadAt.cell (.int .i64 l[k]) rfl rfl (fun w hw => sa w hw k hkl) ?_⟩
        conv => whnf
        refine ⟨trivial, RegAt.quiet hmix (by kernel_rfl) ?_⟩
        conv => whnf
        refine ⟨⟨trivial, by omega⟩, LoadAt.cell (.int .i64 l[k]) rfl rfl (fun w hw => sa w hw k hkl) ?_⟩
        conv => whnf
        refine ⟨trivial, ?_⟩
        conv => whnf
        refine ⟨fun h5 => ?_, fun h5 => ?_⟩
        · have g5 : mxL (l.take k) < l[k] := by simpa using h5
          conv => whnf
          refine ⟨⟨trivial, by omega⟩, LoadAt.cell (.int .i64 l[k]) rfl rfl (fun w hw => sa w hw k hkl) ?_⟩
          conv => whnf
          refine ⟨⟨trivial, by unfold rng; omega⟩, .mk (k + 1) ⟨by omega, by omega⟩ (by omega) ?_⟩
          rw [emn, emx, show min (mnL (l.take k)) l[k] = l[k] from by omega, show max (mxL (l.take k)) l[k] = l[k] from by omega]
          exact Le.of (Nat.le_refl _) (Nat.zero_le _) ⟨⟨rfl, rfl⟩, ⟨rfl, rfl⟩, ⟨rfl, rfl⟩, ⟨rfl, rfl⟩, trivial⟩ ⟨⟨rfl, rfl, rfl, rfl⟩, ⟨rfl, rfl, rfl, rfl⟩, trivial⟩ fun h s => ⟨h, fun _ _ e => e, s⟩
        · have g5 : l[k] ≤ mxL (l.take k) := by simpa using h5
          conv => whnf
          refine ⟨⟨trivial, by unfold rng; omega⟩, .mk (k + 1) ⟨by omega, by omega⟩ (by omega) ?_⟩
          rw [emn, emx, show min (mnL (l.take k)) l[k] = l[k] from by omega, show max (mxL (l.take k)) l[k] = mxL (l.take k) from by omega]
          exact Le.of (Nat.le_refl _) (Nat.zero_le _) ⟨⟨rfl, rfl⟩, ⟨rfl, rfl⟩, ⟨rfl, rfl⟩, ⟨rfl, rfl⟩, trivial⟩ ⟨⟨rfl, rfl, rfl, rfl⟩, ⟨rfl, rfl, rfl, rfl⟩, trivial⟩ fun h s => ⟨h, fun _ _ e => e, s⟩
      · have g4 : mnL (l.take k) ≤ l[k] := by simpa using h4
        conv => whnf
        refine ⟨trivial, RegAt.quiet hmix (by kernel_rfl) ?_⟩
        conv => whnf
        refine ⟨⟨trivial, by omega⟩, LoadAt.cell (.int .i64 l[k]) rfl rfl (fun w hw => sa w hw k hkl) ?_⟩
        conv => whnf
        refine ⟨trivial, ?_⟩
        conv => whnf
        refine ⟨fun h5 => ?_, fun h5 => ?_⟩
        · have g5 : mxL (l.take k) < l[k] := by simpa using h5
          conv => whnf
          refine ⟨⟨trivial, by omega⟩, LoadAt.cell (.int .i64 l[k]) rfl rfl (fun w hw => sa w hw k hkl) ?_⟩
          conv => whnf
          refine ⟨⟨trivial, by unfold rng; omega⟩, .mk (k + 1) ⟨by omega, by omega⟩ (by omega) ?_⟩
          rw [emn, emx, show min (mnL (l.take k)) l[k] = mnL (l.take k) from by omega, show max (mxL (l.take k)) l[k] = l[k] from by omega]
          exact Le.of (Nat.le_refl _) (Nat.zero_le _) ⟨⟨rfl, rfl⟩, ⟨rfl, rfl⟩, ⟨rfl, rfl⟩, ⟨rfl, rfl⟩, trivial⟩ ⟨⟨rfl, rfl, rfl, rfl⟩, ⟨rfl, rfl, rfl, rfl⟩, trivial⟩ fun h s => ⟨h, fun _ _ e => e, s⟩
        · have g5 : l[k] ≤ mxL (l.take k) := by simpa using h5
          conv => whnf
          refine ⟨⟨trivial, by unfold rng; omega⟩, .mk (k + 1) ⟨by omega, by omega⟩ (by omega) ?_⟩
          rw [emn, emx, show min (mnL (l.take k)) l[k] = mnL (l.take k) from by omega, show max (mxL (l.take k)) l[k] = mxL (l.take k) from by omega]
          exact Le.of (Nat.le_refl _) (Nat.zero_le _) ⟨⟨rfl, rfl⟩, ⟨rfl, rfl⟩, ⟨rfl, rfl⟩, ⟨rfl, rfl⟩, trivial⟩ ⟨⟨rfl, rfl, rfl, rfl⟩, ⟨rfl, rfl, rfl, rfl⟩, trivial⟩ fun h s => ⟨h, fun _ _ e => e, s⟩
    · have g3 : k = n := by simp at h3; omega
      subst g3
      conv => whnf
      refine ⟨trivial, fin_pure rfl ?_⟩
      rw [List.take_of_length_le (by omega)]
      rfl
end Go.Proofs.Ytlplbgbnojibmaa

/-
  The document's Values of a model.
-/
namespace Go.Proofs.Ytlplbgbnojibmaa
open Go.RowKit
open Sy
set_option linter.unusedVariables false
set_option linter.unusedSimpArgs false
set_option maxRecDepth 100000
set_option maxHeartbeats 4000000

abbrev modV (W H : Int) (A : Option Addr) (n c : Nat) : Value := .agg #[.int .i64 W, .int .i64 H, .slice A n c]
def vA (f : Nat → Nat → Int) (x0 nx y0 j i : Nat) : List Int := vRows f x0 nx y0 j ++ vRow f x0 (y0 + j) i
theorem vA_next (f : Nat → Nat → Int) (x0 nx y0 j i : Nat) : vA f x0 nx y0 j (i + 1) = vA f x0 nx y0 j i ++ [f (x0 + i) (y0 + j)] := by simp [vA, vRow_succ]
theorem vA_len (f : Nat → Nat → Int) (x0 nx y0 j i : Nat) : (vA f x0 nx y0 j i).length = j * nx + i := by simp [vA, vRows_len, vRow_len]
theorem ints_one (l : List Int) : ∀ u ∈ ints l, u.oneCell' = true := by
  intro u hu
  simp only [ints, List.mem_map] at hu
  obtain ⟨z, _, rfl⟩ := hu
  rfl

theorem sRValues {R : HP} {A : Option Addr} {n c W H : Nat} {l : List Int} (ha : Vs R A n l) (hn : W * H = n) (hW : W ≤ 1024) (hH : H ≤ 1024) (x0 y0 x1 y1 : Nat) (r2 : x0 ≤ x1) (r3 : x1 < W) (r5 : y0 ≤ y1) (r6 : y1 < H) :
    FnR Try.prog R 121 [modV W H A n c, rectV x0 y0 x1 y1] [] fun r hs => ∃ B d, r = .tuple #[.slice B (vRows (gv W l) x0 (x1 - x0 + 1) y0 (y1 - y0 + 1)).length d, .int .i64 0] ∧
      hs = [rowH (.slice B (vRows (gv W l) x0 (x1 - x0 + 1) y0 (y1 - y0 + 1)).length d) (vRows (gv W l) x0 (x1 - x0 + 1) y0 (y1 - y0 + 1)).length 2 1 (ints (vRows (gv W l) x0 (x1 - x0 + 1) y0 (y1 - y0 + 1)))] := by
  refine FnR.of_sat fun w hs => ?_
  obtain ⟨h1, sa⟩ := ha.spot hs
  have hn2 : n ≤ 1048576 := by rw [← hn]; exact Nat.mul_le_mul hW hH
  have hpos : 0 < n := by rw [← hn]; exact Nat.mul_pos (by omega) (by omega)
  rcases sa with sa | ⟨b, off, rfl, sa⟩
  · omega
  obtain ⟨nx, hnx⟩ : ∃ nx, x1 - x0 + 1 = nx := ⟨_, rfl⟩
  obtain ⟨ny, hny⟩ : ∃ ny, y1 - y0 + 1 = ny := ⟨_, rfl⟩
  rw [hnx, hny]
  have hw : withinZ x0 y0 x1 y1 W H = 0 := within_of ⟨by omega, by omega, by omega, by omega⟩ (by omega) (by omega) (by omega) (by omega) (by omega) (by omega)
  have hwi := fun R' => sRWithin x0 y0 x1 y1 W H R'
  rw [hw] at hwi
  have lenB : ∀ j i, j ≤ ny → i ≤ nx → (vA (gv W l) x0 nx y0 j i).length ≤ 1049600 := fun j i hj hi => by
    rw [vA_len]
    have := Nat.mul_le_mul (show j ≤ 1024 by omega) (show nx ≤ 1024 by omega)
    omega
  refine fn_of_run0 false Try.func121 rfl hmix rfl fun w0 => ?_
  conv => whnf
  refine ⟨trivial, CallAt.pure (fun R' _ => hwi R') ?_⟩
  conv => whnf
  refine iff_f (by decide) ?_
  conv => whnf
  refine ⟨trivial, OpAt.lit [] 1 rfl rfl rfl rfl rfl (by decide) rfl rfl rfl (by simp) rfl (by decide) fun g => ?_⟩
  conv => whnf
  refine ⟨trivial, LoopAt.heap (α := Nat × Option Addr × Nat) [2, 3] (fun a => [(7, .v (.slice a.2.1 (vRows (gv W l) x0 nx y0 a.1).length a.2.2)), (8, .v (.int .i64 ((y0 + a.1 : Nat) : Int)))])
    (fun a => [rowH (.slice a.2.1 (vRows (gv W l) x0 nx y0 a.1).length a.2.2) (vRows (gv W l) x0 nx y0 a.1).length 2 1 (ints (vRows (gv W l) x0 nx y0 a.1))]) (fun a => a.1 ≤ ny) (fun a => ny - a.1) (0, some ⟨g, 0, none⟩, 0) (Nat.zero_le _)
    rfl ⟨⟨rfl, rfl⟩, ⟨rfl, rfl⟩, trivial⟩ ⟨⟨rfl, rfl⟩, ⟨rfl, rfl⟩, trivial⟩ ⟨⟨rfl, rfl, rfl, rfl⟩, ⟨rfl, rfl, rfl, rfl⟩, trivial⟩ (fun h s => sub_same s) ?_⟩
  rintro ⟨j, B, d⟩ hj
  simp only at hj
  conv => whnf
  refine ⟨fun h2 => ?_, fun h2 => ?_⟩
  · have g2 : j < ny := by simp at h2; omega
    conv => whnf
    refine ⟨trivial, LoopAt.heap (α := Nat × Option Addr × Nat) [2, 3, 8] (fun a => [(7, .v (.slice a.2.1 (vA (gv W l) x0 nx y0 j a.1).length a.2.2)), (9, .v (.int .i64 ((x0 + a.1 : Nat) : Int)))])
      (fun a => [rowH (.slice a.2.1 (vA (gv W l) x0 nx y0 j a.1).length a.2.2) (vA (gv W l) x0 nx y0 j a.1).length 2 1 (ints (vA (gv W l) x0 nx y0 j a.1))]) (fun a => a.1 ≤ nx) (fun a => nx - a.1) (0, B, d) (Nat.zero_le _)
      rfl ⟨⟨by simp [vA, vRow, getT], rfl⟩, ⟨rfl, rfl⟩, trivial⟩ ⟨⟨rfl, rfl⟩, ⟨rfl, rfl⟩, ⟨rfl, rfl⟩, trivial⟩ ⟨⟨rfl, rfl, rfl, rfl⟩, ⟨rfl, rfl, rfl, rfl⟩, trivial⟩ (fun h s => sub_same (by simpa [vA, vRow] using s)) ?_⟩
    rintro ⟨i, B, d⟩ hi
    simp only at hi
    conv => whnf
    refine ⟨fun h3 => ?_, fun h3 => ?_⟩
    · have g3 : i < nx := by simp at h3; omega
      have hx : x0 + i < W := by omega
      have hy : y0 + j < H := by omega
      have hidx := idx_lt hx hy
      rw [hn] at hidx
      have hmul : ((y0 + j : Nat) : Int) * (W : Int) = (((y0 + j) * W : Nat) : Int) := by simp
      have hadd : (((y0 + j : Nat) : Int) * (W : Int) + ((x0 + i : Nat) : Int)).toNat = (y0 + j) * W + (x0 + i) := by rw [hmul]; omega
      have hr1 : rng .i64 (((y0 + j : Nat) : Int) * (W : Int)) := by rw [hmul]; unfold rng; omega
      have hr2 : rng .i64 (((y0 + j : Nat) : Int) * (W : Int) + ((x0 + i : Nat) : Int)) := by rw [hmul]; unfold rng; omega
      have hlen := lenB j i (by omega) (by omega)
      conv => whnf
      refine ⟨⟨⟨⟨trivial, hr1⟩, hr2⟩, ?_⟩, LoadAt.cell (.int .i64 (gv W l (x0 + i) (y0 + j))) rfl rfl (fun w hw => ?_) ?_⟩
      · rw [hmul]; omega
      · rw [hadd, sa w (Sat.right hw) _ (by omega)]
        unfold gv
        rw [List.getD_eq_getElem?_getD, List.getElem?_eq_getElem (by omega)]
        rfl
      conv => whnf
      refine ⟨trivial, OpAt.lit [.int .i64 (gv W l (x0 + i) (y0 + j))] 1 rfl rfl rfl rfl rfl (by decide) rfl rfl rfl (by simp [Value.cells]) rfl (by decide) fun g2 => ?_⟩
      conv => whnf
      refine ⟨trivial, OpAt.append (.slice B (vA (gv W l) x0 nx y0 j i).length d) (vA (gv W l) x0 nx y0 j i).length 1 8 (ints (vA (gv W l) x0 nx y0 j i)) [.int .i64 (gv W l (x0 + i) (y0 + j))] (some ⟨g2, 0, none⟩) 1 1 _ rfl (fun h s => sepL_pull 1 s) rfl rfl rfl rfl rfl rfl rfl rfl rfl (by decide) (fun w hw => rowH_reads rfl (Sat.left hw)) (ints_one [_]) (by simp only [maxLen]; omega) (by omega) fun B' d' => ?_⟩
      conv => whnf
      refine ⟨⟨trivial, by unfold rng; omega⟩, Next.heap (i + 1, B', d') (by simp only; omega) (by simp only; omega) ⟨⟨?_, rfl⟩, ⟨rfl, rfl⟩, trivial⟩ ⟨⟨rfl, rfl⟩, ⟨rfl, rfl⟩, ⟨rfl, rfl⟩, trivial⟩ ⟨⟨rfl, rfl, rfl, rfl⟩, ⟨rfl, rfl, rfl, rfl⟩, trivial⟩ rfl rfl fun h s => ?_⟩
      · rw [vA_next]; simp [getT]
      · obtain ⟨h', e, s'⟩ := sub_tail (sepL_pull 1 s)
        refine ⟨h', e, ?_⟩
        rw [vA_next, ints_append]
        simpa [ints] using s'
    · have g3 : i = nx := by simp at h3; omega
      subst g3
      conv => whnf
      refine ⟨⟨trivial, by unfold rng; omega⟩, Next.heap (j + 1, B, d) (by simp only; omega) (by simp only; omega) ⟨⟨?_, rfl⟩, ⟨rfl, rfl⟩, trivial⟩ ⟨⟨rfl, rfl⟩, ⟨rfl, rfl⟩, trivial⟩ ⟨⟨rfl, rfl, rfl, rfl⟩, ⟨rfl, rfl, rfl, rfl⟩, trivial⟩ rfl rfl fun h s => ?_⟩
      · rw [vRows_succ]; rfl
      · rw [vRows_succ]; exact sub_same s
  · have g2 : j = ny := by simp at h2; omega
    subst g2
    conv => whnf
    exact ⟨trivial, .mk _ (fun w s => s) ⟨B, d, rfl, rfl⟩⟩
end Go.Proofs.Ytlplbgbnojibmaa

/-
  paint: lay, Paste, From.
-/
namespace Go.Proofs.Ytlplbgbnojibmaa
open Go.RowKit
open Sy
set_option linter.unusedVariables false
set_option linter.unusedSimpArgs false
set_option maxRecDepth 100000
set_option maxHeartbeats 4000000

theorem sPaste1 (v : Int) (R : HP) : PureR Try.prog R 141 [.int .i64 v] (.bool (!decide (MayV v))) := PureR.of_below fun w _ => (Paste1_any v w).mono fun e w' ⟨h1, h2⟩ => ⟨h1, by subst h2; exact Below.refl _ _⟩

theorem sIndexMay {R : HP} {A : Option Addr} {n c : Nat} {l : List Int} (ha : Vs R A n l) (hn : n ≤ 4611686018427387904) (hm : ∀ v ∈ l, MayV v) : PureR Try.prog R 160 [.slice A n c, .func (.func 141) #[] #[]] (.int .i64 (-1)) := by
  refine PureR.of_sat fun w hs => ?_
  obtain ⟨h1, sa⟩ := ha.spot hs
  refine fn_of_run0 false Try.func160 rfl hmix rfl fun w0 => ?_
  conv => whnf
  refine ⟨trivial, LoopAt.keep (α := Nat) [0, 1, 7] (fun k => [(8, .v (.int .i64 (k : Int)))]) (fun k => k ≤ n) (fun k => n - k) 0 (Nat.zero_le _) rfl ⟨⟨rfl, rfl⟩, trivial⟩ ⟨⟨rfl, rfl⟩, ⟨rfl, rfl⟩, ⟨rfl, rfl⟩, trivial⟩ trivial ?_⟩
  intro k hk
  conv => whnf
  refine ⟨fun h2 => ?_, fun h2 => ?_⟩
  · have g2 : k < n := by simpa using h2
    rcases sa with sa | ⟨b, off, rfl, sa⟩
    · omega
    conv => whnf
    refine ⟨⟨trivial, by omega⟩, LoadAt.cell (.int .i64 (l[k]'(by omega))) rfl rfl (fun w hw => sa w hw k (by omega)) ?_⟩
    conv => whnf
    refine ⟨trivial, CallAt.pure (fun R' _ => sPaste1 _ R') ?_⟩
    conv => whnf
    refine iff_f ?_ ?_
    · have := hm _ (List.getElem_mem (show k < l.length by omega))
      simp [this]
    conv => whnf
    exact ⟨⟨trivial, by unfold rng; omega⟩, Next.keep (k + 1) (by omega) (by omega) ⟨⟨rfl, rfl⟩, trivial⟩ ⟨⟨rfl, rfl⟩, ⟨rfl, rfl⟩, ⟨rfl, rfl⟩, trivial⟩ trivial rfl rfl rfl⟩
  · conv => whnf
    exact ⟨trivial, fin_pure rfl rfl⟩
theorem sContainsMay {R : HP} {A : Option Addr} {n c : Nat} {l : List Int} (ha : Vs R A n l) (hn : n ≤ 4611686018427387904) (hm : ∀ v ∈ l, MayV v) : PureR Try.prog R 140 [.slice A n c, .func (.func 141) #[] #[]] (.bool false) := by
  refine fn_of_run0 false Try.func140 rfl hmix rfl fun w0 => ?_
  conv => whnf
  refine ⟨trivial, CallAt.pure (fun R' hR' => sIndexMay (ha.mono hR') hn hm) ?_⟩
  conv => whnf
  exact ⟨trivial, fin_pure rfl rfl⟩

def pasteK (x0 y0 nx k : Nat) (l : List Int) (f : Nat → Nat → Int) (x y : Nat) : Int := if x0 ≤ x ∧ x < x0 + nx ∧ y0 ≤ y ∧ (y - y0) * nx + (x - x0) < k then l.getD ((y - y0) * nx + (x - x0)) 0 else f x y
theorem pasteK_zero (x0 y0 nx : Nat) (l : List Int) (f : Nat → Nat → Int) : pasteK x0 y0 nx 0 l f = f := by funext x y; simp [pasteK]
theorem pasteK_fill {x0 y0 nx i m : Nat} {l : List Int} {f : Nat → Nat → Int} {v : Int} (hnx : 0 < nx) (hm : 1 ≤ m) (hrow : i % nx + m ≤ nx) (hv : ∀ t, t < m → l.getD (i + t) 0 = v) (x y : Nat) :
    fillG ⟨((x0 + i % nx : Nat) : Int), ((y0 + i / nx : Nat) : Int), ((x0 + i % nx : Nat) : Int) + (m : Int) - 1, ((y0 + i / nx : Nat) : Int)⟩ v (pasteK x0 y0 nx i l f) x y = pasteK x0 y0 nx (i + m) l f x y := by
  have hdm := Nat.div_add_mod i nx
  rw [Nat.mul_comm] at hdm
  generalize i / nx = a at *
  generalize i % nx = b at *
  unfold fillG
  by_cases c : x0 + b ≤ x ∧ x < x0 + b + m ∧ y = y0 + a
  · obtain ⟨c1, c2, c3⟩ := c
    rw [if_pos ((inR_iff _ _ _).2 ⟨by simp only; omega, by simp only; omega, by simp only; omega, by simp only; omega⟩)]
    subst c3
    have e : (y0 + a - y0) * nx + (x - x0) = i + (x - x0 - b) := by
      rw [Nat.add_sub_cancel_left]; omega
    unfold pasteK
    rw [e, if_pos ⟨by omega, by omega, by omega, by omega⟩]
    exact (hv _ (by omega)).symm
  · rw [if_neg]
    · unfold pasteK
      by_cases c2 : x0 ≤ x ∧ x < x0 + nx ∧ y0 ≤ y ∧ (y - y0) * nx + (x - x0) < i
      · rw [if_pos c2, if_pos ⟨c2.1, c2.2.1, c2.2.2.1, by omega⟩]
      · rw [if_neg c2, if_neg]
        rintro ⟨d1, d2, d3, d4⟩
        have d5 : i ≤ (y - y0) * nx + (x - x0) := Nat.le_of_not_lt fun h => c2 ⟨d1, d2, d3, h⟩
        have hy : y - y0 = a := by
          rcases Nat.lt_trichotomy (y - y0) a with h | h | h
          · have := Nat.mul_le_mul_right nx (show y - y0 + 1 ≤ a by omega)
            rw [Nat.add_mul] at this
            omega
          · exact h
          · have := Nat.mul_le_mul_right nx (show a + 1 ≤ y - y0 by omega)
            rw [Nat.add_mul] at this
            omega
        rw [hy] at d4 d5
        exact c ⟨by omega, by omega, by omega⟩
    · intro h
      have := (inR_iff _ _ _).1 h
      simp only at this
      exact c ⟨by omega, by omega, by omega⟩

theorem sNth (x0 y0 x1 y1 i : Nat) (r2 : x0 ≤ x1) (r3 : x1 < 1024) (r5 : y0 ≤ y1) (r6 : y1 < 1024) (hi : i < (x1 - x0 + 1) * (y1 - y0 + 1)) (R : HP) : PureR Try.prog R 77 [rectV x0 y0 x1 y1, .int .i64 i] (.tuple #[cellV ((x0 + i % (x1 - x0 + 1) : Nat) : Int) ((y0 + i / (x1 - x0 + 1) : Nat) : Int), .bool true]) := by
  have e1 : (x1 : Int) - x0 + 1 = ((x1 - x0 + 1 : Nat) : Int) := by omega
  have e2 : (y1 : Int) - y0 + 1 = ((y1 - y0 + 1 : Nat) : Int) := by omega
  refine PureR.of_below fun w _ => (Nth_ok x0 y0 x1 y1 i w ((right_iff _ _ _ _).2 ⟨by omega, by omega, by omega, by omega, by omega, by omega⟩) (by omega) (by rw [e1, e2, ← Int.natCast_mul]; omega)).mono ?_
  rintro e w' ⟨rfl, hb⟩
  refine ⟨?_, hb⟩
  rw [e1]
  simp
end Go.Proofs.Ytlplbgbnojibmaa

/-
  paint.lay.
-/
namespace Go.Proofs.Ytlplbgbnojibmaa
open Go.RowKit
open Sy
set_option linter.unusedVariables false
set_option linter.unusedSimpArgs false
set_option maxRecDepth 100000
set_option maxHeartbeats 4000000

theorem getD_at {l : List Int} {k : Nat} (h : k < l.length) : l.getD k 0 = l[k] := by rw [List.getD_eq_getElem?_getD, List.getElem?_eq_getElem h]; rfl

theorem gFill_i {R : HP} {gb W H : Nat} {f : Nat → Nat → Int} {x0 y0 x1 y1 v : Int} (r : Rc) (e : r = ⟨x0, y0, x1, y1⟩) (r1 : 0 ≤ x0) (r2 : x0 ≤ x1) (r3 : x1 < W) (r4 : 0 ≤ y0) (r5 : y0 ≤ y1) (r6 : y1 < H) (hv : MayV v) :
    FnR Try.prog R 103 [.pointer (some ⟨gb, 0, none⟩), .agg #[.int .i64 x0, .int .i64 y0, .int .i64 x1, .int .i64 y1], .int .i64 v] [gridH gb W H f] fun x hs => x = .int .i64 0 ∧ hs = [gridH gb W H (fillG r v f)] := by
  subst e
  exact gFill_f ⟨x0, y0, x1, y1⟩ v r1 r2 r3 r4 r5 r6 hv

theorem sLay {R : HP} {gb W H n c : Nat} {f : Nat → Nat → Int} {A : Option Addr} {l : List Int} (ha : Vs R A n l) (hm : ∀ v ∈ l, MayV v) (x0 y0 x1 y1 : Nat) (r2 : x0 ≤ x1) (r3 : x1 < W) (r5 : y0 ≤ y1) (r6 : y1 < H) (hW : W ≤ 1024) (hH : H ≤ 1024) (hn : (x1 - x0 + 1) * (y1 - y0 + 1) = n) :
    FnR Try.prog R 143 [.pointer (some ⟨gb, 0, none⟩), rectV x0 y0 x1 y1, .slice A n c] [gridH gb W H f] fun r hs => r = .tuple #[] ∧ hs = [gridH gb W H (pasteK x0 y0 (x1 - x0 + 1) n l f)] := by
  refine FnR.of_sat fun w hs => ?_
  obtain ⟨h1, sa⟩ := ha.spot (Sat.right hs)
  have hn2 : n ≤ 1048576 := by rw [← hn]; exact Nat.mul_le_mul (show x1 - x0 + 1 ≤ 1024 by omega) (show y1 - y0 + 1 ≤ 1024 by omega)
  have hpos : 0 < n := by rw [← hn]; exact Nat.mul_pos (by omega) (by omega)
  rcases sa with sa | ⟨b, off, rfl, sa⟩
  · omega
  obtain ⟨nx, hnx⟩ : ∃ nx, x1 - x0 + 1 = nx := ⟨_, rfl⟩
  rw [hnx] at hn ⊢
  have nthi := fun (i : Nat) (hi : i < n) (R' : HP) => sNth x0 y0 x1 y1 i r2 (by omega) r5 (by omega) (by rw [hnx, hn]; exact hi) R'
  rw [hnx] at nthi
  refine fn_of_run0 false Try.func143 rfl hmix rfl fun w0 => ?_
  conv => whnf
  refine ⟨trivial, LoopAt.heap (α := Nat) [0, 2, 4] (fun i => [(6, .v (.int .i64 (i : Int)))]) (fun i => [gridH gb W H (pasteK x0 y0 nx i l f)]) (fun i => i ≤ n) (fun i => n - i) 0 (Nat.zero_le _)
    rfl ⟨⟨rfl, rfl⟩, trivial⟩ ⟨⟨rfl, rfl⟩, ⟨rfl, rfl⟩, ⟨rfl, rfl⟩, trivial⟩ ⟨⟨rfl, rfl, rfl, rfl⟩, trivial⟩ (fun h s => sub_same (by rw [pasteK_zero]; exact s)) ?_⟩
  intro i hi
  conv => whnf
  refine ⟨fun h2 => ?_, fun h2 => ?_⟩
  rotate_left
  · have g2 : i = n := by simp at h2; omega
    subst g2
    conv => whnf
    exact ⟨trivial, .mk _ (fun w s => s) ⟨rfl, rfl⟩⟩
  have g2 : i < n := by simpa using h2
  have hil : i < l.length := by omega
  have hmod : i % nx < nx := Nat.mod_lt _ (by omega)
  have hdiv : i / nx < y1 - y0 + 1 := Nat.div_lt_of_lt_mul (by rw [hn]; exact g2)
  have hrowend : ∀ m, i % nx + m < nx → i + m < n := fun m hmm => by
    have e1 := Nat.div_add_mod i nx
    have e2 := Nat.mul_le_mul_left nx (show i / nx + 1 ≤ y1 - y0 + 1 by omega)
    rw [hn, Nat.mul_add] at e2
    omega
  obtain ⟨bx, hbx⟩ : ∃ bx, i % nx = bx := ⟨_, rfl⟩
  obtain ⟨ay, hay⟩ : ∃ ay, i / nx = ay := ⟨_, rfl⟩
  have nth := nthi i g2
  have fillE := fun m hm1 hm2 hv x y => pasteK_fill (x0 := x0) (y0 := y0) (nx := nx) (i := i) (m := m) (l := l) (f := f) (v := l.getD i 0) (by omega) hm1 hm2 hv x y
  rw [hbx] at hmod hrowend
  rw [hay] at hdiv
  rw [hbx, hay] at nth
  simp only [hbx, hay] at fillE
  conv => whnf
  refine ⟨trivial, CallAt.pure (fun R' _ => nth R') ?_⟩
  conv => whnf
  refine ⟨trivial, LoopAt.keep (α := Nat) [0, 2, 4, 6, 7] (fun m => [(9, .v (.int .i64 (m : Int)))]) (fun m => 1 ≤ m ∧ bx + m ≤ nx ∧ ∀ t, t < m → l.getD (i + t) 0 = l.getD i 0) (fun m => nx - m) 1 ⟨Nat.le_refl _, by omega, fun t ht => by rw [show t = 0 by omega]; rfl⟩
    rfl ⟨⟨rfl, rfl⟩, trivial⟩ ⟨⟨rfl, rfl⟩, ⟨rfl, rfl⟩, ⟨rfl, rfl⟩, ⟨rfl, rfl⟩, ⟨rfl, rfl⟩, trivial⟩ ⟨⟨rfl, rfl, rfl, rfl⟩, ⟨rfl, rfl, rfl, rfl⟩, trivial⟩ ?_⟩
  rintro m ⟨m1, m2, m3⟩
  have hr1 : rng .i64 (((x0 + bx : Nat) : Int) + (m : Int)) := by unfold rng; omega
  conv => whnf
  refine ⟨trivial, RegAt.quiet hmix (by kernel_rfl) ?_⟩
  conv => whnf
  refine ⟨fun h3 => ?_, fun h3 => ?_⟩
  · have g3 : bx + m < nx := by simp at h3; omega
    have hlt := hrowend m g3
    have hnat : ((i : Int) + (m : Int)).toNat = i + m := by omega
    conv => whnf
    refine ⟨⟨⟨⟨trivial, hr1⟩, by unfold rng; omega⟩, by omega⟩, LoadAt.cell (.int .i64 (l[i + m]'(by omega))) rfl rfl (fun w hw => ?_) ?_⟩
    · rw [hnat]; exact sa w (Sat.right hw) (i + m) (by omega)
    conv => whnf
    refine ⟨⟨trivial, by omega⟩, LoadAt.cell (.int .i64 (l[i]'(by omega))) rfl rfl (fun w hw => sa w (Sat.right hw) i (by omega)) ?_⟩
    conv => whnf
    refine ⟨trivial, ?_⟩
    conv => whnf
    refine ⟨fun h4 => ?_, fun h4 => ?_⟩
    · have g4 : l[i + m] = l[i] := by simpa using h4
      conv => whnf
      refine ⟨⟨trivial, by unfold rng; omega⟩, Next.keep (m + 1) ⟨by omega, by omega, fun t ht => ?_⟩ (by omega) ⟨⟨rfl, rfl⟩, trivial⟩ ⟨⟨rfl, rfl⟩, ⟨rfl, rfl⟩, ⟨rfl, rfl⟩, ⟨rfl, rfl⟩, ⟨rfl, rfl⟩, trivial⟩ ⟨⟨rfl, rfl, rfl, rfl⟩, ⟨rfl, rfl, rfl, rfl⟩, trivial⟩ rfl rfl rfl⟩
      rcases Nat.lt_or_ge t m with c | c
      · exact m3 t c
      · rw [show t = m by omega, getD_at (by omega), getD_at (by omega)]
        exact g4
    · conv => whnf
      refine ⟨trivial, RegAt.tail 17 hmix (by kernel_rfl) ?_⟩
      conv => whnf
      refine ⟨⟨⟨⟨trivial, hr1⟩, by unfold rng; omega⟩, by omega⟩, LoadAt.cell (.int .i64 (l[i]'(by omega))) rfl rfl (fun w hw => sa w (Sat.right hw) i (by omega)) ?_⟩
      conv => whnf
      refine ⟨trivial, CallAt.fn [] (fun h s => s) (fun R' _ => gFill_i _ rfl (by omega) (by omega) (by omega) (by omega) (by omega) (by omega) (hm _ (List.getElem_mem hil))) ?_⟩
      rintro r hs ⟨rfl, rfl⟩
      conv => whnf
      refine ⟨trivial, ?_⟩
      conv => whnf
      refine ⟨⟨trivial, by unfold rng; omega⟩, Next.heap (i + m) (by have := hrowend (m - 1) (by omega); omega) (by omega) ⟨⟨rfl, rfl⟩, trivial⟩ ⟨⟨rfl, rfl⟩, ⟨rfl, rfl⟩, ⟨rfl, rfl⟩, trivial⟩ ⟨⟨rfl, rfl, rfl, rfl⟩, trivial⟩ rfl rfl fun h s => sub_same (sep_mono s (fun _ g => gridH_congr (fun x y _ _ => ?_) g) fun _ x => x)⟩
      have := fillE m m1 m2 m3 x y
      rw [getD_at hil] at this
      exact this
  · conv => whnf
    refine ⟨⟨trivial, hr1⟩, ?_⟩
    conv => whnf
    refine ⟨trivial, RegAt.tail 17 hmix (by kernel_rfl) ?_⟩
    conv => whnf
    refine ⟨⟨⟨⟨trivial, hr1⟩, by unfold rng; omega⟩, by omega⟩, LoadAt.cell (.int .i64 (l[i]'(by omega))) rfl rfl (fun w hw => sa w (Sat.right hw) i (by omega)) ?_⟩
    conv => whnf
    refine ⟨trivial, CallAt.fn [] (fun h s => s) (fun R' _ => gFill_i _ rfl (by omega) (by omega) (by omega) (by omega) (by omega) (by omega) (hm _ (List.getElem_mem hil))) ?_⟩
    rintro r hs ⟨rfl, rfl⟩
    conv => whnf
    refine ⟨trivial, ?_⟩
    conv => whnf
    refine ⟨⟨trivial, by unfold rng; omega⟩, Next.heap (i + m) (by have := hrowend (m - 1) (by omega); omega) (by omega) ⟨⟨rfl, rfl⟩, trivial⟩ ⟨⟨rfl, rfl⟩, ⟨rfl, rfl⟩, ⟨rfl, rfl⟩, trivial⟩ ⟨⟨rfl, rfl, rfl, rfl⟩, trivial⟩ rfl rfl fun h s => sub_same (sep_mono s (fun _ g => gridH_congr (fun x y _ _ => ?_) g) fun _ x => x)⟩
    have := fillE m m1 m2 m3 x y
    rw [getD_at hil] at this
    exact this
end Go.Proofs.Ytlplbgbnojibmaa

/-
  paint.Paste and paint.From, where all is right.
-/
namespace Go.Proofs.Ytlplbgbnojibmaa
open Go.RowKit
open Sy
set_option linter.unusedVariables false
set_option linter.unusedSimpArgs false
set_option maxRecDepth 100000
set_option maxHeartbeats 4000000

theorem sArea (x0 y0 x1 y1 : Nat) (r2 : x0 ≤ x1) (r3 : x1 < 1024) (r5 : y0 ≤ y1) (r6 : y1 < 1024) (R : HP) : PureR Try.prog R 89 [rectV x0 y0 x1 y1] (.int .i64 (((x1 - x0 + 1) * (y1 - y0 + 1) : Nat) : Int)) := by
  have e1 : (x1 : Int) - x0 + 1 = ((x1 - x0 + 1 : Nat) : Int) := by omega
  have e2 : (y1 : Int) - y0 + 1 = ((y1 - y0 + 1 : Nat) : Int) := by omega
  refine PureR.of_below fun w _ => (Area_any x0 y0 x1 y1 w).mono ?_
  rintro e w' ⟨rfl, hb⟩
  refine ⟨?_, hb⟩
  unfold areaZ
  rw [if_pos ((right_iff _ _ _ _).2 ⟨by omega, by omega, by omega, by omega, by omega, by omega⟩), e1, e2, ← Int.natCast_mul]
theorem gridAt_rest {R R' : HP} {gb W H : Nat} {f : Nat → Nat → Int} {l : List HP} (i : Nat) (hi : l[i]? = some (gridH gb W H f)) (h : ∀ w, Sat R' w → Sat (sepL l R) w) : ∀ w, Sat R' w → GridAt w gb W H f := fun w s => gridAt_of ((h w s).in_ i hi)

theorem sPaste {R : HP} {gb W H n c : Nat} {f : Nat → Nat → Int} {A : Option Addr} {l : List Int} {X1 Y1 : Int} (ha : Vs R A n l) (hm : ∀ v ∈ l, MayV v) (x0 y0 x1 y1 : Nat) (e1 : X1 = x1) (e2 : Y1 = y1) (r2 : x0 ≤ x1) (r3 : x1 < W) (r5 : y0 ≤ y1) (r6 : y1 < H) (hW : W ≤ 1024) (hH : H ≤ 1024) (hn : (x1 - x0 + 1) * (y1 - y0 + 1) = n) :
    FnR Try.prog R 102 [.pointer (some ⟨gb, 0, none⟩), rectV x0 y0 X1 Y1, .slice A n c] [gridH gb W H f] fun r hs => r = .int .i64 0 ∧ hs = [gridH gb W H (pasteK x0 y0 (x1 - x0 + 1) n l f)] := by
  subst e1 e2
  have hn2 : n ≤ 1048576 := by rw [← hn]; exact Nat.mul_le_mul (show x1 - x0 + 1 ≤ 1024 by omega) (show y1 - y0 + 1 ≤ 1024 by omega)
  refine fn_of_run0 false Try.func102 rfl hmix rfl fun w0 => ?_
  conv => whnf
  refine ⟨trivial, CallAt.fn (pre := []) [gridH gb W H f] (fun h s => s) (fun R' hR' => gValues_f (gridAt_rest 0 rfl hR') x0 y0 x1 y1 r2 r3 r5 r6) ?_⟩
  rintro r hs ⟨B, d, rfl, rfl⟩
  conv => whnf
  refine iff_f (by decide) ?_
  conv => whnf
  refine ⟨trivial, CallAt.pure (fun R' _ => sArea x0 y0 x1 y1 r2 (by omega) r5 (by omega) R') ?_⟩
  conv => whnf
  refine iff_f (by rw [hn]; simp) ?_
  conv => whnf
  refine ⟨trivial, CallAt.pure (fun R' hR' => sContainsMay (ha.mono fun w s => (hR' w s).rest) (by omega) hm) ?_⟩
  conv => whnf
  refine iff_f rfl ?_
  conv => whnf
  refine ⟨trivial, CallAt.fn _ (fun h s => sepL_pull 1 s) (fun R' hR' => sLay (ha.mono fun w s => (hR' w s).rest) hm x0 y0 x1 y1 r2 r3 r5 r6 hW hH hn) ?_⟩
  rintro r hs ⟨rfl, rfl⟩
  conv => whnf
  exact ⟨trivial, .mk [gridH gb W H (pasteK x0 y0 (x1 - x0 + 1) n l f)] (fun w ⟨h, hs, s⟩ => by
    obtain ⟨h', e, s'⟩ := sub_tail (sepL_pull 1 s)
    exact ⟨h', hs.mono e, s'⟩) ⟨rfl, rfl⟩⟩

theorem pasteK_all {W H : Nat} {l : List Int} {f : Nat → Nat → Int} {x y : Nat} (hx : x < W) (hy : y < H) : pasteK 0 0 W (W * H) l f x y = gv W l x y := by
  unfold pasteK gv
  have := idx_lt hx hy
  simp only [Nat.sub_zero]
  rw [if_pos ⟨Nat.zero_le _, by omega, Nat.zero_le _, this⟩]

theorem sFrom {R : HP} {W H n c : Nat} {A : Option Addr} {l : List Int} (ha : Vs R A n l) (hm : ∀ v ∈ l, MayV v) (h1 : 1 ≤ W) (h2 : W ≤ 1024) (h3 : 1 ≤ H) (h4 : H ≤ 1024) (hn : W * H = n) :
    FnR Try.prog R 52 [.int .i64 W, .int .i64 H, .slice A n c] [] fun r hs => ∃ gb, r = .tuple #[.pointer (some ⟨gb, 0, none⟩), .int .i64 0] ∧ hs = [gridH gb W H (gv W l)] := by
  refine fn_of_run0 false Try.func52 rfl hmix rfl fun w0 => ?_
  conv => whnf
  refine ⟨trivial, CallAt.fn (pre := []) [] (fun h s => s) (fun R' _ => gNew_f 0 h1 h2 h3 h4 ⟨by decide, by decide⟩) ?_⟩
  rintro r hs ⟨gb, rfl, rfl⟩
  conv => whnf
  refine iff_t (by decide) ?_
  conv => whnf
  refine ⟨trivial, CallAt.pure (fun R' hR' => gAll_p (gridAt_rest 0 rfl hR')) ?_⟩
  conv => whnf
  refine ⟨trivial, CallAt.fn [] (fun h s => s) (fun R' hR' => sPaste (ha.mono hR') hm 0 0 (W - 1) (H - 1) (by omega) (by omega) (by omega) (by omega) (by omega) (by omega) h2 h4 (by rw [← hn]; congr 1 <;> omega)) ?_⟩
  rintro r hs ⟨rfl, rfl⟩
  conv => whnf
  refine iff_f (by decide) ?_
  conv => whnf
  refine ⟨trivial, .mk [gridH gb W H (gv W l)] (fun w ⟨h, hs, s⟩ => ⟨h, hs, sep_mono s (fun _ g => gridH_congr (fun x y hx hy => ?_) g) fun _ x => x⟩) ⟨gb, rfl, rfl⟩⟩
  have e : W - 1 - 0 + 1 = W := by omega
  rw [e, ← hn]
  exact pasteK_all hx hy
end Go.Proofs.Ytlplbgbnojibmaa

/-
  tier in plain numbers: Size, check, Span.
-/
namespace Go.Proofs.Ytlplbgbnojibmaa
open Go.RowKit
open Sy
set_option linter.unusedVariables false
set_option linter.unusedSimpArgs false
set_option maxRecDepth 100000
set_option maxHeartbeats 4000000

def halfN (W k : Nat) : Nat := (W - 1) / 2 ^ k + 1
theorem halfZ_N (W k : Nat) (h : 1 ≤ W) : halfZ (W : Int) k = ((halfN W k : Nat) : Int) := by
  unfold halfZ halfN
  have e : (W : Int) - 1 = ((W - 1 : Nat) : Int) := by omega
  rw [e]
  simp
theorem lev10 {W H k : Nat} (h : SizeOk (W : Int) (H : Int)) (hk : k < levN W H) : k ≤ 10 := by have := levN_le h; omega
theorem pow_le (k : Nat) (h : k ≤ 10) : 2 ^ k ≤ 1024 := by
  have := Nat.pow_le_pow_right (show 1 ≤ 2 by omega) h
  simpa using this
theorem pow_pos' (k : Nat) : 0 < 2 ^ k := Nat.pow_pos (by omega)
theorem half_mul {W k x : Nat} (hx : x < halfN W k) : x * 2 ^ k ≤ W - 1 := by
  unfold halfN at hx
  have h1 : x ≤ (W - 1) / 2 ^ k := by omega
  exact Nat.le_trans (Nat.mul_le_mul_right _ h1) (Nat.div_mul_le_self _ _)
theorem half_le {W k : Nat} (h : 1 ≤ W) : 1 ≤ halfN W k ∧ halfN W k ≤ W := by
  unfold halfN
  have := Nat.div_le_self (W - 1) (2 ^ k)
  generalize (W - 1) / 2 ^ k = q at *
  omega
def spX1 (W k x : Nat) : Nat := min ((x + 1) * 2 ^ k) W - 1
theorem sp_ok {W k x : Nat} (hW : 1 ≤ W) (hx : x < halfN W k) : x * 2 ^ k ≤ spX1 W k x ∧ spX1 W k x < W := by
  have h1 := half_mul hx
  have h2 := pow_pos' k
  unfold spX1
  rw [Nat.add_mul]
  generalize 2 ^ k = p at *
  generalize x * p = q at *
  omega
theorem spX1_Z {W k x : Nat} (hW : 1 ≤ W) : min (((x + 1) * 2 ^ k : Nat) : Int) (W : Int) - 1 = ((spX1 W k x : Nat) : Int) := by
  unfold spX1
  have h2 := pow_pos' k
  have : 0 < (x + 1) * 2 ^ k := Nat.mul_pos (by omega) h2
  generalize (x + 1) * 2 ^ k = q at *
  omega

theorem sTSize (W H k : Nat) (hs : SizeOk (W : Int) (H : Int)) (hk : k < levN W H) (R : HP) : PureR Try.prog R 71 [.int .i64 W, .int .i64 H, .int .i64 k] (.tuple #[.int .i64 (halfN W k : Nat), .int .i64 (halfN H k : Nat), .int .i64 0]) := by
  refine PureR.of_below fun w _ => ?_
  have := Size_ok W H k w hs hk
  unfold SizeOk at hs
  rw [halfZ_N W k (by omega), halfZ_N H k (by omega)] at this
  exact this
theorem sTSizeArg (W H k : Int) (hs : SizeOk W H) (hk : k < 0 ∨ (levN W H : Int) ≤ k) (R : HP) : PureR Try.prog R 71 [.int .i64 W, .int .i64 H, .int .i64 k] (.tuple #[.int .i64 0, .int .i64 0, .int .i64 11]) := PureR.of_below fun w _ => Size_arg W H k w hs hk

theorem sTCheck (W H k x y : Nat) (hs : SizeOk (W : Int) (H : Int)) (hk : k < levN W H) (hx : x < halfN W k) (hy : y < halfN H k) (R : HP) : PureR Try.prog R 146 [.int .i64 W, .int .i64 H, .int .i64 k, cellV x y] (.int .i64 0) := by
  refine fn_of_run0 false Try.func146 rfl hmix rfl fun w0 => ?_
  conv => whnf
  refine ⟨trivial, CallAt.pure (fun R' _ => sTSize W H k hs hk R') ?_⟩
  conv => whnf
  refine iff_f (by decide) ?_
  conv => whnf
  refine ⟨fun h1 => ?_, fun h1 => absurd h1 (by simp)⟩
  conv => whnf
  refine ⟨fun h2 => ?_, fun h2 => absurd h2 (by simp; omega)⟩
  conv => whnf
  refine ⟨fun h3 => ?_, fun h3 => absurd h3 (by simp)⟩
  conv => whnf
  refine ⟨fun h4 => absurd h4 (by simp; omega), fun h4 => ?_⟩
  conv => whnf
  exact ⟨trivial, fin_pure rfl rfl⟩

theorem sTSpan (W H k x y : Nat) (hs : SizeOk (W : Int) (H : Int)) (hk : k < levN W H) (hx : x < halfN W k) (hy : y < halfN H k) (R : HP) : PureR Try.prog R 145 [.int .i64 W, .int .i64 H, .int .i64 k, cellV x y] (.tuple #[rectV ((x * 2 ^ k : Nat) : Int) ((y * 2 ^ k : Nat) : Int) ((spX1 W k x : Nat) : Int) ((spX1 H k y : Nat) : Int), .int .i64 0]) := by
  have k10 := lev10 hs hk
  have hp := pow_le k k10
  have hp0 := pow_pos' k
  have hx1 := half_mul hx
  have hy1 := half_mul hy
  have hs' := hs
  unfold SizeOk at hs'
  obtain ⟨sx1, sx2⟩ := sp_ok (by omega) hx
  obtain ⟨sy1, sy2⟩ := sp_ok (by omega) hy
  have lx := (half_le (W := W) (k := k) (by omega)).2
  have ly := (half_le (W := H) (k := k) (by omega)).2
  have e0 : (2 : Int) ^ (k : Int).toNat = ((2 ^ k : Nat) : Int) := by simp
  have ex : (x : Int) * 2 ^ (k : Int).toNat = ((x * 2 ^ k : Nat) : Int) := by rw [e0]; simp
  have ey : (y : Int) * 2 ^ (k : Int).toNat = ((y * 2 ^ k : Nat) : Int) := by rw [e0]; simp
  have ex2 : ((x : Int) + 1) * 2 ^ (k : Int).toNat = (((x + 1) * 2 ^ k : Nat) : Int) := by rw [e0]; simp
  have ey2 : ((y : Int) + 1) * 2 ^ (k : Int).toNat = (((y + 1) * 2 ^ k : Nat) : Int) := by rw [e0]; simp
  have bx : (x + 1) * 2 ^ k ≤ 2047 := by rw [Nat.add_mul]; omega
  have by' : (y + 1) * 2 ^ k ≤ 2047 := by rw [Nat.add_mul]; omega
  refine fn_of_run0 false Try.func145 rfl hmix rfl fun w0 => ?_
  conv => whnf
  refine ⟨trivial, CallAt.pure (fun R' _ => sTCheck W H k x y hs hk hx hy R') ?_⟩
  conv => whnf
  refine iff_f (by decide) ?_
  conv => whnf
  refine ⟨trivial, RegAt.tail 25 hmix (by kernel_rfl) ?_⟩
  have eb : ((IntKind.i64.bits : Nat) : Int) = 64 := rfl
  conv => whnf
  refine ⟨?_, ?_⟩
  · repeat' apply And.intro
    all_goals first
      | trivial
      | omega
      | (rw [eb]; omega)
      | (rw [ex]; omega)
      | (rw [ey]; omega)
      | (rw [ex2]; omega)
      | (rw [ey2]; omega)
  conv => whnf
  refine ⟨trivial, fin_pure rfl ?_⟩
  rw [← spX1_Z (by omega), ← spX1_Z (by omega), ← ex, ← ey, ← ex2, ← ey2]
  rfl
end Go.Proofs.Ytlplbgbnojibmaa

/-
  down: way, the least, the greatest, the mean.
-/
namespace Go.Proofs.Ytlplbgbnojibmaa
open Go.RowKit
open Sy
set_option linter.unusedVariables false
set_option linter.unusedSimpArgs false
set_option maxRecDepth 100000
set_option maxHeartbeats 4000000

theorem take_ne {l : List Int} {k : Nat} (h1 : 1 ≤ k) (h2 : 0 < l.length) : l.take k ≠ [] := by
  intro e
  rcases List.take_eq_nil_iff.1 e with e | e
  · omega
  · rw [e] at h2; simp at h2
def sumL : List Int → Int := fun l => l.foldl (· + ·) 0
theorem sumL_snoc (l : List Int) (x : Int) : sumL (l ++ [x]) = sumL l + x := by simp [sumL]
theorem sumL_bd {l : List Int} (h : ∀ v ∈ l, MayV v) : ∀ k, k ≤ l.length → -2147483648 * (k : Int) ≤ sumL (l.take k) ∧ sumL (l.take k) ≤ 2147483647 * (k : Int) := by
  intro k
  induction k with
  | zero => intro _; simp [sumL]
  | succ k ih =>
    intro hk
    have := ih (by omega)
    have hv := h _ (List.getElem_mem (show k < l.length by omega))
    unfold MayV at hv
    rw [List.take_succ_eq_append_getElem (by omega), sumL_snoc]
    omega
def meanL (l : List Int) : Int := sumL l / (l.length : Int)
theorem mean_fin (s n : Int) (hn : 0 < n) : (s.tmod n < 0 → s.tdiv n - 1 = s / n) ∧ (¬ s.tmod n < 0 → s.tdiv n = s / n) := by
  have h1 := Int.mul_tdiv_add_tmod s n
  have h2 : -n < s.tmod n ∧ s.tmod n < n := ⟨Int.lt_tmod_of_pos s hn, Int.tmod_lt_of_pos s hn⟩
  constructor
  · intro h
    refine ((Int.ediv_emod_unique (r := s.tmod n + n) hn).2 ⟨?_, by omega, by omega⟩).1.symm
    rw [Int.mul_sub]
    omega
  · intro h
    exact ((Int.ediv_emod_unique (r := s.tmod n) hn).2 ⟨by omega, by omega, by omega⟩).1.symm
end Go.Proofs.Ytlplbgbnojibmaa

/-
  down.Level.
-/
namespace Go.Proofs.Ytlplbgbnojibmaa
open Go.RowKit
open Sy
set_option linter.unusedVariables false
set_option linter.unusedSimpArgs false
set_option maxRecDepth 100000
set_option maxHeartbeats 4000000

theorem GridAt.may {w : World} {gb W H : Nat} {f : Nat → Nat → Int} (h : GridAt w gb W H f) {x y : Nat} (hx : x < W) (hy : y < H) : MayV (f x y) := by
  obtain ⟨sb, c, p, q, hO⟩ := h
  have hI := tile_of hx
  have hJ := tile_of hy
  have := (hO.slabs _ _ hI.1 hJ.1).may (y % 16 * tw W (x / 16) + x % 16) (cell_lt hI.2 hJ.2)
  rwa [tileF_at (H := H) f hx] at this
theorem GridAt.size {w : World} {gb W H : Nat} {f : Nat → Nat → Int} (h : GridAt w gb W H f) : 1 ≤ W ∧ W ≤ 1024 ∧ 1 ≤ H ∧ H ≤ 1024 := by
  obtain ⟨sb, c, p, q, hO⟩ := h
  exact ⟨hO.w1, hO.w2, hO.h1, hO.h2⟩
theorem row_nil {R : HP} {h : Hl} (e : TypeId) (size : Nat) (s : R h) : sepL [rowH (.slice none 0 0) 0 e size []] R h := by
  refine ⟨fun _ => none, h, fun i => .inl rfl, ?_, ⟨by simp, .inl ⟨rfl, rfl, fun _ => rfl⟩⟩, s⟩
  funext i; simp [un]
theorem sub_drop1 {A B : HP} {l : List HP} {R : HP} {h : Hl} (s : sepL (A :: B :: l) R h) : ∃ h', (∀ i o, h' i = some o → h i = some o) ∧ sepL (A :: l) R h' := sub_tail (sepL_pull 1 s)
theorem sub_drop2 {A B C : HP} {l : List HP} {R : HP} {h : Hl} (s : sepL (A :: B :: C :: l) R h) : ∃ h', (∀ i o, h' i = some o → h i = some o) ∧ sepL (A :: l) R h' := by
  obtain ⟨h1, e1, s1⟩ := sub_drop1 s
  obtain ⟨h2, e2, s2⟩ := sub_drop1 s1
  exact ⟨h2, fun i o e => e1 i o (e2 i o e), s2⟩

theorem gv_vRows {f : Nat → Nat → Int} {W : Nat} : ∀ {H x y : Nat}, x < W → y < H → gv W (vRows f 0 W 0 H) x y = f x y
  | 0, x, y, _, h => by omega
  | H + 1, x, y, hx, hy => by
    unfold gv
    rw [vRows_succ, List.getD_eq_getElem?_getD]
    have hl : (vRows f 0 W 0 H).length = H * W := vRows_len f 0 W 0 H
    rcases Nat.lt_or_ge y H with c | c
    · rw [List.getElem?_append_left (by rw [hl, Nat.mul_comm H W]; exact idx_lt hx c), ← List.getD_eq_getElem?_getD]
      exact gv_vRows hx c
    · have : y = H := by omega
      subst this
      rw [List.getElem?_append_right (by rw [hl]; omega), hl, show y * W + x - y * W = x by omega]
      simp [vRow, hx]
/-- the values for which a cell of a level stands; the level -/
def spL (W H k : Nat) (f : Nat → Nat → Int) (x y : Nat) : List Int := vRows f (x * 2 ^ k) (spX1 W k x - x * 2 ^ k + 1) (y * 2 ^ k) (spX1 H k y - y * 2 ^ k + 1)
def lv (ag : List Int → Int) (W H k : Nat) (f : Nat → Nat → Int) (x y : Nat) : Int := ag (spL W H k f x y)
theorem spL_mem {W H k : Nat} {f : Nat → Nat → Int} {x y : Nat} (hW : 1 ≤ W) (hH : 1 ≤ H) (hx : x < halfN W k) (hy : y < halfN H k) {P : Int → Prop} (h : ∀ a b, a < W → b < H → P (f a b)) : ∀ v ∈ spL W H k f x y, P v := by
  intro v hv
  obtain ⟨sx1, sx2⟩ := sp_ok hW hx
  obtain ⟨sy1, sy2⟩ := sp_ok hH hy
  simp only [spL, vRows, vRow, List.mem_flatMap, List.mem_map, List.mem_range] at hv
  obtain ⟨b, hb, a, ha, rfl⟩ := hv
  exact h _ _ (by omega) (by omega)
theorem spL_len {W H k : Nat} {f : Nat → Nat → Int} {x y : Nat} (hW : W ≤ 1024) (hH : H ≤ 1024) (h1 : 1 ≤ W) (h2 : 1 ≤ H) (hx : x < halfN W k) (hy : y < halfN H k) : 0 < (spL W H k f x y).length ∧ (spL W H k f x y).length ≤ 1048576 := by
  obtain ⟨sx1, sx2⟩ := sp_ok h1 hx
  obtain ⟨sy1, sy2⟩ := sp_ok h2 hy
  unfold spL
  rw [vRows_len]
  exact ⟨Nat.mul_pos (by omega) (by omega), Nat.mul_le_mul (show _ ≤ 1024 by omega) (show _ ≤ 1024 by omega)⟩

end Go.Proofs.Ytlplbgbnojibmaa

/-
  grid.At.
-/
namespace Go.Proofs.Ytlplbgbnojibmaa
open Go.RowKit
open Sy
set_option linter.unusedVariables false
set_option linter.unusedSimpArgs false
set_option maxRecDepth 100000
set_option maxHeartbeats 4000000

theorem drewN_below (w : World) (m : Nat) : Below w.heap.size w (w.drewN m) := by
  exact bel_drewN (Below.refl w.heap.size w) m
theorem sat_ext {w w' : World} (s : Sat (fun g => g = fun i => w.heap[i]?) w') {i : Nat} {o} (h : w.heap[i]? = some o) : w'.heap[i]? = some o := by
  obtain ⟨g, g1, rfl⟩ := s
  exact g1 i o h
theorem gAt_p {R : HP} {gb W H x y : Nat} {f : Nat → Nat → Int} (hR : ∀ w, Sat R w → GridAt w gb W H f) (hx : x < W) (hy : y < H) :
    PureR Try.prog R 80 [.pointer (some ⟨gb, 0, none⟩), cellV x y] (.tuple #[.int .i64 (f x y), .int .i64 0]) := by
  refine PureR.of_below fun w s => ?_
  obtain ⟨sb, c, p, q, hO⟩ := hR w s
  refine PureR.below ?_
  have hO' : ∀ w', Sat (fun g => g = fun i => w.heap[i]?) w' → GridOpen w' gb W H f sb c p q := fun w' s' => hO.agree fun i hi => by
    obtain ⟨t, cs, hb⟩ := hO.there hi
    have hb' : w.heap[i]? = some (.cells cs t (0, 0)) := hb
    rw [hb']; exact sat_ext s' hb'
  have w1 := hO.w1; have w2 := hO.w2; have h1 := hO.h1; have h2 := hO.h2
  have hI := tile_of hx
  have hJ := tile_of hy
  have hk := idx_lt hI.1 hJ.1
  have hT : tiles W ≤ 64 := by unfold tiles; omega
  refine fn_of_run0 false Try.func80 rfl hmix rfl fun w0 => ?_
  conv => whnf
  refine ⟨trivial, CallAt.pure (fun R' _ => sSpot x y R') ?_⟩
  conv => whnf
  refine ⟨trivial, CallAt.pure (v := .int .i64 0) (fun R' hR' => PureR.of_below fun w s => ?_) ?_⟩
  · have := gcheck_any gb W H _ _ x y x y w (hO' w (hR' w s)).head (by omega) (by omega) (by omega) (by omega)
    rwa [show withinZ (x : Int) y x y W H = 0 from within_of ⟨by omega, by omega, by omega, by omega⟩ (by omega) (by omega) (by omega) (by omega) (by omega) (by omega)] at this
  conv => whnf
  refine iff_f (by decide) ?_
  conv => whnf
  refine ⟨trivial, RegAt.quiet hmix (by kernel_rfl) ?_⟩
  conv => whnf
  refine ⟨trivial, CallQ.pure (v := .pointer (some ⟨p (y / 16 * tiles W + x / 16), 0, none⟩)) (fun R' hR' => PureR.of_below fun w s => ?_) ?_⟩
  · have hO := hO' w (hR' w s)
    obtain ⟨cur, hc, hl⟩ := hO.list
    refine (gslab_at gb sb _ c (tiles W) x y _ (p (y / 16 * tiles W + x / 16)) _ _ #[] w hO.head ?_ rfl hk hT (by omega) (by omega)).mono ?_
    · exact (hc.cell _).trans (hl _ hk)
    · rintro e w' ⟨rfl, m, rfl⟩
      exact ⟨rfl, drewN_below w m⟩
  conv => whnf
  refine ⟨trivial, CallQ.pure (fun R' hR' => PureR.of_below fun w s => inner_any x y w) ?_⟩
  conv => whnf
  refine ⟨trivial, CallQ.pure (fun R' hR' => PureR.of_below fun w s => sAt_ok ((hO' w (hR' w s)).slabs _ _ hI.1 hJ.1) _ _ hI.2 hJ.2) ?_⟩
  conv => whnf
  refine ⟨trivial, ?_⟩
  conv => whnf
  refine ⟨trivial, fin_pure rfl ?_⟩
  rw [tileF_at (H := H) f hx]
  rfl
end Go.Proofs.Ytlplbgbnojibmaa

/-
  No grid has levels.
-/
namespace Go.Proofs.Ytlplbgbnojibmaa
open Go.RowKit
open Sy
set_option linter.unusedVariables false
set_option linter.unusedSimpArgs false
set_option maxRecDepth 100000
set_option maxHeartbeats 4000000

theorem sSizeNil (R : HP) : PureR Try.prog R 69 [.pointer none] (.tuple #[.int .i64 0, .int .i64 0]) := by
  refine fn_of_run0 false Try.func69 rfl hmix rfl fun w0 => ?_
  conv => whnf
  exact ⟨trivial, fin_pure rfl rfl⟩
theorem mean_may {l : List Int} (h0 : l ≠ []) (h : ∀ v ∈ l, MayV v) : MayV (meanL l) := by
  have hs := sumL_bd h l.length (Nat.le_refl _)
  rw [List.take_length] at hs
  have hl : (0 : Int) < l.length := by have := List.length_pos_iff.2 h0; omega
  unfold meanL
  exact ⟨(Int.le_ediv_iff_mul_le hl).2 hs.1, Int.le_of_lt_add_one ((Int.ediv_lt_iff_lt_mul hl).2 (by rw [Int.add_mul]; omega))⟩
end Go.Proofs.Ytlplbgbnojibmaa

