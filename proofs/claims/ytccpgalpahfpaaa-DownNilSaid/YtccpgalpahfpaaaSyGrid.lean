/-
  Grids as a part of the heap; what the functions of a grid keep to, in these words.
-/
import Derived.Test.YtccpgalpahfpaaaSyOwn
import Derived.Test.YtccpgalpahfpaaaMayV
namespace Go.Proofs.Ytccpgalpahfpaaa
open Go.RowKit
open Sy
set_option linter.unusedVariables false
set_option linter.unusedSimpArgs false

theorem hmix : Try.prog.follows .mixedOrders = true := by kernel_rfl

/-- the blocks of a grid -/
def foot (gb sb T : Nat) (p : Nat → Nat) (q : Nat → Option Nat) (i : Nat) : Prop := i = gb ∨ i = sb ∨ ∃ k, k < T ∧ (i = p k ∨ q k = some i)
noncomputable def cutH (w : World) (F : Nat → Prop) : Hl := by
  classical
  exact fun i => if F i then w.heap[i]? else none
theorem cutH_in {w : World} {F : Nat → Prop} {i : Nat} (h : F i) : cutH w F i = w.heap[i]? := by unfold cutH; rw [if_pos h]
theorem cutH_out {w : World} {F : Nat → Prop} {i : Nat} (h : ¬ F i) : cutH w F i = none := by unfold cutH; rw [if_neg h]
theorem cutH_sub (w : World) (F : Nat → Prop) : Sub (cutH w F) w := by
  intro i o e
  by_cases c : F i
  · rwa [cutH_in c] at e
  · rw [cutH_out c] at e; cases e
/-- a part of the heap that is just a grid -/
def gridH (gb W H : Nat) (f : Nat → Nat → Int) : HP := fun h => ∃ w sb c p q, GridOpen w gb W H f sb c p q ∧ h = cutH w (foot gb sb (tiles W * tiles H) p q)
def GridAt (w : World) (gb W H : Nat) (f : Nat → Nat → Int) : Prop := ∃ sb c p q, GridOpen w gb W H f sb c p q

theorem SlabIs.agree {w w' : World} {b sw sh : Nat} {f : Nat → Int} {q : Option Nat} (h : SlabIs w b sw sh f q) (hb : w'.heap[b]? = w.heap[b]?) (hq : ∀ g, q = some g → w'.heap[g]? = w.heap[g]?) : SlabIs w' b sw sh f q := by
  obtain ⟨a1, a2, a3, a4, a5, v, hB, hL⟩ := h
  refine ⟨a1, a2, a3, a4, a5, v, hb.trans hB, ?_⟩
  cases q with
  | none => exact hL
  | some g => exact ⟨hL.1, (hq g rfl).trans hL.2⟩
theorem GridOpen.slab_k {w : World} {gb W H sb c : Nat} {f : Nat → Nat → Int} {p : Nat → Nat} {q : Nat → Option Nat} (h : GridOpen w gb W H f sb c p q) {k : Nat} (hk : k < tiles W * tiles H) : ∃ i j, SlabIs w (p k) (tw W i) (tw H j) (tileF f W i j) (q k) := by
  have hW := tiles_pos h.w1
  have e : k / tiles W * tiles W + k % tiles W = k := by rw [Nat.mul_comm]; exact Nat.div_add_mod k (tiles W)
  have := h.slabs (k % tiles W) (k / tiles W) (Nat.mod_lt _ hW) (Nat.div_lt_of_lt_mul hk)
  rw [e] at this
  exact ⟨_, _, this⟩
theorem GridOpen.there {w : World} {gb W H sb c : Nat} {f : Nat → Nat → Int} {p : Nat → Nat} {q : Nat → Option Nat} (h : GridOpen w gb W H f sb c p q) {i : Nat} (hi : foot gb sb (tiles W * tiles H) p q i) : ∃ t cs, Blk w i t cs := by
  rcases hi with rfl | rfl | ⟨k, hk, hi⟩
  · exact ⟨_, _, h.head⟩
  · obtain ⟨cur, hc, _⟩ := h.list
    exact ⟨_, _, hc⟩
  · obtain ⟨x, y, hs⟩ := h.slab_k hk
    rcases hi with rfl | hi
    · obtain ⟨cs, hb⟩ := hs.blk
      exact ⟨_, _, hb⟩
    · obtain ⟨cs, hb⟩ := hs.qblk hi
      exact ⟨_, _, hb⟩
theorem GridOpen.agree {w w' : World} {gb W H sb c : Nat} {f : Nat → Nat → Int} {p : Nat → Nat} {q : Nat → Option Nat} (h : GridOpen w gb W H f sb c p q) (ha : ∀ i, foot gb sb (tiles W * tiles H) p q i → w'.heap[i]? = w.heap[i]?) : GridOpen w' gb W H f sb c p q := by
  obtain ⟨cur, hc, hl⟩ := h.list
  refine ⟨h.w1, h.w2, h.h1, h.h2, (ha gb (.inl rfl)).trans h.head, ⟨cur, (ha sb (.inr (.inl rfl))).trans hc, hl⟩, fun i j hi hj => ?_, h.inj, h.inq⟩
  have hk := idx_lt hi hj
  exact (h.slabs i j hi hj).agree (ha _ (.inr (.inr ⟨_, hk, .inl rfl⟩))) fun g hg => ha _ (.inr (.inr ⟨_, hk, .inr hg⟩))

theorem gridH_open {gb W H : Nat} {f : Nat → Nat → Int} {h : Hl} {w : World} (g : gridH gb W H f h) (s : Sub h w) : ∃ sb c p q, GridOpen w gb W H f sb c p q ∧ h = cutH w (foot gb sb (tiles W * tiles H) p q) := by
  obtain ⟨w0, sb, c, p, q, hO, rfl⟩ := g
  have ha : ∀ i, foot gb sb (tiles W * tiles H) p q i → w.heap[i]? = w0.heap[i]? := fun i hi => by
    obtain ⟨t, cs, hb⟩ := hO.there hi
    have hb' : w0.heap[i]? = some (.cells cs t (0, 0)) := hb
    rw [hb']
    exact s i _ (by rw [cutH_in hi]; exact hb')
  refine ⟨sb, c, p, q, hO.agree ha, ?_⟩
  funext i
  by_cases c : foot gb sb (tiles W * tiles H) p q i
  · rw [cutH_in c, cutH_in c, ha i c]
  · rw [cutH_out c, cutH_out c]
theorem gridAt_of {gb W H : Nat} {f : Nat → Nat → Int} {w : World} (s : Sat (gridH gb W H f) w) : GridAt w gb W H f := by
  obtain ⟨h, hs, g⟩ := s
  obtain ⟨sb, c, p, q, hO, _⟩ := gridH_open g hs
  exact ⟨sb, c, p, q, hO⟩

section
variable {R : HP} {gb W H : Nat} {f : Nat → Nat → Int}
theorem gSize_p (hR : ∀ w, Sat R w → GridAt w gb W H f) : PureR Try.prog R 39 [.pointer (some ⟨gb, 0, none⟩)] (.tuple #[.int .i64 W, .int .i64 H]) := by
  refine PureR.of_below fun w s => ?_
  obtain ⟨sb, c, p, q, hO⟩ := hR w s
  exact gSize_any gb W H _ _ w hO.head
theorem gAll_p (hR : ∀ w, Sat R w → GridAt w gb W H f) : PureR Try.prog R 19 [.pointer (some ⟨gb, 0, none⟩)] (rectV 0 0 ((W : Int) - 1) ((H : Int) - 1)) := by
  refine PureR.of_below fun w s => ?_
  obtain ⟨sb, c, p, q, hO⟩ := hR w s
  have := hO.w1; have := hO.w2; have := hO.h1; have := hO.h2
  exact gAll_any gb W H _ _ w hO.head (by omega) (by omega) (by omega) (by omega)
theorem gValues_f (hR : ∀ w, Sat R w → GridAt w gb W H f) (x0 y0 x1 y1 : Nat) (r2 : x0 ≤ x1) (r3 : x1 < W) (r5 : y0 ≤ y1) (r6 : y1 < H) :
    FnR Try.prog R 29 [.pointer (some ⟨gb, 0, none⟩), rectV x0 y0 x1 y1] [] fun r hs => ∃ A c, r = .tuple #[.slice A (vRows f x0 (x1 - x0 + 1) y0 (y1 - y0 + 1)).length c, .int .i64 0] ∧
      hs = [rowH (.slice A (vRows f x0 (x1 - x0 + 1) y0 (y1 - y0 + 1)).length c) (vRows f x0 (x1 - x0 + 1) y0 (y1 - y0 + 1)).length 2 1 (ints (vRows f x0 (x1 - x0 + 1) y0 (y1 - y0 + 1)))] := by
  intro w s
  obtain ⟨sb, c, p, q, hO⟩ := hR w s
  refine (gValues_ok (F := fun _ => True) ⟨sb, c, p, q, hO, fun _ _ => ⟨trivial, fun _ _ => trivial⟩⟩ x0 y0 x1 y1 r2 r3 r5 r6).mono ?_
  rintro e w' ⟨A, c, rfl, hown, hb⟩
  exact ⟨_, _, rfl, ⟨A, c, rfl, rfl⟩, sat_row s hb hown, .of_below hb⟩
theorem gNew_f (v : Int) (h1 : 1 ≤ W) (h2 : W ≤ 1024) (h3 : 1 ≤ H) (h4 : H ≤ 1024) (hv : MayV v) :
    FnR Try.prog R 37 [.int .i64 W, .int .i64 H, .int .i64 v] [] fun r hs => ∃ gb, r = .tuple #[.pointer (some ⟨gb, 0, none⟩), .int .i64 0] ∧ hs = [gridH gb W H fun _ _ => v] := by
  rintro w ⟨h2', s2, hR⟩
  refine (gNew_ok W H v w h1 h2 h3 h4 hv).mono ?_
  rintro e w' ⟨gb, rfl, hgb, ⟨sb, c, p, q, hsb, hO, hF⟩, hb⟩
  refine ⟨_, _, rfl, ⟨gb, rfl, rfl⟩, ⟨_, (cutH_sub w' (foot gb sb (tiles W * tiles H) p q)).un (s2.below hb), _, h2', fun i => ?_, rfl, ⟨w', sb, c, p, q, hO, rfl⟩, hR⟩, .of_below hb⟩
  by_cases c0 : foot gb sb (tiles W * tiles H) p q i
  · right
    refine s2.none ?_
    rcases c0 with rfl | rfl | ⟨k, hk, rfl | hq⟩
    · exact hgb
    · exact hsb
    · exact (hF k hk).1.1
    · exact ((hF k hk).2 _ hq).1
  · exact .inl (cutH_out c0)
theorem gFill_f (r : Rc) (v : Int) (r1 : 0 ≤ r.x0) (r2 : r.x0 ≤ r.x1) (r3 : r.x1 < W) (r4 : 0 ≤ r.y0) (r5 : r.y0 ≤ r.y1) (r6 : r.y1 < H) (hv : MayV v) :
    FnR Try.prog R 18 [.pointer (some ⟨gb, 0, none⟩), rectV r.x0 r.y0 r.x1 r.y1, .int .i64 v] [gridH gb W H f] fun x hs => x = .int .i64 0 ∧ hs = [gridH gb W H (fillG r v f)] := by
  rintro w ⟨h, hsub, h1, h2, d, rfl, hg, hR⟩
  obtain ⟨sb, c, p, q, hO, rfl⟩ := gridH_open hg hsub.left
  let F : Nat → Prop := fun i => ∃ k, k < tiles W * tiles H ∧ (i = p k ∨ q k = some i)
  refine (gFill_ok (F := F) ⟨sb, c, p, q, hO, fun k hk => ⟨⟨k, hk, .inl rfl⟩, fun g hg => ⟨k, hk, .inr hg⟩⟩⟩ r v r1 r2 r3 r4 r5 r6 hv).mono ?_
  rintro e w' ⟨rfl, ⟨sb', c', p', q', hO', hF'⟩, hT⟩
  have hne : ∀ i, F i → i ≠ gb ∧ i ≠ sb := by
    rintro i ⟨k, hk, hi⟩
    obtain ⟨x, y, hs⟩ := hO.slab_k hk
    obtain ⟨cur, hc, _⟩ := hO.list
    rcases hi with rfl | hi
    · obtain ⟨cs, hb⟩ := hs.blk
      exact ⟨hb.ne_ hO.head (by decide), hb.ne_ hc (by decide)⟩
    · obtain ⟨cs, hb⟩ := hs.qblk hi
      exact ⟨hb.ne_ hO.head (by decide), hb.ne_ hc (by decide)⟩
  have hsb : sb' = sb := by
    have e1 : Blk w' gb _ _ := hO.head.touch hT fun c0 => (hne gb c0).1 rfl
    have e1' : w'.heap[gb]? = _ := e1
    have e2 : w'.heap[gb]? = _ := hO'.head
    rw [e1'] at e2
    injection e2 with e2
    injection e2 with e2
    have e3 := congrArg (fun a : Array Value => a[3]?) e2
    simp at e3
    exact e3.1.symm
  subst hsb
  have s2 : Sub h2 w' := fun i o e => by
    have hi := hsub.right d i o e
    have hlt := (Array.getElem?_eq_some_iff.1 hi).1
    rw [hT.block i hlt ?_]
    · exact hi
    · intro c0
      have hf : foot gb sb' (tiles W * tiles H) p q i := .inr (.inr c0)
      rcases d i with x | x
      · rw [cutH_in hf, hi] at x; cases x
      · rw [x] at e; cases e
  refine ⟨_, _, rfl, ⟨rfl, rfl⟩, ⟨_, (cutH_sub w' (foot gb sb' (tiles W * tiles H) p' q')).un s2, _, h2, fun i => ?_, rfl, ⟨w', sb', c', p', q', hO', rfl⟩, hR⟩, ⟨hT.os, hT.tape, hT.output, hT.size⟩⟩
  by_cases c0 : foot gb sb' (tiles W * tiles H) p' q' i
  · right
    have old : foot gb sb' (tiles W * tiles H) p q i → h2 i = none := fun hf => by
      rcases d i with x | x
      · rw [cutH_in hf] at x
        obtain ⟨t, cs, hb⟩ := hO.there hf
        have hb' : w.heap[i]? = _ := hb
        rw [hb'] at x; cases x
      · exact x
    have new : F i ∨ (w.heap.size ≤ i ∧ i < w'.heap.size) → h2 i = none := fun hf => by
      rcases hf with hf | hf
      · exact old (.inr (.inr hf))
      · exact (hsub.right d).none hf.1
    rcases c0 with rfl | rfl | ⟨k, hk, rfl | hq⟩
    · exact old (.inl rfl)
    · exact old (.inr (.inl rfl))
    · exact new (hF' k hk).1
    · exact new ((hF' k hk).2 _ hq)
  · exact .inl (cutH_out c0)
end
end Go.Proofs.Ytccpgalpahfpaaa
