/-
  Texts of the proofs, one behind the other: RefLvl, DownIs, RLevel, MinMax, Land2, GridSame, DownLevels, DownRow, DownLaw.
-/
import Derived.Test.YtojlgfkjnkjcmaaGreatDoorPartI
import Derived.Test.YtojlgfkjnkjcmaaGreatDoorPartA
import Derived.Test.YtojlgfkjnkjcmaaGreatDoorPartZ
/-
  ref16.Span, ref18.mean, ref15.Sizes, law09.Is.
-/
namespace Go.Proofs.YtojlgfkjnkjcmaaGreatDoor
open Go.RowKit
open Sy
set_option linter.unusedVariables false
set_option linter.unusedSimpArgs false
set_option maxRecDepth 100000
set_option maxHeartbeats 4000000

theorem of_dt {p : Prop} [Decidable p] (h : decide p = true) : p := of_decide_eq_true h
theorem of_df {p : Prop} [Decidable p] (h : decide p = false) : ¬ p := of_decide_eq_false h
end Go.Proofs.YtojlgfkjnkjcmaaGreatDoor

/-
  law09.Is; down.Level's refusals.
-/
namespace Go.Proofs.YtojlgfkjnkjcmaaGreatDoor
open Go.RowKit
open Sy
set_option linter.unusedVariables false
set_option linter.unusedSimpArgs false
set_option maxRecDepth 100000
set_option maxHeartbeats 4000000

theorem gValAll {R : HP} {gb W H : Nat} {f : Nat → Nat → Int} {l : List Int} (hR : ∀ w, Sat R w → GridAt w gb W H f) (hl : vRows f 0 W 0 H = l) :
    FnR Tryz.prog R 70 [.pointer (some ⟨gb, 0, none⟩), rectV 0 0 ((W : Int) - 1) ((H : Int) - 1)] [] fun r hs => ∃ A c, r = .tuple #[.slice A l.length c, .int .i64 0] ∧
      hs = [rowH (.slice A l.length c) l.length 2 1 (ints l)] := by
  refine FnR.of_sat fun w hs => ?_
  obtain ⟨w1, w2, h1, h2⟩ := (hR w hs).size
  have := gValues_f hR 0 0 (W - 1) (H - 1) (by omega) (by omega) (by omega) (by omega)
  rw [show W - 1 - 0 + 1 = W by omega, show H - 1 - 0 + 1 = H by omega, hl, show ((W - 1 : Nat) : Int) = (W : Int) - 1 by omega, show ((H - 1 : Nat) : Int) = (H : Int) - 1 by omega] at this
  exact this
end Go.Proofs.YtojlgfkjnkjcmaaGreatDoor

/-
  ref18.Level.
-/
namespace Go.Proofs.YtojlgfkjnkjcmaaGreatDoor
open Go.RowKit
open Sy
set_option linter.unusedVariables false
set_option linter.unusedSimpArgs false
set_option maxRecDepth 100000
set_option maxHeartbeats 4000000

theorem sz_read {W H g c L k : Nat} {w : World} (s : Sat (rowH (.slice (some ⟨g, 0, none⟩) L c) L 52 2 (cel (szs W H L))) w) (hk : k < L) (hW : 1 ≤ W) (hH : 1 ≤ H) :
    w.cell? ⟨g, k * 2, none⟩ = some (.int .i64 (halfN W k : Nat)) ∧ w.cell? ⟨g, k * 2 + 1, none⟩ = some (.int .i64 (halfN H k : Nat)) := by
  obtain ⟨g', e, hr⟩ := rowH_at s (by omega)
  injection e with e
  injection e with e
  subst e
  have := cel_at (szs W H L) k (by simpa using hk)
  rw [szs_at] at this
  simp only [halfZ_N W k hW, halfZ_N H k hH] at this
  exact ⟨hr _ _ this.1, hr _ _ this.2⟩
def agOf (how : Int) : List Int → Int := if how = 0 then mnL else if how = 1 then mxL else meanL
end Go.Proofs.YtojlgfkjnkjcmaaGreatDoor

/-
  The least and the greatest of a list: they are in it, and none is below or above.
-/
namespace Go.Proofs.YtojlgfkjnkjcmaaGreatDoor
open Go.RowKit
open Sy
set_option linter.unusedVariables false
set_option linter.unusedSimpArgs false
set_option maxRecDepth 100000
set_option maxHeartbeats 4000000

theorem foldl_min_mem : ∀ (l : List Int) (a : Int), l.foldl min a = a ∨ l.foldl min a ∈ l
  | [], a => .inl rfl
  | b :: l, a => by
    simp only [List.foldl_cons, List.mem_cons]
    rcases foldl_min_mem l (min a b) with h | h
    · rw [h]
      rcases (show min a b = a ∨ min a b = b by omega) with e | e
      · exact .inl e
      · exact .inr (.inl e)
    · exact .inr (.inr h)
theorem foldl_min_le : ∀ (l : List Int) (a : Int), l.foldl min a ≤ a ∧ ∀ v ∈ l, l.foldl min a ≤ v
  | [], a => ⟨Int.le_refl _, by simp⟩
  | b :: l, a => by
    simp only [List.foldl_cons, List.mem_cons]
    obtain ⟨h1, h2⟩ := foldl_min_le l (min a b)
    refine ⟨by omega, fun v hv => ?_⟩
    rcases hv with rfl | hv
    · omega
    · exact h2 v hv
theorem foldl_max_mem : ∀ (l : List Int) (a : Int), l.foldl max a = a ∨ l.foldl max a ∈ l
  | [], a => .inl rfl
  | b :: l, a => by
    simp only [List.foldl_cons, List.mem_cons]
    rcases foldl_max_mem l (max a b) with h | h
    · rw [h]
      rcases (show max a b = a ∨ max a b = b by omega) with e | e
      · exact .inl e
      · exact .inr (.inl e)
    · exact .inr (.inr h)
theorem foldl_max_le : ∀ (l : List Int) (a : Int), a ≤ l.foldl max a ∧ ∀ v ∈ l, v ≤ l.foldl max a
  | [], a => ⟨Int.le_refl _, by simp⟩
  | b :: l, a => by
    simp only [List.foldl_cons, List.mem_cons]
    obtain ⟨h1, h2⟩ := foldl_max_le l (max a b)
    refine ⟨by omega, fun v hv => ?_⟩
    rcases hv with rfl | hv
    · omega
    · exact h2 v hv
theorem mnL_mem : ∀ {l : List Int}, l ≠ [] → mnL l ∈ l
  | [], h => absurd rfl h
  | a :: l, _ => by
    unfold mnL
    show l.foldl min a ∈ a :: l
    rcases foldl_min_mem l a with h | h
    · rw [h]; exact List.mem_cons_self
    · exact List.mem_cons_of_mem _ h
theorem mxL_mem : ∀ {l : List Int}, l ≠ [] → mxL l ∈ l
  | [], h => absurd rfl h
  | a :: l, _ => by
    unfold mxL
    show l.foldl max a ∈ a :: l
    rcases foldl_max_mem l a with h | h
    · rw [h]; exact List.mem_cons_self
    · exact List.mem_cons_of_mem _ h
theorem mnL_le : ∀ {l : List Int} {v : Int}, v ∈ l → mnL l ≤ v
  | a :: l, v, h => by
    unfold mnL
    obtain ⟨h1, h2⟩ := foldl_min_le l a
    rcases List.mem_cons.1 h with rfl | h
    · exact h1
    · exact h2 v h
theorem le_mxL : ∀ {l : List Int} {v : Int}, v ∈ l → v ≤ mxL l
  | a :: l, v, h => by
    unfold mxL
    obtain ⟨h1, h2⟩ := foldl_max_le l a
    rcases List.mem_cons.1 h with rfl | h
    · exact h1
    · exact h2 v h
theorem mnL_eq {l : List Int} {m : Int} (h : m ∈ l) (hl : ∀ v ∈ l, m ≤ v) : mnL l = m := by
  have h1 := mnL_le h
  have h2 := hl _ (mnL_mem (List.ne_nil_of_mem h))
  omega
theorem mxL_eq {l : List Int} {m : Int} (h : m ∈ l) (hl : ∀ v ∈ l, v ≤ m) : mxL l = m := by
  have h1 := le_mxL h
  have h2 := hl _ (mxL_mem (List.ne_nil_of_mem h))
  omega
theorem mn_may {l : List Int} (h0 : l ≠ []) (h : ∀ v ∈ l, MayV v) : MayV (mnL l) := h _ (mnL_mem h0)
theorem mx_may {l : List Int} (h0 : l ≠ []) (h : ∀ v ∈ l, MayV v) : MayV (mxL l) := h _ (mxL_mem h0)
/-- which cells of the grid a cell of a level stands for -/
theorem mem_spL {W H k x y : Nat} {f : Nat → Nat → Int} (hW : 1 ≤ W) (hH : 1 ≤ H) (hx : x < halfN W k) (hy : y < halfN H k) (v : Int) : v ∈ spL W H k f x y ↔ ∃ a b, a < W ∧ b < H ∧ a / 2 ^ k = x ∧ b / 2 ^ k = y ∧ f a b = v := by
  obtain ⟨sx1, sx2⟩ := sp_ok hW hx
  obtain ⟨sy1, sy2⟩ := sp_ok hH hy
  have hq := pow_pos' k
  unfold spX1 at sx1 sx2 sy1 sy2
  simp only [spL, spX1, vRows, vRow, List.mem_flatMap, List.mem_map, List.mem_range]
  generalize 2 ^ k = q at *
  constructor
  · rintro ⟨j, hj, i, hi, rfl⟩
    refine ⟨x * q + i, y * q + j, by omega, by omega, ?_, ?_, rfl⟩
    · rw [Nat.mul_comm, Nat.mul_add_div hq, Nat.div_eq_of_lt]
      · omega
      · rw [Nat.add_mul] at hi; omega
    · rw [Nat.mul_comm, Nat.mul_add_div hq, Nat.div_eq_of_lt]
      · omega
      · rw [Nat.add_mul] at hj; omega
  · rintro ⟨a, b, ha, hb, rfl, rfl, rfl⟩
    have e1 : a / q * q + a % q = a := by rw [Nat.mul_comm]; exact Nat.div_add_mod a q
    have e2 : b / q * q + b % q = b := by rw [Nat.mul_comm]; exact Nat.div_add_mod b q
    have m1 : a % q < q := Nat.mod_lt _ hq
    have m2 : b % q < q := Nat.mod_lt _ hq
    refine ⟨b % q, ?_, a % q, ?_, by rw [e1, e2]⟩
    · rw [Nat.add_mul]; omega
    · rw [Nat.add_mul]; omega
end Go.Proofs.YtojlgfkjnkjcmaaGreatDoor

/-
  law09.Land (as in XPilot); ref18.Level.
-/
namespace Go.Proofs.YtojlgfkjnkjcmaaGreatDoor
open Go.RowKit
open Sy
set_option linter.unusedVariables false
set_option linter.unusedSimpArgs false
set_option maxRecDepth 100000
set_option maxHeartbeats 4000000

def LandOk (W H most : Int) (n : Nat) (l : List Int) : Prop := 1 ≤ W ∧ 1 ≤ H ∧ W ≤ most ∧ H ≤ most ∧ W * H ≤ most ∧ W * H = n ∧ ∀ v ∈ l, MayV v
instance (W H most : Int) (n : Nat) (l : List Int) : Decidable (LandOk W H most n l) := by unfold LandOk MayV; infer_instance

theorem sLand {R : HP} (W H most : Int) {A : Option Addr} {n c : Nat} {l : List Int} (ha : Vs R A n l) (hm : most ≤ 4096) (hn : n ≤ 9223372036854775807) :
    PureR Tryz.prog R 7 [.int .i64 W, .int .i64 H, .slice A n c, .int .i64 most]
      (if LandOk W H most n l then .tuple #[.agg #[.int .i64 W, .int .i64 H, .slice A n c], .bool true] else .tuple #[.agg #[.int .i64 0, .int .i64 0, .slice none 0 0], .bool false]) := by
  refine PureR.of_sat fun w hs => ?_
  obtain ⟨hl, sa⟩ := ha.spot hs
  have no : ∀ {r : Value}, r = .tuple #[.agg #[.int .i64 0, .int .i64 0, .slice none 0 0], .bool false] → ¬ LandOk W H most n l → r = (if LandOk W H most n l then .tuple #[.agg #[.int .i64 W, .int .i64 H, .slice A n c], .bool true] else .tuple #[.agg #[.int .i64 0, .int .i64 0, .slice none 0 0], .bool false]) := fun e h => by rw [if_neg h]; exact e
  refine fn_of_run0 false Tryz.func7 rfl hmix rfl fun w0 => ?_
  conv => whnf
  refine ⟨fun h1 => ?_, fun h1 => ?_⟩
  rotate_left
  · conv => whnf
    exact ⟨trivial, fin_pure rfl (no rfl (by rintro ⟨a, _⟩; simp at h1; omega))⟩
  have g1 := of_decide_eq_false h1
  conv => whnf
  refine ⟨fun h2 => ?_, fun h2 => ?_⟩
  rotate_left
  · conv => whnf
    exact ⟨trivial, fin_pure rfl (no rfl (by rintro ⟨_, a, _⟩; simp at h2; omega))⟩
  have g2 := of_decide_eq_false h2
  conv => whnf
  refine ⟨fun h3 => ?_, fun h3 => ?_⟩
  rotate_left
  · conv => whnf
    exact ⟨trivial, fin_pure rfl (no rfl (by rintro ⟨_, _, a, _⟩; simp at h3; omega))⟩
  have g3 := of_decide_eq_false h3
  conv => whnf
  refine ⟨fun h4 => ?_, fun h4 => ?_⟩
  rotate_left
  · conv => whnf
    exact ⟨trivial, fin_pure rfl (no rfl (by rintro ⟨_, _, _, a, _⟩; simp at h4; omega))⟩
  have g4 := of_decide_eq_false h4
  have hR0 : 0 ≤ W * H := Int.mul_nonneg (by omega) (by omega)
  have hRp : 0 < W * H := Int.mul_pos (by omega) (by omega)
  have hR1 : rng .i64 (W * H) := by
    have a1 : W * H ≤ 4096 * 4096 := Int.mul_le_mul (by omega) (by omega) (by omega) (by omega)
    exact ⟨by omega, by omega⟩
  conv => whnf
  refine ⟨fun h5 => ?_, fun h5 => ?_⟩
  rotate_left
  · conv => whnf
    exact ⟨⟨trivial, hR1⟩, fin_pure rfl (no rfl (by rintro ⟨_, _, _, _, a, _⟩; simp at h5; omega))⟩
  have g5 := of_decide_eq_false h5
  conv => whnf
  refine ⟨fun h6 => ?_, fun h6 => ?_⟩
  · conv => whnf
    exact ⟨⟨⟨trivial, hR1⟩, hR1⟩, fin_pure rfl (no rfl (by rintro ⟨_, _, _, _, _, a, _⟩; simp at h6; omega))⟩
  have g6 : (n : Int) = W * H := by simpa using h6
  rcases sa with sa | ⟨b, off, rfl, sa⟩
  · omega
  conv => whnf
  refine ⟨⟨⟨trivial, hR1⟩, hR1⟩, ?_⟩
  refine LoopAt.keep (α := Nat) [0, 1, 2, 8] (fun k => [(10, .v (.int .i64 (k : Int)))]) (fun k => k ≤ n ∧ ∀ v ∈ l.take k, MayV v) (fun k => n - k) 0 ⟨Nat.zero_le _, by simp⟩ rfl ⟨⟨rfl, rfl⟩, trivial⟩ ⟨⟨rfl, rfl⟩, ⟨rfl, rfl⟩, ⟨rfl, rfl⟩, ⟨rfl, rfl⟩, trivial⟩ ⟨⟨rfl, rfl, rfl, rfl⟩, trivial⟩ ?_
  rintro k ⟨hk, hmay⟩
  conv => whnf
  refine ⟨fun h7 => ?_, fun h7 => ?_⟩
  · have g7 : k < n := by simpa using h7
    conv => whnf
    refine ⟨⟨trivial, by omega⟩, LoadAt.cell (.int .i64 (l[k]'(by omega))) rfl rfl (fun w hw => ?_) ?_⟩
    · exact sa w hw k (by omega)
    conv => whnf
    refine ⟨trivial, CallAt.pure (fun R' hR' => sMay _ R') ?_⟩
    conv => whnf
    refine ⟨fun h8 => ?_, fun h8 => ?_⟩
    · conv => whnf
      have g8 : ¬ MayV (l[k]'(by omega)) := by simpa using h8
      exact ⟨trivial, fin_pure rfl (no rfl (by rintro ⟨_, _, _, _, _, _, a⟩; exact g8 (a _ (List.getElem_mem _))))⟩
    · have g8 : MayV (l[k]'(by omega)) := by simpa using h8
      conv => whnf
      refine ⟨⟨trivial, by unfold rng; omega⟩, Next.keep (k + 1) ⟨by omega, ?_⟩ (by omega) ⟨⟨rfl, rfl⟩, trivial⟩ ⟨⟨rfl, rfl⟩, ⟨rfl, rfl⟩, ⟨rfl, rfl⟩, ⟨rfl, rfl⟩, trivial⟩ ⟨⟨rfl, rfl, rfl, rfl⟩, trivial⟩ rfl rfl rfl⟩
      rw [List.take_succ_eq_append_getElem (by omega)]
      intro v hv
      rcases List.mem_append.1 hv with hv | hv
      · exact hmay v hv
      · have : v = l[k]'(by omega) := by simpa using hv
        rw [this]; exact g8
  · have g7 : n ≤ k := by simpa using h7
    conv => whnf
    refine ⟨trivial, fin_pure rfl ?_⟩
    rw [if_pos ⟨by omega, by omega, by omega, by omega, by omega, by omega, fun v hv => hmay v (by rw [List.take_of_length_le (by omega)]; exact hv)⟩]
    rfl

/-- what a caller's slice shows -/
theorem ints_of {w : World} {x : Addr} {len cap : Nat} {zs : List Int} (hl : len ≤ cap) (hz : zs.length = cap) (hcell : ∀ i, i < zs.length → w.cell? (x.add i) = some (.int .i64 (zs.getD i 0))) : ∃ l, Reads w w.heap.size 1 (some x) len (ints l) := by
  refine ⟨zs.take len, ?_, fun hn => ⟨x, rfl, ?_, fun j u hu => ?_⟩⟩
  · simp [ints]; omega
  · have h := hcell 0 (by omega)
    rcases Nat.lt_or_ge x.block w.heap.size with hlt | hge
    · exact hlt
    · have : (x.add 0).block = x.block := add_block x 0
      simp [World.cell?, this, Array.getElem?_eq_none hge] at h
  · have hj : j < len := by
      have := (List.getElem?_eq_some_iff.1 hu).1
      simp [ints] at this; omega
    rw [hcell j (by omega)]
    rw [ints_at _ j (by simp; omega)] at hu
    rw [← hu]
    simp [List.getElem_take, List.getD, List.getElem?_eq_getElem (show j < zs.length by omega)]
theorem vs_of_reads {w : World} {A : Option Addr} {n : Nat} {l : List Int} (h : Reads w w.heap.size 1 A n (ints l)) : Vs (was w) A n l := by
  intro w' s
  have ext : ∀ i, i < w.heap.size → w'.heap[i]? = w.heap[i]? := fun i hi => by
    have e : w.heap[i]? = some w.heap[i] := Array.getElem?_eq_getElem hi
    rw [e]; exact sat_ext s e
  have hsz : w.heap.size ≤ w'.heap.size := by
    rcases Nat.lt_or_ge w'.heap.size w.heap.size with c | c
    · have := ext _ c
      rw [Array.getElem?_eq_none (Nat.le_refl _)] at this
      have e : w.heap[w'.heap.size]? = some (w.heap[w'.heap.size]) := Array.getElem?_eq_getElem c
      rw [e] at this; cases this
    · exact c
  refine ⟨h.1, fun hn => ?_⟩
  obtain ⟨ad, e, hb, hc⟩ := h.2 hn
  refine ⟨ad, e, Nat.lt_of_lt_of_le hb hsz, fun j u hu => ?_⟩
  have := hc j u hu
  rw [← this]
  have hj : (ad.add j).block < w.heap.size := by rw [add_block]; exact hb
  simp only [World.cell?, ext _ hj]
theorem sub_all {R : HP} {w : World} : ∀ {l : List HP}, Sat (sepL l R) w → Sat (sepL [] R) w := fun s => Sat.rest s
/-- what a grid of a list's values shows -/
theorem vRows_gv {W H : Nat} {l : List Int} (h : l.length = W * H) : vRows (gv W l) 0 W 0 H = l := by
  apply List.ext_getElem
  · rw [vRows_len, h]; exact Nat.mul_comm _ _
  · intro i h1 h2
    have hW : 0 < W := Nat.pos_of_ne_zero fun c => by subst c; rw [Nat.zero_mul] at h; omega
    have hx : i % W < W := Nat.mod_lt _ hW
    have hy : i / W < H := Nat.div_lt_of_lt_mul (by omega)
    have := gv_vRows (f := gv W l) hx hy
    unfold gv at this
    rw [show i / W * W + i % W = i by rw [Nat.mul_comm]; exact Nat.div_add_mod i W] at this
    have e : (vRows (gv W l) 0 W 0 H).getD i 0 = l.getD i 0 := this
    rw [List.getD_eq_getElem?_getD, List.getD_eq_getElem?_getD, List.getElem?_eq_getElem h1, List.getElem?_eq_getElem h2] at e
    exact e
end Go.Proofs.YtojlgfkjnkjcmaaGreatDoor

/-
  slab.Cells, slices.Equal, slices.EqualFunc, grid.Same.
-/
namespace Go.Proofs.YtojlgfkjnkjcmaaGreatDoor
open Go.RowKit
open Sy
set_option linter.unusedVariables false
set_option linter.unusedSimpArgs false
set_option maxRecDepth 100000
set_option maxHeartbeats 4000000

def cellsL (n : Nat) (f : Nat → Int) : List Int := (List.range n).map f
theorem cellsL_len (n : Nat) (f : Nat → Int) : (cellsL n f).length = n := by simp [cellsL]
theorem cellsL_eq {n : Nat} {f g : Nat → Int} : cellsL n f = cellsL n g ↔ ∀ k, k < n → f k = g k := by
  constructor
  · intro h k hk
    have := congrArg (fun l => l[k]?) h
    simpa [cellsL, hk] using this
  · intro h
    apply List.ext_getElem?
    intro k
    by_cases c : k < n
    · simp [cellsL, c, h k c]
    · simp [cellsL, c]
/-- filled so far -/
def outK (n k : Nat) (f : Nat → Int) : List Value := (List.range n).map fun i => .int .i64 (if i < k then f i else 0)
theorem outK_zero (n : Nat) (f : Nat → Int) : outK n 0 f = List.replicate n (.int .i64 0) := by
  apply List.ext_getElem?
  intro k
  by_cases c : k < n
  · simp [outK, c]
  · simp [outK, c, List.getElem?_replicate]
theorem outK_all (n : Nat) (f : Nat → Int) : outK n n f = ints (cellsL n f) := by
  apply List.ext_getElem?
  intro k
  by_cases c : k < n
  · simp [outK, ints, cellsL, c]
  · simp [outK, ints, cellsL, c]
theorem outK_put {n k : Nat} {f : Nat → Int} (hk : k < n) : putL (outK n k f) k [.int .i64 (f k)] = outK n (k + 1) f := by
  apply List.ext_getElem?
  intro i
  rw [putL_get (by simp [outK]; omega)]
  by_cases c : i = k
  · subst c
    rw [if_pos (by simp)]
    simp [outK, hk]
  · rw [if_neg (by simp; omega)]
    by_cases c2 : i < n
    · simp only [outK, List.getElem?_map, List.getElem?_range c2, Option.map_some]
      by_cases c3 : i < k
      · rw [if_pos c3, if_pos (by omega)]
      · rw [if_neg c3, if_neg (by omega)]
    · simp [outK, c2]

theorem made_i64 (n : Nat) : (madeCells (Value.int .i64 0).cells (n * 1)).toList = List.replicate n (.int .i64 0) := by
  rw [Nat.mul_one]
  exact made_const (z := #[.int .i64 0]) (by intro i hi; simp at hi; subst hi; rfl) (by simp) n

theorem gridSame_tiles {W H : Nat} {f g : Nat → Nat → Int} (h1 : 1 ≤ W) (h2 : 1 ≤ H) : (∀ k, k < tiles W * tiles H → decide (cellsL (tw W (k % tiles W) * tw H (k / tiles W)) (tileF f W (k % tiles W) (k / tiles W)) = cellsL (tw W (k % tiles W) * tw H (k / tiles W)) (tileF g W (k % tiles W) (k / tiles W))) = true) ↔ ∀ x y, x < W → y < H → f x y = g x y := by
  have ht := tiles_pos h1
  constructor
  · intro h x y hx hy
    have hI := tile_of hx
    have hJ := tile_of hy
    have := of_decide_eq_true (h _ (idx_lt hI.1 hJ.1))
    have e1 : (y / 16 * tiles W + x / 16) % tiles W = x / 16 := by rw [Nat.mul_comm, Nat.mul_add_mod, Nat.mod_eq_of_lt hI.1]
    have e2 : (y / 16 * tiles W + x / 16) / tiles W = y / 16 := by rw [Nat.mul_comm, Nat.mul_add_div (by omega), Nat.div_eq_of_lt hI.1, Nat.add_zero]
    rw [e1, e2, cellsL_eq] at this
    have := this (y % 16 * tw W (x / 16) + x % 16) (cell_lt hI.2 hJ.2)
    rwa [tileF_at (H := H) f hx, tileF_at (H := H) g hx] at this
  · intro h k hk
    have hi : k % tiles W < tiles W := Nat.mod_lt _ (by omega)
    have hj : k / tiles W < tiles H := Nat.div_lt_of_lt_mul hk
    exact decide_eq_true (cellsL_eq.2 fun m hm => tileF_congr h hi hj hm)

end Go.Proofs.YtojlgfkjnkjcmaaGreatDoor

/-
  Any level of any grid, in any way, is what the chapter says, or there is its error.
-/
namespace Go.Proofs.YtojlgfkjnkjcmaaGreatDoor
open Go.RowKit
open Sy
set_option linter.unusedVariables false
set_option linter.unusedSimpArgs false
set_option maxRecDepth 100000
set_option maxHeartbeats 4000000

theorem land_nat {W H most : Int} {n : Nat} {l : List Int} (h : LandOk W H most n l) (hm : most ≤ 1024) : ∃ W' H' : Nat, W = W' ∧ H = H' ∧ 1 ≤ W' ∧ W' ≤ 1024 ∧ 1 ≤ H' ∧ H' ≤ 1024 ∧ W' * H' = n ∧ 0 < n ∧ (n : Int) ≤ most := by
  obtain ⟨h1, h2, h3, h4, h5, h6, h7⟩ := h
  obtain ⟨W', rfl⟩ : ∃ W' : Nat, W = W' := ⟨W.toNat, by omega⟩
  obtain ⟨H', rfl⟩ : ∃ H' : Nat, H = H' := ⟨H.toNat, by omega⟩
  have e : W' * H' = n := by
    have : ((W' * H' : Nat) : Int) = n := by rw [← h6]; simp
    omega
  refine ⟨W', H', rfl, rfl, by omega, by omega, by omega, by omega, e, ?_, by omega⟩
  rw [← e]; exact Nat.mul_pos (by omega) (by omega)
/-- the grid that a list of values makes -/
theorem sMadeV {R : HP} {W H n c : Nat} {A : Option Addr} {l : List Int} (ha : Vs R A n l) (h1 : 1 ≤ W) (h2 : W ≤ 1024) (h3 : 1 ≤ H) (h4 : H ≤ 1024) (hn : W * H = n) (hm : ∀ v ∈ l, MayV v) :
    FnR Tryz.prog R 8 [.int .i64 W, .int .i64 H, .slice A n c] [] fun r hs => ∃ gb, r = .tuple #[.pointer (some ⟨gb, 0, none⟩), .bool true] ∧ hs = [gridH gb W H (gv W l)] := by
  refine FnR.of_sat fun w hs => ?_
  obtain ⟨hl, sa⟩ := ha.spot hs
  rcases sa with sa | ⟨b, off, rfl, sa⟩
  · have := Nat.mul_pos h1 h3
    omega
  exact sMade W H b off n c l R h1 h2 h3 h4 hl hn hm sa
theorem sLandYes {R : HP} {W H most : Int} {A : Option Addr} {n c : Nat} {l : List Int} (ha : Vs R A n l) (hm : most ≤ 4096) (hn : n ≤ maxLen) (h : LandOk W H most n l) :
    PureR Tryz.prog R 7 [.int .i64 W, .int .i64 H, .slice A n c, .int .i64 most] (.tuple #[.agg #[.int .i64 W, .int .i64 H, .slice A n c], .bool true]) := by
  have := sLand W H most (c := c) ha hm (by simp only [maxLen] at hn; omega)
  rwa [if_pos h] at this
theorem sLandNo {R : HP} {W H most : Int} {A : Option Addr} {n c : Nat} {l : List Int} (ha : Vs R A n l) (hm : most ≤ 4096) (hn : n ≤ maxLen) (h : ¬ LandOk W H most n l) :
    PureR Tryz.prog R 7 [.int .i64 W, .int .i64 H, .slice A n c, .int .i64 most] (.tuple #[.agg #[.int .i64 0, .int .i64 0, .slice none 0 0], .bool false]) := by
  have := sLand W H most (c := c) ha hm (by simp only [maxLen] at hn; omega)
  rwa [if_neg h] at this
end Go.Proofs.YtojlgfkjnkjcmaaGreatDoor

/-
  down.Row: all levels of a grid.
-/
namespace Go.Proofs.YtojlgfkjnkjcmaaGreatDoor
open Go.RowKit
open Sy
set_option linter.unusedVariables false
set_option linter.unusedSimpArgs false
set_option maxRecDepth 100000
set_option maxHeartbeats 4000000

/-- the levels 0 .. n-1, the last one first -/
def gridsH (ag : List Int → Int) (W H : Nat) (f : Nat → Nat → Int) : List Nat → List HP
  | [] => []
  | g :: r => gridH g (halfN W r.length) (halfN H r.length) (lv ag W H r.length f) :: gridsH ag W H f r
def ptrs (gs : List Nat) : List Value := gs.reverse.map fun g => .pointer (some ⟨g, 0, none⟩)
theorem ptrs_len (gs : List Nat) : (ptrs gs).length = gs.length := by simp [ptrs]
theorem ptrs_cons (g : Nat) (gs : List Nat) : ptrs (g :: gs) = ptrs gs ++ [.pointer (some ⟨g, 0, none⟩)] := by simp [ptrs]
theorem ptrs_one (gs : List Nat) : ∀ u ∈ ptrs gs, u.oneCell' = true := by
  intro u hu
  simp only [ptrs, List.mem_map] at hu
  obtain ⟨g, _, rfl⟩ := hu
  rfl
/-- the grid of the level k -/
theorem gridsH_at {ag : List Int → Int} {W H : Nat} {f : Nat → Nat → Int} : ∀ {gs : List Nat} {k : Nat}, k < gs.length → ∃ g i : Nat, (ptrs gs)[k]? = some (.pointer (some ⟨g, 0, none⟩)) ∧ (gridsH ag W H f gs)[i]? = some (gridH g (halfN W k) (halfN H k) (lv ag W H k f))
  | [], k, h => absurd h (Nat.not_lt_zero _)
  | g :: r, k, h => by
    rw [ptrs_cons]
    rcases Nat.lt_or_ge k r.length with c | c
    · obtain ⟨g', i, h1, h2⟩ := gridsH_at (gs := r) (f := f) (ag := ag) (W := W) (H := H) c
      refine ⟨g', i + 1, ?_, ?_⟩
      · rw [List.getElem?_append_left (by rw [ptrs_len]; exact c)]; exact h1
      · simpa [gridsH] using h2
    · have e : k = r.length := by simp at h; omega
      subst e
      refine ⟨g, 0, ?_, rfl⟩
      rw [List.getElem?_append_right (by rw [ptrs_len]; exact Nat.le_refl _), ptrs_len]
      simp
theorem row_at {g n c size : Nat} {e : TypeId} {xs : List Value} {w : World} (s : Sat (rowH (.slice (some ⟨g, 0, none⟩) n c) n e size xs) w) (hn : 0 < n) {j : Nat} {u : Value} (h : xs[j]? = some u) : w.cell? ⟨g, j, none⟩ = some u := by
  obtain ⟨g', e, hr⟩ := rowH_at s hn
  injection e with e
  injection e with e
  subst e
  exact hr j u h
theorem in_app {l m : List HP} {i : Nat} {A : HP} (h : l[i]? = some A) : (l ++ m)[i]? = some A := by
  rw [List.getElem?_append_left (List.getElem?_eq_some_iff.1 h).1]; exact h
theorem in_app2 {B C : HP} {l m : List HP} {i : Nat} {A : HP} (h : l[i]? = some A) : (B :: C :: (l ++ m))[i + 2]? = some A := in_app h
theorem in_end {l m : List HP} {A : HP} {n : Nat} (h : l.length = n) : (l ++ A :: m)[n]? = some A := by
  subst h
  rw [List.getElem?_append_right (Nat.le_refl _)]
  simp
theorem gridsH_len {ag : List Int → Int} {W H : Nat} {f : Nat → Nat → Int} : ∀ gs : List Nat, (gridsH ag W H f gs).length = gs.length
  | [] => rfl
  | g :: r => by simp [gridsH, gridsH_len r]
theorem lv_zero {ag : List Int → Int} {W H : Nat} {f : Nat → Nat → Int} {x y : Nat} (hag : ∀ v, ag [v] = v) (hx : x < W) (hy : y < H) : lv ag W H 0 f x y = f x y := by
  have e1 : spX1 W 0 x = x := by unfold spX1; simp; omega
  have e2 : spX1 H 0 y = y := by unfold spX1; simp; omega
  unfold lv spL
  rw [e1, e2, Nat.pow_zero, Nat.mul_one, Nat.mul_one, Nat.sub_self, Nat.sub_self]
  show ag [f (x + 0) (y + 0)] = _
  rw [hag]; simp
theorem ag_one {how : Int} {ag : List Int → Int} (hh : how = 0 ∧ ag = mnL ∨ how = 1 ∧ ag = mxL ∨ how = 2 ∧ ag = meanL) (v : Int) : ag [v] = v := by
  rcases hh with ⟨_, rfl⟩ | ⟨_, rfl⟩ | ⟨_, rfl⟩
  · rfl
  · rfl
  · simp [meanL, sumL]
theorem halfN_zero {W : Nat} (h : 1 ≤ W) : halfN W 0 = W := by unfold halfN; simp; omega
end Go.Proofs.YtojlgfkjnkjcmaaGreatDoor

/-
  A level of the level ahead; no mean is below the least, or above the greatest.
-/
namespace Go.Proofs.YtojlgfkjnkjcmaaGreatDoor
open Go.RowKit
open Sy
set_option linter.unusedVariables false
set_option linter.unusedSimpArgs false
set_option maxRecDepth 100000
set_option maxHeartbeats 4000000

theorem halfN_step (W j : Nat) : halfN (halfN W j) 1 = halfN W (j + 1) := by
  unfold halfN
  rw [Nat.add_sub_cancel, Nat.pow_one, Nat.pow_succ, Nat.div_div_eq_div_mul]
theorem div_step (a j : Nat) : a / 2 ^ j / 2 ^ 1 = a / 2 ^ (j + 1) := by rw [Nat.pow_one, Nat.pow_succ, Nat.div_div_eq_div_mul]
theorem cell_in {W a : Nat} (j : Nat) (h : a < W) : a / 2 ^ j < halfN W j := by
  unfold halfN
  exact Nat.lt_succ_of_le (Nat.div_le_div_right (by omega))
theorem spL_ne {W H k x y : Nat} {f : Nat → Nat → Int} (hW : 1 ≤ W) (hH : 1 ≤ H) (hx : x < halfN W k) (hy : y < halfN H k) : spL W H k f x y ≠ [] := by
  have hx' := half_mul hx
  have hy' := half_mul hy
  refine List.ne_nil_of_mem ((mem_spL hW hH hx hy (f (x * 2 ^ k) (y * 2 ^ k))).2 ⟨_, _, by omega, by omega, ?_, ?_, rfl⟩)
  · exact Nat.mul_div_cancel _ (pow_pos' k)
  · exact Nat.mul_div_cancel _ (pow_pos' k)
theorem lv_mn_step {W H j x y : Nat} {f : Nat → Nat → Int} (hW : 1 ≤ W) (hH : 1 ≤ H) (hx : x < halfN W (j + 1)) (hy : y < halfN H (j + 1)) :
    lv mnL (halfN W j) (halfN H j) 1 (lv mnL W H j f) x y = lv mnL W H (j + 1) f x y := by
  have w1 := (half_le (k := j) hW).1
  have h1 := (half_le (k := j) hH).1
  have hx' : x < halfN (halfN W j) 1 := by rw [halfN_step]; exact hx
  have hy' : y < halfN (halfN H j) 1 := by rw [halfN_step]; exact hy
  symm
  unfold lv
  refine mnL_eq ?_ fun v hv => ?_
  · have := mnL_mem (spL_ne (f := lv mnL W H j f) w1 h1 hx' hy')
    obtain ⟨a, b, ha, hb, ex, ey, e⟩ := (mem_spL w1 h1 hx' hy' _).1 this
    rw [show (fun x y => mnL (spL W H j f x y)) = lv mnL W H j f from rfl, ← e]
    have := mnL_mem (spL_ne (f := f) hW hH ha hb)
    obtain ⟨a', b', ha', hb', ex', ey', e'⟩ := (mem_spL hW hH ha hb _).1 this
    refine (mem_spL hW hH hx hy _).2 ⟨a', b', ha', hb', ?_, ?_, e'⟩
    · rw [← div_step, ex']; exact ex
    · rw [← div_step, ey']; exact ey
  · obtain ⟨a, b, ha, hb, ex, ey, e⟩ := (mem_spL hW hH hx hy _).1 hv
    have ha' := cell_in j ha
    have hb' := cell_in j hb
    have h1' : mnL (spL W H j f (a / 2 ^ j) (b / 2 ^ j)) ≤ v := mnL_le ((mem_spL hW hH ha' hb' _).2 ⟨a, b, ha, hb, rfl, rfl, e⟩)
    refine Int.le_trans (mnL_le ((mem_spL w1 h1 hx' hy' _).2 ⟨a / 2 ^ j, b / 2 ^ j, ha', hb', ?_, ?_, rfl⟩)) h1'
    · rw [div_step]; exact ex
    · rw [div_step]; exact ey
theorem lv_mx_step {W H j x y : Nat} {f : Nat → Nat → Int} (hW : 1 ≤ W) (hH : 1 ≤ H) (hx : x < halfN W (j + 1)) (hy : y < halfN H (j + 1)) :
    lv mxL (halfN W j) (halfN H j) 1 (lv mxL W H j f) x y = lv mxL W H (j + 1) f x y := by
  have w1 := (half_le (k := j) hW).1
  have h1 := (half_le (k := j) hH).1
  have hx' : x < halfN (halfN W j) 1 := by rw [halfN_step]; exact hx
  have hy' : y < halfN (halfN H j) 1 := by rw [halfN_step]; exact hy
  symm
  unfold lv
  refine mxL_eq ?_ fun v hv => ?_
  · have := mxL_mem (spL_ne (f := lv mxL W H j f) w1 h1 hx' hy')
    obtain ⟨a, b, ha, hb, ex, ey, e⟩ := (mem_spL w1 h1 hx' hy' _).1 this
    rw [show (fun x y => mxL (spL W H j f x y)) = lv mxL W H j f from rfl, ← e]
    have := mxL_mem (spL_ne (f := f) hW hH ha hb)
    obtain ⟨a', b', ha', hb', ex', ey', e'⟩ := (mem_spL hW hH ha hb _).1 this
    refine (mem_spL hW hH hx hy _).2 ⟨a', b', ha', hb', ?_, ?_, e'⟩
    · rw [← div_step, ex']; exact ex
    · rw [← div_step, ey']; exact ey
  · obtain ⟨a, b, ha, hb, ex, ey, e⟩ := (mem_spL hW hH hx hy _).1 hv
    have ha' := cell_in j ha
    have hb' := cell_in j hb
    have h1' : v ≤ mxL (spL W H j f (a / 2 ^ j) (b / 2 ^ j)) := le_mxL ((mem_spL hW hH ha' hb' _).2 ⟨a, b, ha, hb, rfl, rfl, e⟩)
    refine Int.le_trans h1' (le_mxL ((mem_spL w1 h1 hx' hy' _).2 ⟨a / 2 ^ j, b / 2 ^ j, ha', hb', ?_, ?_, rfl⟩))
    · rw [div_step]; exact ex
    · rw [div_step]; exact ey

theorem sumL_go : ∀ (l : List Int) (s a b : Int), (∀ v ∈ l, a ≤ v ∧ v ≤ b) → s + a * l.length ≤ l.foldl (· + ·) s ∧ l.foldl (· + ·) s ≤ s + b * l.length
  | [], s, a, b, _ => by simp
  | v :: l, s, a, b, h => by
    obtain ⟨h1, h2⟩ := sumL_go l (s + v) a b fun u hu => h u (List.mem_cons_of_mem _ hu)
    obtain ⟨h3, h4⟩ := h v List.mem_cons_self
    simp only [List.foldl_cons, List.length_cons]
    have e1 : a * ((l.length + 1 : Nat) : Int) = a * (l.length : Int) + a := by rw [Int.natCast_add, Int.mul_add]; simp
    have e2 : b * ((l.length + 1 : Nat) : Int) = b * (l.length : Int) + b := by rw [Int.natCast_add, Int.mul_add]; simp
    rw [e1, e2]
    omega
theorem mean_mid {l : List Int} (h0 : l ≠ []) : mnL l ≤ meanL l ∧ meanL l ≤ mxL l := by
  obtain ⟨h1, h2⟩ := sumL_go l 0 (mnL l) (mxL l) fun v hv => ⟨mnL_le hv, le_mxL hv⟩
  have hl : (0 : Int) < l.length := by have := List.length_pos_iff.2 h0; omega
  unfold meanL sumL
  refine ⟨(Int.le_ediv_iff_mul_le hl).2 (by omega), Int.le_of_lt_add_one ((Int.ediv_lt_iff_lt_mul hl).2 ?_)⟩
  rw [Int.add_mul]
  omega
theorem lv_mid {W H k x y : Nat} {f : Nat → Nat → Int} (hW : 1 ≤ W) (hH : 1 ≤ H) (hx : x < halfN W k) (hy : y < halfN H k) : lv mnL W H k f x y ≤ lv meanL W H k f x y ∧ lv meanL W H k f x y ≤ lv mxL W H k f x y := mean_mid (spL_ne hW hH hx hy)
/-- what holds at each cell holds at each place of the lists -/
theorem vRows_rel {W H : Nat} {f g : Nat → Nat → Int} {P : Int → Int → Prop} (h : ∀ x y, x < W → y < H → P (f x y) (g x y)) {i : Nat} (h1 : i < (vRows f 0 W 0 H).length) (h2 : i < (vRows g 0 W 0 H).length) : P ((vRows f 0 W 0 H)[i]) ((vRows g 0 W 0 H)[i]) := by
  have hl : i < W * H := by rw [vRows_len, Nat.mul_comm] at h1; exact h1
  have hW : 0 < W := Nat.pos_of_ne_zero fun c => by subst c; rw [Nat.zero_mul] at hl; omega
  have hx : i % W < W := Nat.mod_lt _ hW
  have hy : i / W < H := Nat.div_lt_of_lt_mul hl
  have e := fun (f : Nat → Nat → Int) => gv_vRows (f := f) hx hy
  have ei : i / W * W + i % W = i := by rw [Nat.mul_comm]; exact Nat.div_add_mod i W
  have e1 : (vRows f 0 W 0 H).getD (i / W * W + i % W) 0 = f (i % W) (i / W) := e f
  have e2 : (vRows g 0 W 0 H).getD (i / W * W + i % W) 0 = g (i % W) (i / W) := e g
  rw [ei, List.getD_eq_getElem?_getD, List.getElem?_eq_getElem h1] at e1
  rw [ei, List.getD_eq_getElem?_getD, List.getElem?_eq_getElem h2] at e2
  simp only [Option.getD_some] at e1 e2
  rw [e1, e2]
  exact h _ _ hx hy
end Go.Proofs.YtojlgfkjnkjcmaaGreatDoor

