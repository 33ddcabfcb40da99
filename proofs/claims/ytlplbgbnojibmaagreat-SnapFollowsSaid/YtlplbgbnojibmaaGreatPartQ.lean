/-
  Texts of the proofs, one behind the other: SyCap, AreaP, Area, AreaS, Sparse0, SnapA, SnapB, SnapC, SnapD.
-/
import Derived.Test.YtlplbgbnojibmaaGreatPartS
import Derived.Test.YtlplbgbnojibmaaGreatPartM
import Derived.Test.YtlplbgbnojibmaaGreatPartO
import Derived.Test.YtlplbgbnojibmaaGreatPartL
/-
  A row that is made with room behind it.
-/
namespace Go.Proofs.YtlplbgbnojibmaaGreat
open Go.RowKit
namespace Sy
set_option linter.unusedVariables false
set_option linter.unusedSimpArgs false
set_option maxRecDepth 100000
set_option maxHeartbeats 4000000

theorem OpAt.makeCap {G : Gl} {o : Oper} {st : St} {K : St → Prop} {t e : TypeId} {x y : Operand} {i : TypeInfo} {z : Value} (n m size : Nat) (zs : List Value) (ho : o.op = .makeSlice t x y) (hx : evR st x = .int .i64 (n : Int)) (hy : evR st y = .int .i64 (m : Int)) (hr : allR st o.op.operands.toList = true)
    (hu : G.P.underlying t = some (.slice e)) (hi : G.P.info? e = some i) (hz : i.zero = some z) (hsize : i.size = size) (hzs : (madeCells z.cells (m * size)).toList = zs) (hby : i.bytes * m ≤ 281474976710656) (hmax : m ≤ maxLen) (hnm : n ≤ m)
    (k : ∀ g, putK G { st with h := rowH (.slice (some ⟨g, 0, none⟩) n m) n e size (zs.take (n * size)) :: st.h } o.dst (.v (.slice (some ⟨g, 0, none⟩) n m)) none K) : OpAt G o st K := by
  refine OpAt.sem (pre := []) (post := fun v hs => ∃ g, v = .slice (some ⟨g, 0, none⟩) n m ∧ hs = [rowH (.slice (some ⟨g, 0, none⟩) n m) n e size (zs.take (n * size))]) st.h (fun h s => s) (by rw [ho]; rfl) hr ?_ ?_
  · intro R' _ w s
    have hm := hmax
    simp only [maxLen] at hm
    have hrun := run_make w t e i z hu hi hz .i64 .i64 (n : Int) (m : Int) (by omega) (by omega) (by rw [← Int.natCast_mul]; omega) (by omega) (P := G.P)
    simp only [Int.toNat_natCast, hsize] at hrun
    have hlen : zs.length = m * size := by rw [← hzs]; simp [size_madeCells]
    have hle := Nat.mul_le_mul_right size hnm
    refine ⟨_, _, w.alloc (.cells (madeCells z.cells (m * size)) e), ?_, ⟨w.heap.size, rfl, rfl⟩, ?_, .of_below ((Below.refl _ _).alloc (Nat.le_refl _) _)⟩
    · simp only [execOp, ho, hx, hy, hrun, Sem.run_bind, Result.andThen_ok, Sem.run_pure, Sem.run_map]
      try rfl
    · refine sat_row s ((Below.refl _ _).alloc (Nat.le_refl _) _) ⟨by rw [List.length_take]; omega, .inr ⟨_, m, madeCells z.cells (m * size), rfl, Nat.le_refl _, heap_alloc_new w _, hnm, hmax, size_madeCells _ _, ?_⟩⟩
      rw [hzs]
  · rintro v hs ⟨g, rfl, rfl⟩
    exact k g
end Sy
end Go.Proofs.YtlplbgbnojibmaaGreat

/-
  area's table: what it holds.
-/
namespace Go.Proofs.YtlplbgbnojibmaaGreat
open Go.RowKit
open Sy
set_option linter.unusedVariables false
set_option linter.unusedSimpArgs false
set_option maxRecDepth 100000
set_option maxHeartbeats 4000000

/-- the sum of the first x of a row -/
noncomputable def RW (W : Nat) (f : Nat → Nat → Int) (y x : Nat) : Int := dot W (fun i => i < x) fun i => f i y
theorem RW_zero {W y : Nat} {f : Nat → Nat → Int} : RW W f y 0 = 0 := dot_none fun i _ h => by omega
theorem RW_succ {W x y : Nat} {f : Nat → Nat → Int} (hx : x < W) : RW W f y (x + 1) = RW W f y x + f x y := by
  unfold RW
  rw [dot_or (A := fun i => i < x) (B := fun i => i = x) (fun i _ => by omega) (fun i _ => by omega), dot_one (A := fun i => i = x) hx (fun i _ => Iff.rfl)]
theorem PP_down {W H x y : Nat} {f : Nat → Nat → Int} (hy : y < H) : PP W H f x (y + 1) = RW W f y x + PP W H f x y := by
  unfold PP RW
  rw [dot_or (A := fun j => j < y) (B := fun j => j = y) (fun i _ => by omega) (fun i _ => by omega), dot_one (A := fun j => j = y) hy (fun i _ => Iff.rfl)]
  omega
theorem PP_left {W H y : Nat} {f : Nat → Nat → Int} : PP W H f 0 y = 0 := dot_null fun j _ => dot_none fun i _ h => by omega
theorem RW_bound {W H x y : Nat} {f : Nat → Nat → Int} (h1 : W ≤ 1024) (h : Far W H f) (hy : y < H) : -1125899906842624 ≤ RW W f y x ∧ RW W f y x ≤ 1125899906842624 := by
  have := dot_bound (n := W) (A := fun i => i < x) (g := fun i => f i y) (M := 1099511627776) (by decide) (fun i hi => h i y hi hy)
  unfold RW
  omega
/-- the first n cells of a row of the table -/
noncomputable def arow (W H : Nat) (f : Nat → Nat → Int) (k n : Nat) : List Value := (List.range n).map fun j => .int .i64 (PP W H f j k)
theorem arow_len (W H : Nat) (f : Nat → Nat → Int) (k n : Nat) : (arow W H f k n).length = n := by simp [arow]
theorem arow_succ (W H : Nat) (f : Nat → Nat → Int) (k n : Nat) : arow W H f k (n + 1) = arow W H f k n ++ [.int .i64 (PP W H f n k)] := by simp [arow, List.range_succ]
theorem arow_at {W H k n j : Nat} {f : Nat → Nat → Int} (h : j < n) : (arow W H f k n)[j]? = some (.int .i64 (PP W H f j k)) := by simp [arow, h]
theorem arow_zero {W H n : Nat} {f : Nat → Nat → Int} : arow W H f 0 n = List.replicate n (.int .i64 0) := by
  apply List.ext_getElem?
  intro k
  rw [List.getElem?_replicate]
  by_cases c : k < n
  · rw [if_pos c, arow_at c, PP_zero]
  · rw [if_neg c, List.getElem?_eq_none (by rw [arow_len]; omega)]
def rowsV (W : Nat) (b c : Nat → Nat) (n : Nat) : List Value := (List.range n).map fun k => .slice (some ⟨b k, 0, none⟩) (W + 1) (c k)
theorem rowsV_len (W : Nat) (b c : Nat → Nat) (n : Nat) : (rowsV W b c n).length = n := by simp [rowsV]
theorem rowsV_at {W n k : Nat} {b c : Nat → Nat} (h : k < n) : (rowsV W b c n)[k]? = some (.slice (some ⟨b k, 0, none⟩) (W + 1) (c k)) := by simp [rowsV, h]
noncomputable abbrev aRw (W H : Nat) (f : Nat → Nat → Int) (b c : Nat → Nat) (k : Nat) : HP := rowH (.slice (some ⟨b k, 0, none⟩) (W + 1) (c k)) (W + 1) 2 1 (arow W H f k (W + 1))
noncomputable def aRws (W H : Nat) (f : Nat → Nat → Int) (b c : Nat → Nat) (n : Nat) : List HP := (List.range n).map (aRw W H f b c)
theorem aRws_at {W H n k : Nat} {f : Nat → Nat → Int} {b c : Nat → Nat} (h : k < n) : (aRws W H f b c n)[k]? = some (aRw W H f b c k) := by simp [aRws, h]
theorem rowsV_succ {W n g d : Nat} {b c : Nat → Nat} : rowsV W (fun j => if j = n then g else b j) (fun j => if j = n then d else c j) (n + 1) = rowsV W b c n ++ [.slice (some ⟨g, 0, none⟩) (W + 1) d] := by
  unfold rowsV
  rw [List.range_succ, List.map_append]
  congr 1
  · apply List.map_congr_left
    intro k hk
    have := List.mem_range.1 hk
    simp only [if_neg (show ¬ k = n by omega)]
  · simp
theorem aRws_succ {W H n g d : Nat} {f : Nat → Nat → Int} {b c : Nat → Nat} : aRws W H f (fun j => if j = n then g else b j) (fun j => if j = n then d else c j) (n + 1) = aRws W H f b c n ++ [rowH (.slice (some ⟨g, 0, none⟩) (W + 1) d) (W + 1) 2 1 (arow W H f n (W + 1))] := by
  unfold aRws
  rw [List.range_succ, List.map_append]
  congr 1
  · apply List.map_congr_left
    intro k hk
    have := List.mem_range.1 hk
    simp only [aRw, if_neg (show ¬ k = n by omega)]
  · simp [aRw]
theorem rowsV_one (W : Nat) (b c : Nat → Nat) (n : Nat) : ∀ u ∈ rowsV W b c n, u.oneCell' = true := by
  intro u hu
  obtain ⟨k, _, rfl⟩ := List.mem_map.1 hu
  rfl
theorem arow_one (W H : Nat) (f : Nat → Nat → Int) (k n : Nat) : ∀ u ∈ arow W H f k n, u.oneCell' = true := by
  intro u hu
  obtain ⟨j, _, rfl⟩ := List.mem_map.1 hu
  rfl
abbrev aHd (tb W H lb n d : Nat) : HP := blkH tb 137 #[.int .i64 W, .int .i64 H, .slice (some ⟨lb, 0, none⟩) n d]
abbrev aRr (W lb n d : Nat) (b c : Nat → Nat) : HP := rowH (.slice (some ⟨lb, 0, none⟩) n d) n 22 1 (rowsV W b c n)
noncomputable def areaP (tb W H : Nat) (f : Nat → Nat → Int) (x : Nat × Nat × (Nat → Nat) × (Nat → Nat)) : List HP := aHd tb W H x.1 (H + 1) x.2.1 :: aRr W x.1 (H + 1) x.2.1 x.2.2.1 x.2.2.2 :: aRws W H f x.2.2.1 x.2.2.2 (H + 1)
/-- a table of sums -/
noncomputable def areaH (tb W H : Nat) (f : Nat → Nat → Int) : HP := boxH (areaP tb W H f)
theorem gValRow {R : HP} {gb W H : Nat} {f : Nat → Nat → Int} (hR : ∀ w, Sat R w → GridAt w gb W H f) {y : Nat} (hy : y < H) :
    FnR Tryz.prog R 45 [.pointer (some ⟨gb, 0, none⟩), rectV 0 (y : Int) ((W : Int) - 1) (y : Int)] [] fun r hs => ∃ g c, r = .tuple #[.slice (some ⟨g, 0, none⟩) W c, .int .i64 0] ∧
      hs = [rowH (.slice (some ⟨g, 0, none⟩) W c) W 2 1 (ints (vRow f 0 y W))] := by
  intro w s
  obtain ⟨w1, w2, h1, h2⟩ := (hR w s).size
  have e1 : (W : Int) - 1 = ((W - 1 : Nat) : Int) := by omega
  have e2 : vRows f 0 (W - 1 - 0 + 1) y (y - y + 1) = vRow f 0 y W := by
    rw [show y - y + 1 = 1 by omega, show W - 1 - 0 + 1 = W by omega]
    simp [vRows]
  have h := gValues_f hR 0 y (W - 1) y (Nat.zero_le _) (by omega) (Nat.le_refl _) hy
  rw [e2, vRow_len] at h
  rw [e1]
  refine (h w s).mono ?_
  rintro e w' ⟨r, hs, rfl, ⟨A, c, rfl, rfl⟩, s', hw⟩
  obtain ⟨g, rfl, _⟩ := rowH_at (Sat.left s') w1
  exact ⟨_, _, rfl, ⟨g, c, rfl, rfl⟩, s', hw⟩
theorem vRow_at {f : Nat → Nat → Int} {y n i : Nat} (h : i < n) : (ints (vRow f 0 y n))[i]? = some (.int .i64 (f i y)) := by
  simp [ints, vRow, h]
end Go.Proofs.YtlplbgbnojibmaaGreat

/-
  area.Build.
-/
namespace Go.Proofs.YtlplbgbnojibmaaGreat
open Go.RowKit
open Sy
set_option linter.unusedVariables false
set_option linter.unusedSimpArgs false
set_option maxRecDepth 100000
set_option maxHeartbeats 4000000

theorem sABuild {R : HP} {gb W H : Nat} {f : Nat → Nat → Int} (hf : Far W H f) (hR : ∀ w, Sat R w → GridAt w gb W H f) :
    FnR Tryz.prog R 31 [.pointer (some ⟨gb, 0, none⟩)] [] fun r hs => ∃ tb, r = .tuple #[.pointer (some ⟨tb, 0, none⟩), .int .i64 0] ∧ hs = [areaH tb W H f] := by
  refine FnR.of_sat fun w hs => ?_
  obtain ⟨w1, w2, h1, h2⟩ := (hR w hs).size
  clear hs
  have e : (W : Int) + 1 = ((W + 1 : Nat) : Int) := by omega
  have hval := fun (R' : HP) (y : Nat) (hy : y < H) (h : ∀ w, Sat R' w → GridAt w gb W H f) => gValRow h hy
  have hzs : (madeCells (Value.int .i64 0).cells ((W + 1) * 1)).toList = List.replicate (W + 1) (.int .i64 0) := by
    rw [Nat.mul_one]
    exact made_const (by intro i hi; simp [Value.cells] at hi; subst hi; rfl) (by simp [Value.cells]) _
  have hz1 : ∀ y, (List.replicate (W + 1) (Value.int .i64 0)).take (1 * 1) = arow W H f y (0 + 1) := fun y => by
    show _ = [Value.int .i64 (PP W H f 0 y)]
    rw [PP_left]
    simp [List.take_replicate]
  have hz0 : List.replicate (W + 1) (Value.int .i64 0) = arow W H f 0 (W + 1) := arow_zero.symm
  have hshut : ∀ tb lb d b c h, sepL (aHd tb W H lb (H + 1) d :: aRr W lb (H + 1) d b c :: aRws W H f b c (H + 1)) R h → sepL [areaH tb W H f] R h := fun tb lb d b c h s => boxH_shut (parts := areaP tb W H f) (lb, d, b, c) (by rw [List.append_nil]; exact s)
  have hv := fun y x (hx : x < W) => vRow_at (f := f) (y := y) hx
  have ha := fun k n x (hx : x < n) => arow_at (W := W) (H := H) (f := f) (k := k) hx
  have hrs := fun y x (hx : x < W) => RW_succ (f := f) (y := y) hx
  have hr0 := fun y => RW_zero (W := W) (f := f) (y := y)
  have hpd := fun y x (hy : y < H) => PP_down (W := W) (f := f) (x := x) hy
  have hrb := fun y x (hy : y < H) => RW_bound (x := x) w2 hf hy
  have hpb := fun y x => PP_bound (a := x) (b := y) w2 h2 hf
  have hfb := fun x y (hx : x < W) (hy : y < H) => hf x y hx hy
  have hsu := fun k n => arow_succ W H f k n
  have hro := fun b c n k (h : k < n) => rowsV_at (W := W) (b := b) (c := c) h
  have hrw := fun b c n k (h : k < n) => aRws_at (W := W) (H := H) (f := f) (b := b) (c := c) h
  have hvs := fun b c n g d => rowsV_succ (W := W) (b := b) (c := c) (n := n) (g := g) (d := d)
  have hws := fun b c n g d => aRws_succ (W := W) (H := H) (f := f) (b := b) (c := c) (n := n) (g := g) (d := d)
  have hone := rowsV_one W
  clear hf
  refine fn_of_run0 false Tryz.func31 rfl hmix rfl fun w0 => ?_
  conv => whnf
  refine ⟨trivial, CallAt.pure (fun R' hR' => gSize_p fun w s => hR w (hR' w s)) ?_⟩
  conv => whnf
  rw [e]
  refine ⟨⟨trivial, by unfold rng; omega⟩, OpAt.make (W + 1) 1 (List.replicate (W + 1) (.int .i64 0)) rfl rfl rfl rfl rfl rfl rfl rfl hzs (by show 8 * (W + 1) ≤ _; omega) (by simp only [maxLen]; omega) fun g => ?_⟩
  conv => whnf
  refine ⟨trivial, OpAt.lit [.slice (some ⟨g, 0, none⟩) (W + 1) (W + 1)] 1 rfl rfl rfl rfl rfl (by decide) rfl rfl rfl (by simp [Value.cells]) rfl (by decide) fun g3 => ?_⟩
  conv => whnf
  refine ⟨trivial, LoopAt.of (α := Nat × Nat × Nat × (Nat → Nat) × (Nat → Nat)) [0, 4, 6, 29] (fun a => [(30, .v (.int .i64 (a.1 : Int)))]) (fun a => [(0, 137, [.v (.int .i64 W), .v (.int .i64 H), .v (.slice (some ⟨a.2.1, 0, none⟩) (a.1 + 1) a.2.2.1)])])
    (fun a => aRr W a.2.1 (a.1 + 1) a.2.2.1 a.2.2.2.1 a.2.2.2.2 :: aRws W H f a.2.2.2.1 a.2.2.2.2 (a.1 + 1)) (fun a => a.1 ≤ H) (fun a => H - a.1) (0, g3, 1, fun _ => g, fun _ => W + 1) (Nat.zero_le _)
    (Le.of (Nat.le_of_ble_eq_true rfl) (Nat.zero_le _) ⟨⟨rfl, rfl⟩, ⟨rfl, rfl⟩, ⟨rfl, rfl⟩, ⟨rfl, rfl⟩, ⟨rfl, rfl⟩, trivial⟩ ⟨⟨rfl, rfl, rfl, rfl⟩, trivial⟩ fun h s => sub_same ?_) ?_⟩
  · rw [hz0] at s
    exact s
  rintro ⟨k, lb, d, b, c⟩ hk
  simp only at hk
  conv => whnf
  refine ⟨fun h4 => ?_, fun h4 => ?_⟩
  · have g4 : k < H := by simpa using h4
    conv => whnf
    refine ⟨(by (repeat' apply And.intro) <;> first | exact True.intro | (unfold rng; omega) | omega), CallAt.fn (pre := []) _ (fun h s => s) (fun R' hR' => hval R' k g4 fun w s => hR w (hR' w s).rest) ?_⟩
    rintro r hs ⟨vb, vc, rfl, rfl⟩
    conv => whnf
    rw [e]
    refine ⟨⟨trivial, by unfold rng; omega⟩, OpAt.makeCap 1 (W + 1) 1 (List.replicate (W + 1) (.int .i64 0)) rfl rfl rfl rfl rfl rfl rfl rfl hzs (by show 8 * (W + 1) ≤ _; omega) (by simp only [maxLen]; omega) (by omega) fun g1 => ?_⟩
    rw [hz1 (k + 1)]
    conv => whnf
    refine ⟨trivial, LoopAt.heap (α := Nat × Nat × Nat) [0, 4, 6, 7, 29, 30, 46, 47] (fun a => [(10, .v (.slice (some ⟨a.2.1, 0, none⟩) (a.1 + 1) a.2.2)), (11, .v (.int .i64 (RW W f k a.1))), (48, .v (.int .i64 (a.1 : Int)))])
      (fun a => rowH (.slice (some ⟨a.2.1, 0, none⟩) (a.1 + 1) a.2.2) (a.1 + 1) 2 1 (arow W H f (k + 1) (a.1 + 1)) :: rowH (.slice (some ⟨vb, 0, none⟩) W vc) W 2 1 (ints (vRow f 0 k W)) :: aRr W lb (k + 1) d b c :: aRws W H f b c (k + 1))
      (fun a => a.1 ≤ W) (fun a => W - a.1) (0, g1, W + 1) (Nat.zero_le _) rfl ⟨⟨rfl, rfl⟩, ⟨by rw [hr0]; rfl, rfl⟩, ⟨rfl, rfl⟩, trivial⟩ ⟨⟨rfl, rfl⟩, ⟨rfl, rfl⟩, ⟨rfl, rfl⟩, ⟨rfl, rfl⟩, ⟨rfl, rfl⟩, ⟨rfl, rfl⟩, ⟨rfl, rfl⟩, ⟨rfl, rfl⟩, trivial⟩ ⟨⟨rfl, rfl, rfl, rfl⟩, trivial⟩ (fun h s => sub_same s) ?_⟩
    rintro ⟨x, A, q⟩ hx
    simp only at hx
    conv => whnf
    refine ⟨fun h5 => ?_, fun h5 => ?_⟩
    · have g5 : x < W := by simpa using h5
      conv => whnf
      refine ⟨⟨trivial, by omega⟩, LoadAt.cell (.int .i64 (f x k)) rfl rfl (fun w hw => by
        have := row_at (hw.in_ 1 rfl) (by omega) (hv k x g5)
        rw [Int.toNat_natCast]; simpa using this) ?_⟩
      conv => whnf
      refine ⟨⟨⟨trivial, ?_⟩, ?_, ?_⟩, LoadAt.cell (.slice (some ⟨b k, 0, none⟩) (W + 1) (c k)) rfl rfl (fun w hw => ?_) ?_⟩
      · have := hrb k (x + 1) g4
        rw [hrs k x g5] at this
        unfold rng; simp only; omega
      · simp only; omega
      · simp only; omega
      · have := row_at (hw.in_ 2 rfl) (by omega) (hro b c (k + 1) k (by omega))
        simp only [Int.toNat_natCast]
        simpa using this
      conv => whnf
      refine ⟨⟨⟨trivial, ?_⟩, ?_, ?_⟩, LoadAt.cell (.int .i64 (PP W H f (x + 1) k)) rfl rfl (fun w hw => ?_) ?_⟩
      · unfold rng; simp only; omega
      · simp only; omega
      · simp only; omega
      · have h0 : (rowH (.slice (some ⟨A, 0, none⟩) (x + 1) q) (x + 1) 2 1 (arow W H f (k + 1) (x + 1)) :: rowH (.slice (some ⟨vb, 0, none⟩) W vc) W 2 1 (ints (vRow f 0 k W)) :: aRr W lb (k + 1) d b c :: aRws W H f b c (k + 1))[k + 3]? = some (aRw W H f b c k) := hrw b c (k + 1) k (by omega)
        have := row_at (hw.in_ (k + 3) h0) (by omega) (ha k (W + 1) (x + 1) (by omega))
        have e5 : ((x : Int) + 1).toNat = x + 1 := by omega
        simp only [e5]
        simpa using this
      conv => whnf
      have e6 : RW W f k x + f x k + PP W H f (x + 1) k = PP W H f (x + 1) (k + 1) := by rw [hpd k (x + 1) g4, hrs k x g5]
      refine ⟨⟨trivial, ?_⟩, ?_⟩
      · have := hpb (k + 1) (x + 1)
        rw [← e6] at this
        unfold rng; simp only; omega
      simp only [e6]
      refine OpAt.lit [.int .i64 (PP W H f (x + 1) (k + 1))] 1 rfl rfl rfl rfl rfl (by decide) rfl rfl rfl (by simp [Value.cells]) rfl (by decide) fun g2 => ?_
      conv => whnf
      refine ⟨trivial, OpAt.append1 (.slice (some ⟨A, 0, none⟩) (x + 1) q) (x + 1) 1 8 (arow W H f (k + 1) (x + 1)) [.int .i64 (PP W H f (x + 1) (k + 1))] (some ⟨g2, 0, none⟩) 1 1 _ rfl (fun h s => sepL_pull 1 s) rfl rfl rfl rfl rfl rfl rfl rfl rfl (by decide) (fun w hw => rowH_reads rfl (Sat.left hw)) (by simp [Value.oneCell']) (by simp only [maxLen]; omega) (by omega) (by omega) fun A' q' => ?_⟩
      conv => whnf
      refine ⟨⟨trivial, by unfold rng; simp only; omega⟩, .mk (x + 1, A', q') (by simp only; omega) (by simp only; omega) (Le.of (Nat.le_of_ble_eq_true rfl) (Nat.zero_le _) ⟨⟨rfl, rfl⟩, ⟨by simp only [hrs k x g5]; rfl, rfl⟩, ⟨⟨rfl, rfl⟩, ⟨rfl, rfl⟩, ⟨rfl, rfl⟩, ⟨rfl, rfl⟩, ⟨rfl, rfl⟩, ⟨rfl, rfl⟩, ⟨rfl, rfl⟩, ⟨rfl, rfl⟩, ⟨rfl, rfl⟩, trivial⟩⟩ ⟨⟨rfl, rfl, rfl, rfl⟩, trivial⟩ fun h s => ?_)⟩
      obtain ⟨h', e', s'⟩ := sub_drop1 s
      refine ⟨h', e', ?_⟩
      show sepL (rowH (.slice (some ⟨A', 0, none⟩) (x + 1 + 1) q') (x + 1 + 1) 2 1 (arow W H f (k + 1) (x + 1 + 1)) :: _) _ h'
      rw [hsu]
      exact s'
    · have g5 : W = x := by simp at h5; omega
      subst g5
      conv => whnf
      refine ⟨trivial, OpAt.lit [.slice (some ⟨A, 0, none⟩) (W + 1) q] 1 rfl rfl rfl rfl rfl (by decide) rfl rfl rfl (by simp [Value.cells]) rfl (by decide) fun g2 => ?_⟩
      conv => whnf
      refine ⟨trivial, OpAt.append1 (.slice (some ⟨lb, 0, none⟩) (k + 1) d) (k + 1) 1 24 (rowsV W b c (k + 1)) [.slice (some ⟨A, 0, none⟩) (W + 1) q] (some ⟨g2, 0, none⟩) 1 1 _ rfl (fun h s => sepL_pull 3 s) rfl rfl rfl rfl rfl rfl rfl rfl rfl (by decide) (fun w hw => rowH_reads rfl (Sat.left hw)) (by simp [Value.oneCell']) (by simp only [maxLen]; omega) (by omega) (by omega) fun lb' d' => ?_⟩
      conv => whnf
      refine ⟨⟨trivial, by unfold rng; simp only; omega⟩, .mk (k + 1, lb', d', fun j => if j = k + 1 then A else b j, fun j => if j = k + 1 then q else c j) (by simp only; omega) (by simp only; omega) (Le.of (Nat.le_of_ble_eq_true rfl) (Nat.zero_le _) ⟨⟨rfl, rfl⟩, ⟨rfl, rfl⟩, ⟨rfl, rfl⟩, ⟨rfl, rfl⟩, ⟨rfl, rfl⟩, trivial⟩ ⟨⟨rfl, rfl, rfl, rfl⟩, trivial⟩ fun h s => ?_)⟩
      obtain ⟨h3, e3, s3⟩ := sub_tail (sepL_pull 1 s)
      obtain ⟨h4, e4, s4⟩ := sub_tail (sepL_pull 2 s3)
      refine ⟨h4, fun i o u => e3 i o (e4 i o u), ?_⟩
      show sepL (aRr W lb' (k + 1 + 1) d' (fun j => if j = k + 1 then A else b j) (fun j => if j = k + 1 then q else c j) :: aRws W H f (fun j => if j = k + 1 then A else b j) (fun j => if j = k + 1 then q else c j) (k + 1 + 1)) _ h4
      unfold aRr
      rw [hvs, hws]
      exact sepL_perm ((List.perm_append_singleton _ _).symm.cons _) s4
  · have g4 : H = k := by simp at h4; omega
    subst g4
    conv => whnf
    intro tb _
    conv => whnf
    refine ⟨trivial, .mk [areaH tb W H f] (fun w ⟨h, hs, s⟩ => ⟨h, hs, hshut tb lb d b c h s⟩) ⟨tb, rfl, rfl⟩⟩
end Go.Proofs.YtlplbgbnojibmaaGreat

/-
  area's table: Size, Sum.
-/
namespace Go.Proofs.YtlplbgbnojibmaaGreat
open Go.RowKit
open Sy
set_option linter.unusedVariables false
set_option linter.unusedSimpArgs false
set_option maxRecDepth 100000
set_option maxHeartbeats 4000000

structure AreaAt (w : World) (tb lb d : Nat) (b c : Nat → Nat) (W H : Nat) (f : Nat → Nat → Int) : Prop where
  wd : w.cell? ⟨tb, 0, none⟩ = some (.int .i64 (W : Int))
  ht : w.cell? ⟨tb, 1, none⟩ = some (.int .i64 (H : Int))
  sl : w.cell? ⟨tb, 2, none⟩ = some (.slice (some ⟨lb, 0, none⟩) (H + 1) d)
  rw : ∀ k, k < H + 1 → w.cell? ⟨lb, 0 + k, none⟩ = some (.slice (some ⟨b k, 0, none⟩) (W + 1) (c k))
  ce : ∀ k j, k < H + 1 → j < W + 1 → w.cell? ⟨b k, 0 + j, none⟩ = some (.int .i64 (PP W H f j k))
theorem area_open {w : World} {tb W H : Nat} {f : Nat → Nat → Int} (s : Sat (areaH tb W H f) w) : ∃ lb d b c, AreaAt w tb lb d b c W H f := by
  obtain ⟨⟨lb, d, b, c⟩, s⟩ := Sat.unbox s
  have s1 := s.in_ 0 rfl
  refine ⟨lb, d, b, c, (blk_sat s1).cell 0, (blk_sat s1).cell 1, (blk_sat s1).cell 2, fun k hk => ?_, fun k j hk hj => ?_⟩
  · have := row_at (s.in_ 1 rfl) (by omega) (rowsV_at (W := W) (b := b) (c := c) hk)
    simpa using this
  · have h0 : (areaP tb W H f (lb, d, b, c))[k + 2]? = some (aRw W H f b c k) := aRws_at hk
    have := row_at (s.in_ (k + 2) h0) (by omega) (arow_at (W := W) (H := H) (f := f) (k := k) hj)
    simpa using this
theorem AreaAt.up {w w' : World} {tb lb d : Nat} {b c : Nat → Nat} {W H : Nat} {f : Nat → Nat → Int} (h : AreaAt w tb lb d b c W H f) (s : Sat (was w) w') : AreaAt w' tb lb d b c W H f :=
  ⟨was_cell s h.wd, was_cell s h.ht, was_cell s h.sl, fun k hk => was_cell s (h.rw k hk), fun k j hk hj => was_cell s (h.ce k j hk hj)⟩
theorem sASize {R : HP} {tb W H : Nat} {f : Nat → Nat → Int} (hR : ∀ w, Sat R w → Sat (areaH tb W H f) w) : PureR Tryz.prog R 94 [.pointer (some ⟨tb, 0, none⟩)] (.tuple #[.int .i64 W, .int .i64 H]) := by
  refine PureR.fix fun w hs => ?_
  obtain ⟨lb, d, b, c, hF⟩ := area_open (hR w hs)
  refine fn_of_run0 false Tryz.func94 rfl hmix rfl fun w0 => ?_
  conv => whnf
  refine ⟨trivial, RegAt.quiet hmix (by kernel_rfl) ?_⟩
  conv => whnf
  refine ⟨trivial, LoadAt.cell (.int .i64 (W : Int)) rfl rfl (fun w hw => (hF.up hw).wd) ?_⟩
  conv => whnf
  refine ⟨trivial, LoadAt.cell (.int .i64 (H : Int)) rfl rfl (fun w hw => (hF.up hw).ht) ?_⟩
  conv => whnf
  refine ⟨trivial, ?_⟩
  conv => whnf
  exact ⟨trivial, fin_pure rfl rfl⟩
theorem sArCheck {R : HP} {tb W H : Nat} {f : Nat → Nat → Int} (hW : W ≤ 1024) (hH : H ≤ 1024) (x0 y0 x1 y1 : Int) (hR : ∀ w, Sat R w → Sat (areaH tb W H f) w) : PureR Tryz.prog R 95 [.pointer (some ⟨tb, 0, none⟩), rectV x0 y0 x1 y1] (.int .i64 (withinZ x0 y0 x1 y1 W H)) := by
  refine PureR.fix fun w hs => ?_
  obtain ⟨lb, d, b, c, hF⟩ := area_open (hR w hs)
  refine fn_of_run0 false Tryz.func95 rfl hmix rfl fun w0 => ?_
  conv => whnf
  refine ⟨trivial, RegAt.quiet hmix (by kernel_rfl) ?_⟩
  conv => whnf
  refine ⟨trivial, LoadAt.cell (.int .i64 (W : Int)) rfl rfl (fun w hw => (hF.up hw).wd) ?_⟩
  conv => whnf
  refine ⟨trivial, LoadAt.cell (.int .i64 (H : Int)) rfl rfl (fun w hw => (hF.up hw).ht) ?_⟩
  conv => whnf
  refine ⟨trivial, CallQ.pure (fun R' hR' => pWithin x0 y0 x1 y1 W H (by omega) (by omega) R') ?_⟩
  conv => whnf
  refine ⟨trivial, ?_⟩
  conv => whnf
  exact ⟨trivial, fin_pure rfl rfl⟩
theorem sASumBad {R : HP} {tb W H : Nat} {f : Nat → Nat → Int} (hW : W ≤ 1024) (hH : H ≤ 1024) {x0 y0 x1 y1 : Int} (hb : withinZ x0 y0 x1 y1 W H ≠ 0) (hR : ∀ w, Sat R w → Sat (areaH tb W H f) w) : PureR Tryz.prog R 69 [.pointer (some ⟨tb, 0, none⟩), rectV x0 y0 x1 y1] (.tuple #[.int .i64 0, .int .i64 (withinZ x0 y0 x1 y1 W H)]) := by
  have hck := fun R' (h : ∀ w, Sat R' w → Sat (areaH tb W H f) w) => sArCheck hW hH x0 y0 x1 y1 h
  refine fn_of_run0 false Tryz.func69 rfl hmix rfl fun w0 => ?_
  conv => whnf
  refine ⟨trivial, CallAt.pure (fun R' hR' => hck R' (fun w s => hR w (hR' w s))) ?_⟩
  conv => whnf
  refine iff_t (by simpa using hb) ?_
  conv => whnf
  exact ⟨trivial, fin_pure rfl rfl⟩
theorem sASum {R : HP} {tb W H x0 y0 x1 y1 : Nat} {f : Nat → Nat → Int} (hf : Far W H f) (hW : W ≤ 1024) (hH : H ≤ 1024) (r2 : x0 ≤ x1) (r3 : x1 < W) (r5 : y0 ≤ y1) (r6 : y1 < H) (hR : ∀ w, Sat R w → Sat (areaH tb W H f) w) :
    PureR Tryz.prog R 69 [.pointer (some ⟨tb, 0, none⟩), rectV x0 y0 x1 y1] (.tuple #[.int .i64 (RS W H f x0 y0 x1 y1), .int .i64 0]) := by
  have hwi : withinZ x0 y0 x1 y1 W H = 0 := within_of ⟨by omega, by omega, by omega, by omega⟩ (by omega) (by omega) (by omega) (by omega) (by omega) (by omega)
  have hck := fun R' (h : ∀ w, Sat R' w → Sat (areaH tb W H f) w) => sArCheck hW hH x0 y0 x1 y1 h
  rw [hwi] at hck
  refine PureR.fix fun w hs => ?_
  have hS : ∀ w', Sat (was w) w' → Sat (areaH tb W H f) w' := fun w' s => by
    obtain ⟨h, e1, e2⟩ := hR w hs
    exact ⟨h, fun i o e => was_ext s (e1 i o e), e2⟩
  obtain ⟨lb, d, b, c, hF⟩ := area_open (hR w hs)
  have bP := fun x y => PP_bound (a := x) (b := y) hW hH hf
  have hRS := @RS_PP W H x0 y0 x1 y1 f r2 r5
  have e1 : (x1 : Int) + 1 = ((x1 + 1 : Nat) : Int) := by simp
  have e2 : (y1 : Int) + 1 = ((y1 + 1 : Nat) : Int) := by simp
  have hrw := fun w' (hw : Sat (was w) w') => (hF.up hw).rw
  have hce := fun w' (hw : Sat (was w) w') => (hF.up hw).ce
  have hsl := fun w' (hw : Sat (was w) w') => (hF.up hw).sl
  clear hF
  generalize PP W H f = P at *
  generalize RS W H f x0 y0 x1 y1 = S at *
  have b1 := bP (x1 + 1) (y1 + 1)
  have b2 := bP x0 (y1 + 1)
  have b3 := bP (x1 + 1) y0
  have b4 := bP x0 y0
  refine fn_of_run0 false Tryz.func69 rfl hmix rfl fun w0 => ?_
  conv => whnf
  refine ⟨trivial, CallAt.pure (fun R' hR' => hck R' (fun w s => hS w (hR' w s))) ?_⟩
  conv => whnf
  refine iff_f (by decide) ?_
  conv => whnf
  refine ⟨trivial, RegAt.quiet hmix (by kernel_rfl) ?_⟩
  conv => whnf
  refine ⟨trivial, LoadAt.cell (.slice (some ⟨lb, 0, none⟩) (H + 1) d) rfl rfl (fun w hw => hsl w hw) ?_⟩
  conv => whnf
  refine ⟨(by (repeat' apply And.intro) <;> first | exact True.intro | (unfold rng; omega) | omega), LoadAt.cell (.slice (some ⟨b y0, 0, none⟩) (W + 1) (c y0)) rfl rfl (fun w hw => by rw [Int.toNat_natCast]; exact hrw w hw y0 (by omega)) ?_⟩
  conv => whnf
  refine ⟨trivial, LoadAt.cell (.slice (some ⟨lb, 0, none⟩) (H + 1) d) rfl rfl (fun w hw => hsl w hw) ?_⟩
  conv => whnf
  rw [e2]
  refine ⟨(by (repeat' apply And.intro) <;> first | exact True.intro | (unfold rng; omega) | omega), LoadAt.cell (.slice (some ⟨b (y1 + 1), 0, none⟩) (W + 1) (c (y1 + 1))) rfl rfl (fun w hw => by rw [Int.toNat_natCast]; exact hrw w hw (y1 + 1) (by omega)) ?_⟩
  conv => whnf
  refine ⟨trivial, ?_⟩
  conv => whnf
  refine ⟨trivial, RegAt.quiet hmix (by kernel_rfl) ?_⟩
  conv => whnf
  rw [e1]
  refine ⟨(by (repeat' apply And.intro) <;> first | exact True.intro | (unfold rng; omega) | omega), LoadAt.cell (.int .i64 (P (x1 + 1) (y1 + 1))) rfl rfl (fun w hw => by rw [Int.toNat_natCast]; exact hce w hw (y1 + 1) (x1 + 1) (by omega) (by omega)) ?_⟩
  conv => whnf
  refine ⟨(by (repeat' apply And.intro) <;> first | exact True.intro | (unfold rng; omega) | omega), LoadAt.cell (.int .i64 (P x0 (y1 + 1))) rfl rfl (fun w hw => by rw [Int.toNat_natCast]; exact hce w hw (y1 + 1) x0 (by omega) (by omega)) ?_⟩
  conv => whnf
  rw [e1]
  refine ⟨(by (repeat' apply And.intro) <;> first | exact True.intro | (unfold rng; omega) | omega), LoadAt.cell (.int .i64 (P (x1 + 1) y0)) rfl rfl (fun w hw => by rw [Int.toNat_natCast]; exact hce w hw y0 (x1 + 1) (by omega) (by omega)) ?_⟩
  conv => whnf
  refine ⟨(by (repeat' apply And.intro) <;> first | exact True.intro | (unfold rng; omega) | omega), LoadAt.cell (.int .i64 (P x0 y0)) rfl rfl (fun w hw => by rw [Int.toNat_natCast]; exact hce w hw y0 x0 (by omega) (by omega)) ?_⟩
  conv => whnf
  refine ⟨(by (repeat' apply And.intro) <;> first | exact True.intro | (unfold rng; omega) | omega), ?_⟩
  conv => whnf
  refine ⟨trivial, fin_pure rfl ?_⟩
  show Value.tuple #[.int .i64 (P (x1 + 1) (y1 + 1) - P x0 (y1 + 1) - P (x1 + 1) y0 + P x0 y0), .int .i64 0] = _
  rw [hRS]
end Go.Proofs.YtlplbgbnojibmaaGreat

/-
  sparse.Build of a grid one cell high or wide.
-/
namespace Go.Proofs.YtlplbgbnojibmaaGreat
open Go.RowKit
open Sy
set_option linter.unusedVariables false
set_option linter.unusedSimpArgs false
set_option maxRecDepth 100000
set_option maxHeartbeats 4000000

theorem sLog1 (R : HP) : PureR Tryz.prog R 63 [.int .i64 1] (.int .i64 0) := by
  have h1 : ∀ R', PureR Tryz.prog R' 87 [.int .u64 1] (.int .i64 1) := fun R' => by
    refine fn_of_run0 false Tryz.func87 rfl hmix rfl fun w0 => ?_
    conv => whnf
    repeat (first | (refine ⟨fun _ => ?_, fun h => absurd h (by decide)⟩; conv => whnf) | (refine ⟨fun h => absurd h (by decide), fun _ => ?_⟩; conv => whnf))
    exact ⟨⟨⟨⟨trivial, by decide, by decide⟩, ⟨of_decide_eq_true (by kernel_rfl), of_decide_eq_true (by kernel_rfl)⟩⟩, ⟨of_decide_eq_true (by kernel_rfl), of_decide_eq_true (by kernel_rfl)⟩⟩, fin_pure rfl (by kernel_rfl)⟩
  refine fn_of_run0 false Tryz.func63 rfl hmix rfl fun w0 => ?_
  conv => whnf
  refine ⟨trivial, CallAt.pure (fun R' hR' => h1 R') ?_⟩
  conv => whnf
  exact ⟨⟨trivial, by unfold rng; omega⟩, fin_pure rfl rfl⟩
theorem sSBuild0 {R : HP} {gb W H : Nat} {f : Nat → Nat → Int} (hm : min W H = 1) (hR : ∀ w, Sat R w → GridAt w gb W H f) :
    FnR Tryz.prog R 32 [.pointer (some ⟨gb, 0, none⟩)] [] fun r hs => ∃ tb, r = .tuple #[.pointer (some ⟨tb, 0, none⟩), .int .i64 0] ∧ hs = [] := by
  refine FnR.of_sat fun w hs => ?_
  obtain ⟨w1, w2, h1, h2⟩ := (hR w hs).size
  clear hs
  have hval := fun (R' : HP) (h : ∀ w, Sat R' w → GridAt w gb W H f) => gValAll2 h
  have hn : W * H ≤ 1024 * 1024 := Nat.mul_le_mul w2 h2
  have hvl : (vRows f 0 W 0 H).length = W * H := by rw [vRows_len, Nat.mul_comm]
  have hmi : min (W : Int) (H : Int) = 1 := by omega
  have hget := fun i (h : i < (vRows f 0 W 0 H).length) => ints_at (vRows f 0 W 0 H) i h
  have hget' : ∀ i, i < W * H → ∃ v, (ints (vRows f 0 W 0 H))[i]? = some (.int .i64 v) := fun i h => ⟨_, hget i (by rw [hvl]; exact h)⟩
  clear hget
  generalize vRows f 0 W 0 H = V at *
  generalize W * H = n at *
  refine fn_of_run0 false Tryz.func32 rfl hmix rfl fun w0 => ?_
  conv => whnf
  refine ⟨trivial, CallAt.pure (fun R' hR' => gSize_p fun w s => hR w (hR' w s)) ?_⟩
  conv => whnf
  refine ⟨trivial, CallAt.pure (fun R' hR' => gAll_p fun w s => hR w (hR' w s)) ?_⟩
  conv => whnf
  refine ⟨trivial, CallAt.fn (pre := []) [] (fun h s => s) (fun R' hR' => hval R' fun w s => hR w (hR' w s)) ?_⟩
  rintro r hs ⟨vb, vc, rfl, rfl⟩
  conv => whnf
  refine ⟨trivial, OpAt.make n 2 (celsF n fun _ => (0, 0)) rfl rfl rfl rfl rfl rfl rfl rfl (made_rng _) (by show 16 * n ≤ _; omega) (by simp only [maxLen]; omega) fun g => ?_⟩
  conv => whnf
  refine ⟨trivial, LoopAt.heap (α := Nat × (Nat → Int × Int)) [4, 5, 6, 9, 42, 43] (fun a => [(44, .v (.int .i64 (a.1 : Int)))]) (fun a => [rowH (.slice (some ⟨g, 0, none⟩) n n) n 44 2 (celsF n a.2), rowH (.slice (some ⟨vb, 0, none⟩) n vc) n 2 1 (ints V)]) (fun a => a.1 ≤ n) (fun a => n - a.1) (0, fun _ => (0, 0)) (Nat.zero_le _) rfl ⟨⟨rfl, rfl⟩, trivial⟩ ⟨⟨rfl, rfl⟩, ⟨rfl, rfl⟩, ⟨rfl, rfl⟩, ⟨rfl, rfl⟩, ⟨rfl, rfl⟩, ⟨rfl, rfl⟩, trivial⟩ ⟨⟨rfl, rfl, rfl, rfl⟩, ⟨rfl, rfl, rfl, rfl⟩, trivial⟩ (fun h s => sub_same s) ?_⟩
  rintro ⟨i, c⟩ hi
  simp only at hi
  conv => whnf
  refine ⟨fun h => ?_, fun h => ?_⟩
  · have g1 : i < n := by simpa using h
    obtain ⟨v, hv⟩ := hget' i g1
    have hput := celsF_put (c := c) (v, v) g1
    conv => whnf
    refine ⟨⟨trivial, by omega⟩, LoadAt.cell (.int .i64 v) rfl rfl (fun w hw => by
      have := row_at (hw.in_ 1 rfl) (by omega) hv
      rw [Int.toNat_natCast]; simpa using this) ?_⟩
    conv => whnf
    refine ⟨⟨trivial, by simp only; omega, by simp only; omega⟩, OpAt.store g (0 + ((i : Nat) : Int).toNat * 2) (rngV v v) _ rfl (fun h s => s) rfl rfl rfl rfl rfl (by simp [Value.cells, Value.oneCell']) (fun h r => row_put (by simp [Value.cells]; omega) r) ?_⟩
    conv => whnf
    refine ⟨⟨trivial, by unfold rng; simp only; omega⟩, .mk (i + 1, upd c i (v, v)) (by simp only; omega) (by simp only; omega) (Le.of (Nat.le_of_ble_eq_true rfl) (Nat.zero_le _) ⟨⟨rfl, rfl⟩, ⟨rfl, rfl⟩, ⟨rfl, rfl⟩, ⟨rfl, rfl⟩, ⟨rfl, rfl⟩, ⟨rfl, rfl⟩, ⟨rfl, rfl⟩, trivial⟩ ⟨⟨rfl, rfl, rfl, rfl⟩, ⟨rfl, rfl, rfl, rfl⟩, trivial⟩ fun h s => sub_same ?_)⟩
    show sepL [rowH (.slice (some ⟨g, 0, none⟩) n n) n 44 2 (celsF n (upd c i (v, v))), _] _ h
    rw [← hput]
    have e3 : (0 + ((i : Nat) : Int).toNat * 2) = i * 2 := by omega
    rw [← e3]
    exact s
  · have g1 : i = n := by simp at h; omega
    subst g1
    conv => whnf
    refine ⟨trivial, RegAt.groups0 [([.T 0, .T 1, .T 2, .T 3, .T 4, .T 5, .H 6, .H 7], 8), ([.T 8], 9), ([.T 9], 10), ([.H 10], 11)] hmix (by kernel_rfl) ?_⟩
    conv => whnf
    refine ⟨trivial, OpAt.lit [.agg #[.int .i64 W, .slice (some ⟨g, 0, none⟩) i i]] 2 rfl rfl rfl rfl rfl (by decide) rfl rfl rfl (by simp [Value.cells]) rfl (by decide) fun g3 => ?_⟩
    conv => whnf
    refine ⟨trivial, ⟨⟨rfl, rfl⟩, fun h s => sub_nil s⟩, ?_⟩
    conv => whnf
    refine ⟨trivial, OpAt.append1 (.slice none 0 0) 0 2 32 [] [.int .i64 W, .slice (some ⟨g, 0, none⟩) i i] (some ⟨g3, 0, none⟩) 1 1 [rowH (.slice (some ⟨g3, 0, none⟩) 1 1) 1 142 2 (cellsOf [.agg #[.int .i64 W, .slice (some ⟨g, 0, none⟩) i i]]), rowH (.slice (some ⟨g, 0, none⟩) i i) i 44 2 (celsF i c), rowH (.slice (some ⟨vb, 0, none⟩) i vc) i 2 1 (ints V)] rfl (fun h s => row_nil (R := sepL _ _) _ _ s) rfl rfl rfl rfl rfl rfl rfl rfl rfl (by decide) (fun w hw => rowH_reads rfl (Sat.left hw)) (by simp [Value.oneCell']) (by decide) (by decide) (by decide) fun B' d' => ?_⟩
    conv => whnf
    refine ⟨trivial, ⟨⟨rfl, rfl⟩, fun h s => sub_nil s⟩, ?_⟩
    conv => whnf
    refine ⟨trivial, ?_⟩
    conv => whnf
    rw [hmi]
    conv => whnf
    refine ⟨trivial, CallAt.pure (fun R' hR' => sLog1 R') ?_⟩
    conv => whnf
    refine ⟨trivial, LoopAt.keep (α := Unit) [4, 5, 6, 70] (fun a => [(71, .v (.int .i64 0))]) (fun a => True) (fun a => 0) () trivial rfl ⟨⟨rfl, rfl⟩, trivial⟩ ⟨⟨rfl, rfl⟩, ⟨rfl, rfl⟩, ⟨rfl, rfl⟩, ⟨rfl, rfl⟩, trivial⟩ ⟨⟨rfl, rfl, rfl, rfl⟩, ⟨rfl, rfl, rfl, rfl⟩, trivial⟩ ?_⟩
    rintro - -
    conv => whnf
    refine iff_f rfl ?_
    conv => whnf
    intro tb _
    conv => whnf
    exact ⟨trivial, .mk [] (fun w ⟨h, hs, s⟩ => by obtain ⟨h', e, s'⟩ := sub_nil s; exact ⟨h', hs.mono e, s'⟩) ⟨tb, rfl, rfl⟩⟩
end Go.Proofs.YtlplbgbnojibmaaGreat

/-
  snap: Follow, Take (of a grid one cell high), and what isn't there.
-/
namespace Go.Proofs.YtlplbgbnojibmaaGreat
open Go.RowKit
open Sy
set_option linter.unusedVariables false
set_option linter.unusedSimpArgs false
set_option maxRecDepth 100000
set_option maxHeartbeats 4000000

noncomputable def liveP (lb gb W H : Nat) (f : Nat → Nat → Int) (x : Nat × Nat) : List HP := [blkH lb 81 #[.pointer (some ⟨gb, 0, none⟩), .pointer (some ⟨x.1, 0, none⟩), .pointer (some ⟨x.2, 0, none⟩)], fenH x.1 W H f, pyrH x.2 W H (Pf W H f)]
/-- indexes that go with a grid -/
noncomputable def liveH (lb gb W H : Nat) (f : Nat → Nat → Int) : HP := boxH (liveP lb gb W H f)
theorem sFollow {R : HP} {gb W H : Nat} {f : Nat → Nat → Int} (hf : Far W H f) (hR : ∀ w, Sat R w → GridAt w gb W H f) :
    FnR Tryz.prog R 9 [.pointer (some ⟨gb, 0, none⟩)] [] fun r hs => ∃ lb, r = .tuple #[.pointer (some ⟨lb, 0, none⟩), .int .i64 0] ∧ hs = [liveH lb gb W H f] := by
  have hfe := fun R' (h : ∀ w, Sat R' w → GridAt w gb W H f) => sFOf hf h
  have hpy := fun R' (h : ∀ w, Sat R' w → GridAt w gb W H f) => sBuild h
  refine fn_of_run0 false Tryz.func9 rfl hmix rfl fun w0 => ?_
  conv => whnf
  refine ⟨trivial, CallAt.fn (pre := []) [] (fun h s => s) (fun R' hR' => hfe R' fun w s => hR w (hR' w s)) ?_⟩
  rintro r hs ⟨fb, rfl, rfl⟩
  conv => whnf
  refine ⟨trivial, CallAt.fn (pre := []) _ (fun h s => s) (fun R' hR' => hpy R' fun w s => hR w (hR' w s).rest) ?_⟩
  rintro r hs ⟨pb, rfl, rfl⟩
  conv => whnf
  intro lb _
  conv => whnf
  refine ⟨trivial, .mk [liveH lb gb W H f] (fun w ⟨h, hs, s⟩ => ⟨h, hs, boxH_shut (parts := liveP lb gb W H f) (fb, pb) ?_⟩) ⟨lb, rfl, rfl⟩⟩
  exact sepL_perm (List.Perm.cons _ (List.Perm.swap _ _ _)) s
noncomputable def snapP (sb : Nat) (st : Int) (W H : Nat) (f : Nat → Nat → Int) (x : Nat × Nat) : List HP := [blkH sb 87 #[.int .i64 st, .pointer (some ⟨x.1, 0, none⟩), .pointer (some ⟨x.2, 0, none⟩)], areaH x.1 W H f]
/-- a snapshot: its stamp, its sums -/
noncomputable def snapH (sb : Nat) (st : Int) (W H : Nat) (f : Nat → Nat → Int) : HP := boxH (snapP sb st W H f)
theorem sTake {R : HP} {gb W H : Nat} {f : Nat → Nat → Int} (st : Int) (hm : min W H = 1) (hf : Far W H f) (hR : ∀ w, Sat R w → GridAt w gb W H f) :
    FnR Tryz.prog R 10 [.pointer (some ⟨gb, 0, none⟩), .int .i64 st] [] fun r hs => ∃ sb, r = .tuple #[.pointer (some ⟨sb, 0, none⟩), .int .i64 0] ∧ hs = [snapH sb st W H f] := by
  have har := fun R' (h : ∀ w, Sat R' w → GridAt w gb W H f) => sABuild hf h
  have hsp := fun R' (h : ∀ w, Sat R' w → GridAt w gb W H f) => sSBuild0 hm h
  refine fn_of_run0 false Tryz.func10 rfl hmix rfl fun w0 => ?_
  conv => whnf
  refine ⟨trivial, CallAt.fn (pre := []) [] (fun h s => s) (fun R' hR' => har R' fun w s => hR w (hR' w s)) ?_⟩
  rintro r hs ⟨ab, rfl, rfl⟩
  conv => whnf
  refine ⟨trivial, CallAt.fn (pre := []) _ (fun h s => s) (fun R' hR' => hsp R' fun w s => hR w (hR' w s).rest) ?_⟩
  rintro r hs ⟨qb, rfl, rfl⟩
  conv => whnf
  intro sb _
  conv => whnf
  exact ⟨trivial, .mk [snapH sb st W H f] (fun w ⟨h, hs, s⟩ => ⟨h, hs, boxH_shut (parts := snapP sb st W H f) (ab, qb) s⟩) ⟨sb, rfl, rfl⟩⟩
theorem sFollowNil (R : HP) : PureR Tryz.prog R 9 [.pointer none] (.tuple #[.pointer none, .int .i64 1]) := by
  refine fn_of_run0 false Tryz.func9 rfl hmix rfl fun w0 => ?_
  conv => whnf
  exact ⟨trivial, fin_pure rfl rfl⟩
theorem sTakeNil (v : Int) (R : HP) : PureR Tryz.prog R 10 [.pointer none, .int .i64 v] (.tuple #[.pointer none, .int .i64 1]) := by
  refine fn_of_run0 false Tryz.func10 rfl hmix rfl fun w0 => ?_
  conv => whnf
  exact ⟨trivial, fin_pure rfl rfl⟩
theorem sSnSizeNil (R : HP) : PureR Tryz.prog R 67 [.pointer none] (.tuple #[.int .i64 0, .int .i64 0]) := by
  refine fn_of_run0 false Tryz.func67 rfl hmix rfl fun w0 => ?_
  conv => whnf
  exact ⟨trivial, fin_pure rfl rfl⟩
theorem sSnSumNil (r : Q4) (R : HP) : PureR Tryz.prog R 35 [.pointer none, r.v] (.tuple #[.int .i64 0, .int .i64 1]) := by
  refine fn_of_run0 false Tryz.func35 rfl hmix rfl fun w0 => ?_
  conv => whnf
  exact ⟨trivial, fin_pure rfl rfl⟩
theorem sSnRangeNil (r : Q4) (R : HP) : PureR Tryz.prog R 36 [.pointer none, r.v] (.tuple #[rngV 0 0, .int .i64 1]) := by
  refine fn_of_run0 false Tryz.func36 rfl hmix rfl fun w0 => ?_
  conv => whnf
  exact ⟨trivial, fin_pure rfl rfl⟩
theorem sLvSumNil (s : Value) (v : Int) (r : Q4) (R : HP) : PureR Tryz.prog R 11 [.pointer none, s, .int .i64 v, r.v] (.tuple #[.int .i64 0, .bool false, .int .i64 1]) := by
  refine fn_of_run0 false Tryz.func11 rfl hmix rfl fun w0 => ?_
  conv => whnf
  exact ⟨trivial, fin_pure rfl rfl⟩
theorem sLvRangeNil (s : Value) (v : Int) (r : Q4) (R : HP) : PureR Tryz.prog R 13 [.pointer none, s, .int .i64 v, r.v] (.tuple #[rngV 0 0, .bool false, .int .i64 1]) := by
  refine fn_of_run0 false Tryz.func13 rfl hmix rfl fun w0 => ?_
  conv => whnf
  exact ⟨trivial, fin_pure rfl rfl⟩
theorem sChangedNil (r : Q4) (R : HP) : PureR Tryz.prog R 19 [.pointer none, r.v] (.int .i64 1) := by
  refine fn_of_run0 false Tryz.func19 rfl hmix rfl fun w0 => ?_
  conv => whnf
  exact ⟨trivial, fin_pure rfl rfl⟩
theorem sLvPyrNil (R : HP) : PureR Tryz.prog R 24 [.pointer none] (.pointer none) := by
  refine fn_of_run0 false Tryz.func24 rfl hmix rfl fun w0 => ?_
  conv => whnf
  exact ⟨trivial, fin_pure rfl rfl⟩
theorem sFreshNil (v : Int) (R : HP) : PureR Tryz.prog R 66 [.pointer none, .int .i64 v] (.bool false) := by
  refine fn_of_run0 false Tryz.func66 rfl hmix rfl fun w0 => ?_
  conv => whnf
  exact ⟨trivial, fin_pure rfl rfl⟩
end Go.Proofs.YtlplbgbnojibmaaGreat

/-
  snap: what tells; the sums.
-/
namespace Go.Proofs.YtlplbgbnojibmaaGreat
open Go.RowKit
open Sy
set_option linter.unusedVariables false
set_option linter.unusedSimpArgs false
set_option maxRecDepth 100000
set_option maxHeartbeats 4000000

theorem was_sat {R : HP} {w w' : World} (hs : Sat R w) (s : Sat (was w) w') : Sat R w' := by
  obtain ⟨h, e1, e2⟩ := hs
  exact ⟨h, fun i o e => was_ext s (e1 i o e), e2⟩
/-- the sum of a rectangle, and the code -/
noncomputable def sumZ (W H : Nat) (f : Nat → Nat → Int) (r : Q4) : Int × Int :=
  if withinZ r.x0 r.y0 r.x1 r.y1 W H = 0 then (RS W H f r.x0.toNat r.y0.toNat r.x1.toNat r.y1.toNat, 0) else (0, withinZ r.x0 r.y0 r.x1 r.y1 W H)
theorem within_q {r : Q4} {W H : Nat} (h : withinZ r.x0 r.y0 r.x1 r.y1 W H = 0) : ∃ x0 y0 x1 y1 : Nat, r = ⟨x0, y0, x1, y1⟩ ∧ x0 ≤ x1 ∧ x1 < W ∧ y0 ≤ y1 ∧ y1 < H := by
  obtain ⟨_, a1, a2, a3, a4, a5, a6⟩ := within_zero h
  obtain ⟨x0, y0, x1, y1⟩ := r
  simp only at *
  exact ⟨x0.toNat, y0.toNat, x1.toNat, y1.toNat, by rw [Int.toNat_of_nonneg a1, Int.toNat_of_nonneg a4, Int.toNat_of_nonneg (by omega), Int.toNat_of_nonneg (by omega)], by omega, by omega, by omega, by omega⟩
theorem sFSumAny {R : HP} {fb W H : Nat} {f : Nat → Nat → Int} {r : Q4} (hf : Far W H f) (hW : W ≤ 1024) (hH : H ≤ 1024) (hR : ∀ w, Sat R w → Sat (fenH fb W H f) w) :
    PureR Tryz.prog R 34 [.pointer (some ⟨fb, 0, none⟩), r.v] (.tuple #[.int .i64 (sumZ W H f r).1, .int .i64 (sumZ W H f r).2]) := by
  by_cases h : withinZ r.x0 r.y0 r.x1 r.y1 W H = 0
  · unfold sumZ
    rw [if_pos h]
    obtain ⟨x0, y0, x1, y1, rfl, h1, h2, h3, h4⟩ := within_q h
    exact sFSum hf hW hH h1 h2 h3 h4 hR
  · unfold sumZ
    rw [if_neg h]
    exact sFSumBad hW hH h hR
theorem sASumAny {R : HP} {tb W H : Nat} {f : Nat → Nat → Int} {r : Q4} (hf : Far W H f) (hW : W ≤ 1024) (hH : H ≤ 1024) (hR : ∀ w, Sat R w → Sat (areaH tb W H f) w) :
    PureR Tryz.prog R 69 [.pointer (some ⟨tb, 0, none⟩), r.v] (.tuple #[.int .i64 (sumZ W H f r).1, .int .i64 (sumZ W H f r).2]) := by
  by_cases h : withinZ r.x0 r.y0 r.x1 r.y1 W H = 0
  · unfold sumZ
    rw [if_pos h]
    obtain ⟨x0, y0, x1, y1, rfl, h1, h2, h3, h4⟩ := within_q h
    exact sASum hf hW hH h1 h2 h3 h4 hR
  · unfold sumZ
    rw [if_neg h]
    exact sASumBad hW hH h hR
theorem live_open {w : World} {lb gb W H : Nat} {f : Nat → Nat → Int} (s : Sat (liveH lb gb W H f) w) : ∃ fb pb, w.cell? ⟨lb, 0, none⟩ = some (.pointer (some ⟨gb, 0, none⟩)) ∧ w.cell? ⟨lb, 1, none⟩ = some (.pointer (some ⟨fb, 0, none⟩)) ∧ w.cell? ⟨lb, 2, none⟩ = some (.pointer (some ⟨pb, 0, none⟩)) ∧ Sat (fenH fb W H f) w ∧ Sat (pyrH pb W H (Pf W H f)) w := by
  obtain ⟨⟨fb, pb⟩, s⟩ := Sat.unbox s
  have s1 := s.in_ 0 rfl
  exact ⟨fb, pb, (blk_sat s1).cell 0, (blk_sat s1).cell 1, (blk_sat s1).cell 2, s.in_ 1 rfl, s.in_ 2 rfl⟩
theorem snap_open {w : World} {sb W H : Nat} {st : Int} {f : Nat → Nat → Int} (s : Sat (snapH sb st W H f) w) : ∃ ab, w.cell? ⟨sb, 0, none⟩ = some (.int .i64 st) ∧ w.cell? ⟨sb, 1, none⟩ = some (.pointer (some ⟨ab, 0, none⟩)) ∧ Sat (areaH ab W H f) w := by
  obtain ⟨⟨ab, qb⟩, s⟩ := Sat.unbox s
  have s1 := s.in_ 0 rfl
  exact ⟨ab, (blk_sat s1).cell 0, (blk_sat s1).cell 1, s.in_ 1 rfl⟩
theorem sFresh {R : HP} {sb W H : Nat} {st : Int} {f : Nat → Nat → Int} (v : Int) (hR : ∀ w, Sat R w → Sat (snapH sb st W H f) w) : PureR Tryz.prog R 66 [.pointer (some ⟨sb, 0, none⟩), .int .i64 v] (.bool (decide (st = v))) := by
  refine PureR.fix fun w hs => ?_
  obtain ⟨ab, c0, _, _⟩ := snap_open (hR w hs)
  refine fn_of_run0 false Tryz.func66 rfl hmix rfl fun w0 => ?_
  conv => whnf
  refine ⟨trivial, LoadAt.cell (.int .i64 st) rfl rfl (fun w hw => was_cell hw c0) ?_⟩
  conv => whnf
  exact ⟨trivial, fin_pure rfl rfl⟩
theorem sSnSize {R : HP} {sb W H : Nat} {st : Int} {f : Nat → Nat → Int} (hR : ∀ w, Sat R w → Sat (snapH sb st W H f) w) : PureR Tryz.prog R 67 [.pointer (some ⟨sb, 0, none⟩)] (.tuple #[.int .i64 W, .int .i64 H]) := by
  refine PureR.fix fun w hs => ?_
  obtain ⟨ab, _, c1, sa⟩ := snap_open (hR w hs)
  refine fn_of_run0 false Tryz.func67 rfl hmix rfl fun w0 => ?_
  conv => whnf
  refine ⟨trivial, LoadAt.cell (.pointer (some ⟨ab, 0, none⟩)) rfl rfl (fun w hw => was_cell hw c1) ?_⟩
  conv => whnf
  refine ⟨trivial, CallAt.pure (fun R' hR' => sASize (fun w s => was_sat sa (hR' w s))) ?_⟩
  conv => whnf
  exact ⟨trivial, fin_pure rfl rfl⟩
theorem sSnSum {R : HP} {sb W H : Nat} {st : Int} {f : Nat → Nat → Int} {r : Q4} (hf : Far W H f) (hW : W ≤ 1024) (hH : H ≤ 1024) (hR : ∀ w, Sat R w → Sat (snapH sb st W H f) w) : PureR Tryz.prog R 35 [.pointer (some ⟨sb, 0, none⟩), r.v] (.tuple #[.int .i64 (sumZ W H f r).1, .int .i64 (sumZ W H f r).2]) := by
  refine PureR.fix fun w hs => ?_
  obtain ⟨ab, _, c1, sa⟩ := snap_open (hR w hs)
  have hsum := fun R' (h : ∀ w, Sat R' w → Sat (areaH ab W H f) w) => sASumAny (r := r) hf hW hH h
  generalize sumZ W H f r = q at *
  refine fn_of_run0 false Tryz.func35 rfl hmix rfl fun w0 => ?_
  conv => whnf
  refine ⟨trivial, RegAt.quiet hmix (by kernel_rfl) ?_⟩
  conv => whnf
  refine ⟨trivial, LoadAt.cell (.pointer (some ⟨ab, 0, none⟩)) rfl rfl (fun w hw => was_cell hw c1) ?_⟩
  conv => whnf
  refine ⟨trivial, CallQ.pure (fun R' hR' => hsum R' (fun w s => was_sat sa (hR' w s))) ?_⟩
  conv => whnf
  refine ⟨trivial, ?_⟩
  conv => whnf
  exact ⟨trivial, fin_pure rfl rfl⟩
theorem sOldNo {R : HP} {lb : Nat} {s : Value} {v : Int} (h : ∀ R' : HP, (∀ w, Sat R' w → Sat R w) → PureR Tryz.prog R' 66 [s, .int .i64 v] (.bool false)) : PureR Tryz.prog R 33 [.pointer (some ⟨lb, 0, none⟩), s, .int .i64 v] (.bool false) := by
  refine fn_of_run0 false Tryz.func33 rfl hmix rfl fun w0 => ?_
  conv => whnf
  refine ⟨trivial, CallAt.pure (fun R' hR' => h R' (fun w s => hR' w s)) ?_⟩
  conv => whnf
  refine iff_t rfl ?_
  conv => whnf
  exact ⟨trivial, fin_pure rfl rfl⟩
theorem sOldYes {R : HP} {lb gb sb W H W' H' : Nat} {st : Int} {f g f' : Nat → Nat → Int} (hl : ∀ w, Sat R w → Sat (liveH lb gb W H f) w) (hg : ∀ w, Sat R w → GridAt w gb W H g) (hs : ∀ w, Sat R w → Sat (snapH sb st W' H' f') w) : PureR Tryz.prog R 33 [.pointer (some ⟨lb, 0, none⟩), .pointer (some ⟨sb, 0, none⟩), .int .i64 st] (.bool (decide (W = W') && decide (H = H'))) := by
  refine PureR.fix fun w hs' => ?_
  obtain ⟨fb, pb, c0, _⟩ := live_open (hl w hs')
  refine fn_of_run0 false Tryz.func33 rfl hmix rfl fun w0 => ?_
  conv => whnf
  refine ⟨trivial, CallAt.pure (fun R' hR' => sFresh st (fun w s => hs w (was_sat hs' (hR' w s)))) ?_⟩
  conv => whnf
  refine iff_f (by simp) ?_
  conv => whnf
  refine ⟨trivial, LoadAt.cell (.pointer (some ⟨gb, 0, none⟩)) rfl rfl (fun w hw => was_cell hw c0) ?_⟩
  conv => whnf
  refine ⟨trivial, CallAt.pure (fun R' hR' => gSize_p (fun w s => hg w (was_sat hs' (hR' w s)))) ?_⟩
  conv => whnf
  refine ⟨trivial, CallAt.pure (fun R' hR' => sSnSize (fun w s => hs w (was_sat hs' (hR' w s)))) ?_⟩
  conv => whnf
  refine ⟨fun h1 => ?_, fun h1 => ?_⟩
  · conv => whnf
    refine ⟨trivial, fin_pure rfl ?_⟩
    have e1 : decide (W = W') = true := by have := of_decide_eq_true h1; exact decide_eq_true (by omega)
    rw [e1]
    have e2 : decide ((H : Int) = (H' : Int)) = decide (H = H') := decide_eq_decide.2 (by omega)
    show Value.bool (decide ((H : Int) = (H' : Int))) = _
    rw [e2]; rfl
  · conv => whnf
    refine ⟨trivial, fin_pure rfl ?_⟩
    have e1 : decide (W = W') = false := by have := of_decide_eq_false h1; exact decide_eq_false (by omega)
    rw [e1]; rfl
theorem sLvSum {R : HP} {lb gb W H : Nat} {f : Nat → Nat → Int} {s : Value} {v : Int} {r : Q4} (hf : Far W H f) (hW : W ≤ 1024) (hH : H ≤ 1024) (hl : ∀ w, Sat R w → Sat (liveH lb gb W H f) w)
    (ho : ∀ R' : HP, (∀ w, Sat R' w → Sat R w) → PureR Tryz.prog R' 33 [.pointer (some ⟨lb, 0, none⟩), s, .int .i64 v] (.bool false)) :
    PureR Tryz.prog R 11 [.pointer (some ⟨lb, 0, none⟩), s, .int .i64 v, r.v] (.tuple #[.int .i64 (sumZ W H f r).1, .bool false, .int .i64 (sumZ W H f r).2]) := by
  have hsum := fun fb R' (h : ∀ w, Sat R' w → Sat (fenH fb W H f) w) => sFSumAny (fb := fb) (r := r) hf hW hH h
  generalize sumZ W H f r = q at *
  refine PureR.fix fun w hs' => ?_
  obtain ⟨fb, pb, c0, c1, c2, sf, sp⟩ := live_open (hl w hs')
  refine fn_of_run0 false Tryz.func11 rfl hmix rfl fun w0 => ?_
  conv => whnf
  refine ⟨trivial, CallAt.pure (fun R' hR' => ho R' (fun w s => was_sat hs' (hR' w s))) ?_⟩
  conv => whnf
  refine ⟨trivial, RegAt.quiet hmix (by kernel_rfl) ?_⟩
  conv => whnf
  refine ⟨trivial, LoadAt.cell (.pointer (some ⟨fb, 0, none⟩)) rfl rfl (fun w hw => was_cell hw c1) ?_⟩
  conv => whnf
  refine ⟨trivial, CallQ.pure (fun R' hR' => hsum fb R' (fun w s => was_sat sf (hR' w s))) ?_⟩
  conv => whnf
  refine ⟨trivial, ?_⟩
  conv => whnf
  refine iff_f rfl ?_
  conv => whnf
  repeat (first | (refine ⟨fun _ => ?_, fun h => absurd h (by decide)⟩; conv => whnf) | (refine ⟨fun h => absurd h (by decide), fun _ => ?_⟩; conv => whnf))
  exact ⟨trivial, fin_pure rfl rfl⟩
theorem sLvSumOld {R : HP} {lb gb W H : Nat} {f : Nat → Nat → Int} {s : Value} {v n e : Int} {r : Q4} (hf : Far W H f) (hW : W ≤ 1024) (hH : H ≤ 1024) (hl : ∀ w, Sat R w → Sat (liveH lb gb W H f) w)
    (ho : ∀ R' : HP, (∀ w, Sat R' w → Sat R w) → PureR Tryz.prog R' 33 [.pointer (some ⟨lb, 0, none⟩), s, .int .i64 v] (.bool true))
    (hn : ∀ R' : HP, (∀ w, Sat R' w → Sat R w) → PureR Tryz.prog R' 35 [s, r.v] (.tuple #[.int .i64 n, .int .i64 e])) :
    PureR Tryz.prog R 11 [.pointer (some ⟨lb, 0, none⟩), s, .int .i64 v, r.v] (.tuple #[.int .i64 n, .bool (decide (e = 0)), .int .i64 e]) := by
  have hsum := fun fb R' (h : ∀ w, Sat R' w → Sat (fenH fb W H f) w) => sFSumAny (fb := fb) (r := r) hf hW hH h
  generalize sumZ W H f r = q at *
  refine PureR.fix fun w hs' => ?_
  obtain ⟨fb, pb, c0, c1, c2, sf, sp⟩ := live_open (hl w hs')
  refine fn_of_run0 false Tryz.func11 rfl hmix rfl fun w0 => ?_
  conv => whnf
  refine ⟨trivial, CallAt.pure (fun R' hR' => ho R' (fun w s => was_sat hs' (hR' w s))) ?_⟩
  conv => whnf
  refine ⟨trivial, RegAt.quiet hmix (by kernel_rfl) ?_⟩
  conv => whnf
  refine ⟨trivial, LoadAt.cell (.pointer (some ⟨fb, 0, none⟩)) rfl rfl (fun w hw => was_cell hw c1) ?_⟩
  conv => whnf
  refine ⟨trivial, CallQ.pure (fun R' hR' => hsum fb R' (fun w s => was_sat sf (hR' w s))) ?_⟩
  conv => whnf
  refine ⟨trivial, ?_⟩
  conv => whnf
  refine iff_t rfl ?_
  conv => whnf
  refine ⟨trivial, CallAt.pure (fun R' hR' => hn R' (fun w s => was_sat hs' (hR' w s))) ?_⟩
  conv => whnf
  repeat (first | (refine ⟨fun _ => ?_, fun h => absurd h (by decide)⟩; conv => whnf) | (refine ⟨fun h => absurd h (by decide), fun _ => ?_⟩; conv => whnf))
  exact ⟨trivial, fin_pure rfl rfl⟩
end Go.Proofs.YtlplbgbnojibmaaGreat

/-
  snap: Changed.
-/
namespace Go.Proofs.YtlplbgbnojibmaaGreat
open Go.RowKit
open Sy
set_option linter.unusedVariables false
set_option linter.unusedSimpArgs false
set_option maxRecDepth 100000
set_option maxHeartbeats 4000000

/-- the first i cells of a rectangle as in g, the others as in f -/
def partG (x0 y0 nx i : Nat) (g f : Nat → Nat → Int) (x y : Nat) : Int := if x0 ≤ x ∧ x < x0 + nx ∧ y0 ≤ y ∧ (y - y0) * nx + (x - x0) < i then g x y else f x y
theorem partG_zero {x0 y0 nx : Nat} {g f : Nat → Nat → Int} : partG x0 y0 nx 0 g f = f := by
  funext x y
  unfold partG
  rw [if_neg (by omega)]
theorem spot_eq {nx i a b : Nat} (hn : 0 < nx) (ha : a < nx) : b * nx + a = i ↔ a = i % nx ∧ b = i / nx := by
  constructor
  · rintro rfl
    rw [Nat.mul_comm]
    refine ⟨?_, ?_⟩
    · rw [Nat.mul_add_mod, Nat.mod_eq_of_lt ha]
    · rw [Nat.mul_add_div hn, Nat.div_eq_of_lt ha, Nat.add_zero]
  · rintro ⟨rfl, rfl⟩
    have := Nat.div_add_mod i nx
    rw [Nat.mul_comm] at this
    exact this
theorem partG_at {x0 y0 nx i : Nat} {g f : Nat → Nat → Int} (hn : 0 < nx) : partG x0 y0 nx i g f (x0 + i % nx) (y0 + i / nx) = f (x0 + i % nx) (y0 + i / nx) := by
  have h1 := Nat.mod_lt i hn
  have h2 := (spot_eq (i := i) hn h1).2 ⟨rfl, rfl⟩
  unfold partG
  rw [if_neg]
  rintro ⟨_, _, _, h⟩
  rw [show y0 + i / nx - y0 = i / nx by omega, show x0 + i % nx - x0 = i % nx by omega] at h
  omega
theorem partG_succ {x0 y0 nx i x y : Nat} {g f : Nat → Nat → Int} (hn : 0 < nx) : partG x0 y0 nx (i + 1) g f x y = if x = x0 + i % nx ∧ y = y0 + i / nx then g x y else partG x0 y0 nx i g f x y := by
  have h1 := Nat.mod_lt i hn
  have h2 := (spot_eq (i := i) hn h1).2 ⟨rfl, rfl⟩
  unfold partG
  by_cases c : x0 ≤ x ∧ x < x0 + nx ∧ y0 ≤ y
  · obtain ⟨c1, c2, c3⟩ := c
    have h3 := spot_eq (i := i) (a := x - x0) (b := y - y0) hn (by omega)
    by_cases d : (y - y0) * nx + (x - x0) < i
    · rw [if_pos ⟨c1, c2, c3, by omega⟩, if_pos (show x0 ≤ x ∧ x < x0 + nx ∧ y0 ≤ y ∧ (y - y0) * nx + (x - x0) < i from ⟨c1, c2, c3, d⟩)]
      split <;> rfl
    · by_cases e : (y - y0) * nx + (x - x0) = i
      · have := h3.1 e
        rw [if_pos ⟨c1, c2, c3, by omega⟩, if_pos (show x = x0 + i % nx ∧ y = y0 + i / nx by omega)]
      · rw [if_neg (by omega), if_neg (show ¬ (x = x0 + i % nx ∧ y = y0 + i / nx) from fun q => e (h3.2 ⟨by omega, by omega⟩)), if_neg (by omega)]
  · rw [if_neg (fun q => c ⟨q.1, q.2.1, q.2.2.1⟩), if_neg (fun q => c ⟨by rw [q.1]; exact Nat.le_add_right _ _, by rw [q.1]; exact Nat.add_lt_add_left h1 _, by rw [q.2]; exact Nat.le_add_right _ _⟩), if_neg (fun q => c ⟨q.1, q.2.1, q.2.2.1⟩)]
theorem partG_all {x0 y0 x1 y1 x y : Nat} {g f : Nat → Nat → Int} (hx : x0 ≤ x1) (hy : y0 ≤ y1) : partG x0 y0 (x1 - x0 + 1) ((y1 - y0 + 1) * (x1 - x0 + 1)) g f x y = mergeG x0 y0 x1 y1 g f x y := by
  unfold partG mergeG
  by_cases c : x0 ≤ x ∧ x ≤ x1 ∧ y0 ≤ y
  · obtain ⟨c1, c2, c3⟩ := c
    have e : (y - y0) * (x1 - x0 + 1) + (x - x0) < (y1 - y0 + 1) * (x1 - x0 + 1) ↔ y ≤ y1 := by
      constructor
      · intro h
        by_cases d : y ≤ y1
        · exact d
        · have := Nat.mul_le_mul_right (x1 - x0 + 1) (show y1 - y0 + 1 ≤ y - y0 by omega)
          omega
      · intro h
        have := Nat.mul_le_mul_right (x1 - x0 + 1) (show (y - y0) + 1 ≤ y1 - y0 + 1 by omega)
        rw [Nat.add_mul] at this
        omega
    by_cases d : y ≤ y1
    · rw [if_pos ⟨c1, by omega, c3, e.2 d⟩, if_pos ⟨c1, c2, c3, d⟩]
    · rw [if_neg (fun q => d (e.1 q.2.2.2)), if_neg (fun q => d q.2.2.2)]
  · rw [if_neg (fun q => c ⟨q.1, by omega, q.2.2.1⟩), if_neg (fun q => c ⟨q.1, q.2.1, q.2.2.1⟩)]
theorem FF_congr {W H x y : Nat} {f g : Nat → Nat → Int} (h : ∀ a b, a < W → b < H → f a b = g a b) : FF W H f x y = FF W H g x y := by
  unfold FF
  exact dot_congr (fun _ _ => Iff.rfl) fun j hj _ => dot_congr (fun _ _ => Iff.rfl) fun i hi _ => h i j hi hj
theorem fenH_congr {fb W H : Nat} {f g : Nat → Nat → Int} (h : ∀ a b, a < W → b < H → f a b = g a b) : fenH fb W H f = fenH fb W H g := by
  have e : fenG W H f = fenG W H g := by
    funext m
    exact FF_congr h
  unfold fenH
  rw [e]
theorem pyrH_congr {pb W H : Nat} {f g : Nat → Nat → Int} (hW : 1 ≤ W) (hH : 1 ≤ H) (h : ∀ a b, a < W → b < H → f a b = g a b) : pyrH pb W H (Pf W H f) = pyrH pb W H (Pf W H g) := by
  unfold pyrH
  congr 1
  funext x
  exact pyrParts_congr (fun k i _ hi => Pf_congr hW hH hi h) x
/-- a rectangle that is none changes nothing -/
theorem sChangedBad {R : HP} {lb gb W H : Nat} {f g : Nat → Nat → Int} {r : Q4} (hb : withinZ r.x0 r.y0 r.x1 r.y1 W H ≠ 0) (hl : ∀ w, Sat R w → Sat (liveH lb gb W H f) w) (hg : ∀ w, Sat R w → GridAt w gb W H g) :
    PureR Tryz.prog R 19 [.pointer (some ⟨lb, 0, none⟩), r.v] (.int .i64 (withinZ r.x0 r.y0 r.x1 r.y1 W H)) := by
  have hv := fun R' (h : ∀ w, Sat R' w → GridAt w gb W H g) => gValuesBad h hb
  generalize withinZ r.x0 r.y0 r.x1 r.y1 W H = z at *
  refine PureR.fix fun w hs' => ?_
  obtain ⟨fb, pb, c0, c1, c2, sf, sp⟩ := live_open (hl w hs')
  refine fn_of_run0 false Tryz.func19 rfl hmix rfl fun w0 => ?_
  conv => whnf
  refine ⟨trivial, RegAt.quiet hmix (by kernel_rfl) ?_⟩
  conv => whnf
  refine ⟨trivial, LoadAt.cell (.pointer (some ⟨gb, 0, none⟩)) rfl rfl (fun w hw => was_cell hw c0) ?_⟩
  conv => whnf
  refine ⟨trivial, CallQ.pure (fun R' hR' => hv R' (fun w s => hg w (was_sat hs' (hR' w s)))) ?_⟩
  conv => whnf
  refine ⟨trivial, ?_⟩
  conv => whnf
  refine iff_t (by simpa using hb) ?_
  conv => whnf
  exact ⟨trivial, fin_pure rfl rfl⟩
theorem partG_far {W H x0 y0 nx i : Nat} {g f : Nat → Nat → Int} (hg : Far W H g) (hf : Far W H f) : Far W H (partG x0 y0 nx i g f) := by
  intro a b ha hb
  unfold partG
  split
  · exact hg a b ha hb
  · exact hf a b ha hb
theorem partG_add {x0 y0 nx i : Nat} {g f : Nat → Nat → Int} (hn : 0 < nx) : plusF (x0 + i % nx) (y0 + i / nx) (g (x0 + i % nx) (y0 + i / nx) - f (x0 + i % nx) (y0 + i / nx)) (partG x0 y0 nx i g f) = partG x0 y0 nx (i + 1) g f := by
  funext x y
  rw [partG_succ hn]
  unfold plusF
  by_cases c : x = x0 + i % nx ∧ y = y0 + i / nx
  · rw [if_pos c, if_pos c, c.1, c.2, partG_at hn]
    omega
  · rw [if_neg c, if_neg c]
theorem partG_skip {x0 y0 nx i : Nat} {g f : Nat → Nat → Int} (hn : 0 < nx) (h : g (x0 + i % nx) (y0 + i / nx) = f (x0 + i % nx) (y0 + i / nx)) : partG x0 y0 nx (i + 1) g f = partG x0 y0 nx i g f := by
  funext x y
  rw [partG_succ hn]
  by_cases c : x = x0 + i % nx ∧ y = y0 + i / nx
  · rw [if_pos c, c.1, c.2, partG_at hn, h]
  · rw [if_neg c]
theorem gValues_g {R : HP} {gb W H : Nat} {f : Nat → Nat → Int} (hR : ∀ w, Sat R w → GridAt w gb W H f) (x0 y0 x1 y1 : Nat) (r2 : x0 ≤ x1) (r3 : x1 < W) (r5 : y0 ≤ y1) (r6 : y1 < H) :
    FnR Tryz.prog R 45 [.pointer (some ⟨gb, 0, none⟩), rectV x0 y0 x1 y1] [] fun r hs => ∃ g c, r = .tuple #[.slice (some ⟨g, 0, none⟩) ((y1 - y0 + 1) * (x1 - x0 + 1)) c, .int .i64 0] ∧
      hs = [rowH (.slice (some ⟨g, 0, none⟩) ((y1 - y0 + 1) * (x1 - x0 + 1)) c) ((y1 - y0 + 1) * (x1 - x0 + 1)) 2 1 (ints (vRows f x0 (x1 - x0 + 1) y0 (y1 - y0 + 1)))] := by
  have hlen := vRows_len f x0 (x1 - x0 + 1) y0 (y1 - y0 + 1)
  have h := gValues_f hR x0 y0 x1 y1 r2 r3 r5 r6
  rw [hlen] at h
  intro w s
  refine (h w s).mono ?_
  rintro e w' ⟨r, hs, rfl, ⟨A, c, rfl, rfl⟩, s', hw⟩
  obtain ⟨g, rfl, _⟩ := rowH_at (Sat.left s') (Nat.mul_pos (by omega) (by omega))
  exact ⟨_, _, rfl, ⟨g, c, rfl, rfl⟩, s', hw⟩
abbrev lvHd (lb gb fb pb : Nat) : HP := blkH lb 81 #[.pointer (some ⟨gb, 0, none⟩), .pointer (some ⟨fb, 0, none⟩), .pointer (some ⟨pb, 0, none⟩)]
theorem sChanged {R : HP} {lb gb W H x0 y0 x1 y1 : Nat} {f g : Nat → Nat → Int} (hf : Far W H f) (hg : Far W H g) (hR : ∀ w, Sat R w → GridAt w gb W H g) (hx : x0 ≤ x1) (hy : y0 ≤ y1) (hx1 : x1 < W) (hy1 : y1 < H)
    (hag : ∀ a b, a < W → b < H → mergeG x0 y0 x1 y1 g f a b = g a b) :
    FnR Tryz.prog R 19 [.pointer (some ⟨lb, 0, none⟩), rectV x0 y0 x1 y1] [liveH lb gb W H f] fun v hs => v = .int .i64 0 ∧ hs = [liveH lb gb W H g] := by
  refine FnR.of_sat fun w hs => ?_
  obtain ⟨w1, w2, h1, h2⟩ := (hR w hs.rest).size
  clear hs w
  refine FnR.unbox fun ⟨fb, pb⟩ => ?_
  have hnx : 0 < x1 - x0 + 1 := by omega
  have hlen := vRows_len g x0 (x1 - x0 + 1) y0 (y1 - y0 + 1)
  have hnth := vRows_nth g x0 (x1 - x0 + 1) y0 hnx (y1 - y0 + 1)
  have hval := fun R' (h : ∀ w, Sat R' w → GridAt w gb W H g) => gValues_g h x0 y0 x1 y1 hx hx1 hy hy1
  have hofn := fun R' (h : ∀ w, Sat R' w → GridAt w gb W H g) => sFOf hg h
  have hrep := fun R' (h : ∀ w, Sat R' w → GridAt w gb W H g) => sRepairP (f := f) (pb := pb) h x0 y0 x1 y1 hx hy hx1 hy1
  rw [pyrH_congr w1 h1 hag] at hrep
  have hN : (y1 - y0 + 1) * (x1 - x0 + 1) ≤ 1024 * 1024 := Nat.mul_le_mul (by omega) (by omega)
  have hWH : W * H ≤ 1024 * 1024 := Nat.mul_le_mul w2 h2
  have z1 : (W : Int) * (H : Int) = ((W * H : Nat) : Int) := by simp
  have hshut : ∀ fb' h, sepL [lvHd lb gb fb' pb, fenH fb' W H g, pyrH pb W H (Pf W H g)] R h → sepL [liveH lb gb W H g] R h := fun fb' h s => boxH_shut (parts := liveP lb gb W H g) (fb', pb) s
  clear hlen
  generalize hVN : vRows g x0 (x1 - x0 + 1) y0 (y1 - y0 + 1) = V at *
  generalize hNN : (y1 - y0 + 1) * (x1 - x0 + 1) = N at *
  generalize hMM : W * H = M at *
  refine fn_of_run0 false Tryz.func19 rfl hmix rfl fun w0 => ?_
  conv => whnf
  refine ⟨trivial, RegAt.segs [5] hmix (by kernel_rfl) ?_⟩
  conv => whnf
  refine ⟨trivial, LoadAt.cell (.pointer (some ⟨gb, 0, none⟩)) rfl rfl (fun w hw => (blk_sat (hw.in_ 0 rfl)).cell 0) ?_⟩
  conv => whnf
  refine ⟨trivial, CallAt.fn (pre := []) _ (fun h s => s) (fun R' hR' => hval R' fun w s => hR w (hR' w s).rest) ?_⟩
  rintro r hs ⟨vb, vc, rfl, rfl⟩
  conv => whnf
  refine ⟨trivial, ?_⟩
  conv => whnf
  refine iff_f (by decide) ?_
  conv => whnf
  refine ⟨trivial, LoadAt.cell (.pointer (some ⟨gb, 0, none⟩)) rfl rfl (fun w hw => (blk_sat (hw.in_ 1 rfl)).cell 0) ?_⟩
  conv => whnf
  refine ⟨trivial, CallAt.pure (fun R' hR' => gSize_p (fun w s => hR w (hR' w s).rest)) ?_⟩
  conv => whnf
  rw [z1]
  refine ⟨fun hmany => ?_, fun hmany => ?_⟩
  · conv => whnf
    refine ⟨(by (repeat' apply And.intro) <;> first | exact True.intro | (unfold rng; omega) | omega), LoadAt.cell (.pointer (some ⟨gb, 0, none⟩)) rfl rfl (fun w hw => (blk_sat (hw.in_ 1 rfl)).cell 0) ?_⟩
    conv => whnf
    refine ⟨trivial, CallAt.fn (pre := []) _ (fun h s => s) (fun R' hR' => hofn R' fun w s => hR w (hR' w s).rest) ?_⟩
    rintro r hs ⟨fb', rfl, rfl⟩
    conv => whnf
    refine ⟨trivial, OpAt.store lb 1 (.pointer (some ⟨fb', 0, none⟩)) _ rfl (fun h s => sepL_pull 2 s) rfl rfl rfl rfl rfl (by simp [Value.cells, Value.oneCell']) (fun h r => blk_put (by show 1 + 1 ≤ 3; omega) r) ?_⟩
    conv => whnf
    refine ⟨trivial, RegAt.segs [9] hmix (by kernel_rfl) ?_⟩
    conv => whnf
    refine ⟨trivial, LoadAt.cell (.pointer (some ⟨pb, 0, none⟩)) rfl rfl (fun w hw => (blk_sat (hw.in_ 0 rfl)).cell 2) ?_⟩
    conv => whnf
    refine ⟨trivial, LoadAt.cell (.pointer (some ⟨gb, 0, none⟩)) rfl rfl (fun w hw => (blk_sat (hw.in_ 0 rfl)).cell 0) ?_⟩
    conv => whnf
    refine ⟨trivial, CallAt.fn (pre := [pyrH pb W H (Pf W H f)]) _ (fun h s => sepL_pull 4 s) (fun R' hR' => hrep R' fun w s => hR w (hR' w s).rest) ?_⟩
    rintro r hs ⟨rfl, rfl⟩
    conv => whnf
    refine ⟨trivial, ?_⟩
    conv => whnf
    refine ⟨trivial, .mk [liveH lb gb W H g] (fun w ⟨h, hs, s⟩ => ?_) ⟨rfl, rfl⟩⟩
    obtain ⟨h3, e3, s3⟩ := sub_tail (sepL_pull 3 s)
    obtain ⟨h4, e4, s4⟩ := sub_tail (sepL_pull 3 s3)
    exact ⟨h4, (hs.mono e3).mono e4, hshut fb' h4 (sepL_perm (List.Perm.cons _ (List.Perm.swap _ _ _)) (sepL_pull 1 s4))⟩
  · conv => whnf
    refine ⟨(by (repeat' apply And.intro) <;> first | exact True.intro | (unfold rng; omega) | omega), LoopAt.heap (α := Nat) [0, 3, 65, 66] (fun i => [(67, .v (.int .i64 (i : Int)))]) (fun i => [fenH fb W H (partG x0 y0 (x1 - x0 + 1) i g f), rowH (.slice (some ⟨vb, 0, none⟩) N vc) N 2 1 (ints V), lvHd lb gb fb pb, pyrH pb W H (Pf W H f)]) (fun i => i ≤ N) (fun i => N - i) 0 (Nat.zero_le _) rfl ⟨⟨rfl, rfl⟩, trivial⟩ ⟨⟨rfl, rfl⟩, ⟨rfl, rfl⟩, ⟨rfl, rfl⟩, ⟨rfl, rfl⟩, trivial⟩ ⟨⟨rfl, rfl, rfl, rfl⟩, trivial⟩ (fun h s => sub_same ?_) ?_⟩
    · rw [partG_zero]
      exact sepL_pull 2 s
    intro i hi
    conv => whnf
    refine ⟨fun h5 => ?_, fun h5 => ?_⟩
    · have g5 : i < N := by simpa using h5
      have hvi := hnth i g5
      have hvi' : (ints V)[i]? = some (.int .i64 (g (x0 + i % (x1 - x0 + 1)) (y0 + i / (x1 - x0 + 1)))) := by
        simp [ints, hvi]
      have hpa := partG_at (x0 := x0) (y0 := y0) (i := i) (g := g) (f := f) hnx
      have hfp := partG_far (x0 := x0) (y0 := y0) (nx := x1 - x0 + 1) (i := i) hg hf
      have hadd := partG_add (x0 := x0) (y0 := y0) (i := i) (g := g) (f := f) hnx
      have hskip := partG_skip (x0 := x0) (y0 := y0) (i := i) (g := g) (f := f) hnx
      have hNth := sNth x0 y0 x1 y1 i hx (by omega) hy (by omega) (by rw [Nat.mul_comm, hNN]; exact g5)
      have ha1 : x0 + i % (x1 - x0 + 1) < W := by have := Nat.mod_lt i hnx; omega
      have hb1 : y0 + i / (x1 - x0 + 1) < H := by
        have : i / (x1 - x0 + 1) < y1 - y0 + 1 := Nat.div_lt_of_lt_mul (by rw [Nat.mul_comm, hNN]; exact g5)
        omega
      have hfab := hf _ _ ha1 hb1
      have hgab := hg _ _ ha1 hb1
      generalize x0 + i % (x1 - x0 + 1) = a at *
      generalize y0 + i / (x1 - x0 + 1) = b at *
      have hat := fun R' (h : ∀ w, Sat R' w → Sat (fenH fb W H (partG x0 y0 (x1 - x0 + 1) i g f)) w) => sFAt hfp w2 h2 ha1 hb1 h
      rw [hpa] at hat
      have hplus := fun R' (hd : -1099511627776 ≤ f a b + (g a b - f a b) ∧ f a b + (g a b - f a b) ≤ 1099511627776) => sFAdd (R := R') (fb := fb) (d := g a b - f a b) hfp w2 h2 ha1 hb1 (by rw [hpa]; exact hd)
      rw [hadd] at hplus
      generalize partG x0 y0 (x1 - x0 + 1) i g f = F1 at *
      generalize hF2 : partG x0 y0 (x1 - x0 + 1) (i + 1) g f = F2 at *
      generalize g a b = ga at *
      generalize f a b = fa at *
      conv => whnf
      refine ⟨⟨trivial, by omega⟩, LoadAt.cell (.int .i64 ga) rfl rfl (fun w hw => by
        have := row_at (hw.in_ 1 rfl) (by omega) hvi'
        rw [Int.toNat_natCast]; simpa using this) ?_⟩
      conv => whnf
      refine ⟨trivial, CallAt.pure (fun R' hR' => hNth R') ?_⟩
      conv => whnf
      refine ⟨trivial, RegAt.quiet hmix (by kernel_rfl) ?_⟩
      conv => whnf
      refine ⟨trivial, LoadAt.cell (.pointer (some ⟨fb, 0, none⟩)) rfl rfl (fun w hw => (blk_sat (hw.in_ 2 rfl)).cell 1) ?_⟩
      conv => whnf
      refine ⟨trivial, CallQ.pure (fun R' hR' => hat R' (fun w s => (hR' w s).in_ 0 rfl)) ?_⟩
      conv => whnf
      refine ⟨trivial, ?_⟩
      conv => whnf
      refine ⟨fun h6 => ?_, fun h6 => ?_⟩
      · conv => whnf
        refine ⟨trivial, RegAt.segs [8] hmix (by kernel_rfl) ?_⟩
        conv => whnf
        refine ⟨trivial, LoadAt.cell (.pointer (some ⟨fb, 0, none⟩)) rfl rfl (fun w hw => (blk_sat (hw.in_ 2 rfl)).cell 1) ?_⟩
        conv => whnf
        refine ⟨(by (repeat' apply And.intro) <;> first | exact True.intro | (unfold rng; omega) | omega), CallAt.fn (pre := [fenH fb W H F1]) _ (fun h s => s) (fun R' hR' => hplus R' (by omega)) ?_⟩
        rintro r hs ⟨rfl, rfl⟩
        conv => whnf
        refine ⟨trivial, ?_⟩
        conv => whnf
        refine ⟨⟨trivial, by unfold rng; omega⟩, .mk (i + 1) (by omega) (by omega) (Le.of (Nat.le_of_ble_eq_true rfl) (Nat.zero_le _) ⟨⟨rfl, rfl⟩, ⟨rfl, rfl⟩, ⟨rfl, rfl⟩, ⟨rfl, rfl⟩, ⟨rfl, rfl⟩, trivial⟩ ⟨⟨rfl, rfl, rfl, rfl⟩, trivial⟩ fun h s => sub_same ?_)⟩
        show sepL (fenH fb W H (partG x0 y0 (x1 - x0 + 1) (i + 1) g f) :: _) _ h
        rw [hF2]
        exact s
      · have h7 : ga = fa := by simpa using h6
        have h8 := hskip h7
        conv => whnf
        refine ⟨⟨trivial, by unfold rng; omega⟩, .mk (i + 1) (by omega) (by omega) (Le.of (Nat.le_of_ble_eq_true rfl) (Nat.zero_le _) ⟨⟨rfl, rfl⟩, ⟨rfl, rfl⟩, ⟨rfl, rfl⟩, ⟨rfl, rfl⟩, ⟨rfl, rfl⟩, trivial⟩ ⟨⟨rfl, rfl, rfl, rfl⟩, trivial⟩ fun h s => sub_same ?_)⟩
        show sepL (fenH fb W H (partG x0 y0 (x1 - x0 + 1) (i + 1) g f) :: _) _ h
        rw [hF2, h8]
        exact s
    · have g5 : i = N := by simp at h5; omega
      have hall : fenH fb W H (partG x0 y0 (x1 - x0 + 1) i g f) = fenH fb W H g := fenH_congr fun a b ha hb => by
        rw [g5, ← hNN, partG_all hx hy]
        exact hag a b ha hb
      conv => whnf
      rw [hall]
      refine ⟨trivial, RegAt.segs [9] hmix (by kernel_rfl) ?_⟩
      conv => whnf
      refine ⟨trivial, LoadAt.cell (.pointer (some ⟨pb, 0, none⟩)) rfl rfl (fun w hw => (blk_sat (hw.in_ 2 rfl)).cell 2) ?_⟩
      conv => whnf
      refine ⟨trivial, LoadAt.cell (.pointer (some ⟨gb, 0, none⟩)) rfl rfl (fun w hw => (blk_sat (hw.in_ 2 rfl)).cell 0) ?_⟩
      conv => whnf
      refine ⟨trivial, CallAt.fn (pre := [pyrH pb W H (Pf W H f)]) _ (fun h s => sepL_pull 3 s) (fun R' hR' => hrep R' fun w s => hR w (hR' w s).rest) ?_⟩
      rintro r hs ⟨rfl, rfl⟩
      conv => whnf
      refine ⟨trivial, ?_⟩
      conv => whnf
      refine ⟨trivial, .mk [liveH lb gb W H g] (fun w ⟨h, hs, s⟩ => ?_) ⟨rfl, rfl⟩⟩
      obtain ⟨h3, e3, s3⟩ := sub_tail (sepL_pull 2 s)
      exact ⟨h3, hs.mono e3, hshut fb h3 (sepL_perm (List.Perm.cons _ (List.Perm.swap _ _ _)) (sepL_pull 2 s3))⟩
end Go.Proofs.YtlplbgbnojibmaaGreat

/-
  law 22: its awake; what isn't there tells nothing.
-/
namespace Go.Proofs.YtlplbgbnojibmaaGreat
open Go.RowKit
open Sy
set_option linter.unusedVariables false
set_option linter.unusedSimpArgs false
set_option maxRecDepth 100000
set_option maxHeartbeats 4000000

def s22a : Nat → Nat → Int := gv 2 [0, 7]
def s22b : Nat → Nat → Int := fillG ⟨0, 0, 0, 0⟩ 5 s22a
theorem far22 {f : Nat → Nat → Int} (h0 : -1099511627776 ≤ f 0 0 ∧ f 0 0 ≤ 1099511627776) (h1 : -1099511627776 ≤ f 1 0 ∧ f 1 0 ≤ 1099511627776) : Far 2 1 f := by
  intro a b ha hb
  obtain rfl : b = 0 := by omega
  rcases (show a = 0 ∨ a = 1 by omega) with rfl | rfl
  · exact h0
  · exact h1
theorem far22a : Far 2 1 s22a := far22 (by decide) (by decide)
theorem far22b : Far 2 1 s22b := far22 (by decide) (by decide)
theorem sum22 {f : Nat → Nat → Int} : sumZ 2 1 f ⟨0, 0, 1, 0⟩ = (f 0 0 + f 1 0, 0) := by
  unfold sumZ
  rw [if_pos (by decide)]
  simp [RS, dot_succ, dot_zero]
theorem hag22 : ∀ a b, a < 2 → b < 1 → mergeG 0 0 0 0 s22b s22a a b = s22b a b := by
  intro a b ha hb
  obtain rfl : b = 0 := by omega
  rcases (show a = 0 ∨ a = 1 by omega) with rfl | rfl <;> decide
theorem lv22 {R : HP} {lb gb sb : Nat} (h1 : ∀ w, Sat R w → Sat (liveH lb gb 2 1 s22b) w) (h2 : ∀ w, Sat R w → GridAt w gb 2 1 s22b) (h3 : ∀ w, Sat R w → Sat (snapH sb 3 2 1 s22a) w) : PureR Tryz.prog R 11 [.pointer (some ⟨lb, 0, none⟩), .pointer (some ⟨sb, 0, none⟩), .int .i64 3, rectV 0 0 1 0] (.tuple #[.int .i64 7, .bool true, .int .i64 0]) := by
  have ho : ∀ R2 : HP, (∀ w, Sat R2 w → Sat R w) → PureR Tryz.prog R2 33 [.pointer (some ⟨lb, 0, none⟩), .pointer (some ⟨sb, 0, none⟩), .int .i64 3] (.bool true) := fun R2 k => by
    have h := sOldYes (fun w s => h1 w (k w s)) (fun w s => h2 w (k w s)) (fun w s => h3 w (k w s))
    have e : (decide (2 = 2) && decide (1 = 1)) = true := by decide
    rw [e] at h
    exact h
  have hn : ∀ R2 : HP, (∀ w, Sat R2 w → Sat R w) → PureR Tryz.prog R2 35 [.pointer (some ⟨sb, 0, none⟩), Q4.v ⟨0, 0, 1, 0⟩] (.tuple #[.int .i64 7, .int .i64 0]) := fun R2 k => by
    have q := sSnSum (r := ⟨0, 0, 1, 0⟩) far22a (by decide) (by decide) (fun w s => h3 w (k w s))
    rw [sum22, show s22a 0 0 + s22a 1 0 = 7 by decide] at q
    exact q
  have h := sLvSumOld far22b (by decide) (by decide) h1 ho hn
  have e : decide ((0 : Int) = 0) = true := by decide
  rw [e] at h
  exact h
theorem no22 {R : HP} {lb gb sb : Nat} (h1 : ∀ w, Sat R w → Sat (liveH lb gb 2 1 s22b) w) (h3 : ∀ w, Sat R w → Sat (snapH sb 3 2 1 s22a) w) : PureR Tryz.prog R 11 [.pointer (some ⟨lb, 0, none⟩), .pointer (some ⟨sb, 0, none⟩), .int .i64 4, rectV 0 0 1 0] (.tuple #[.int .i64 12, .bool false, .int .i64 0]) := by
  have ho : ∀ R2 : HP, (∀ w, Sat R2 w → Sat R w) → PureR Tryz.prog R2 33 [.pointer (some ⟨lb, 0, none⟩), .pointer (some ⟨sb, 0, none⟩), .int .i64 4] (.bool false) := fun R2 k => sOldNo (fun R3 k3 => by
    have h := sFresh 4 (fun w s => h3 w (k w (k3 w s)))
    have e : decide ((3 : Int) = 4) = false := by decide
    rw [e] at h
    exact h)
  have h := sLvSum (r := ⟨0, 0, 1, 0⟩) far22b (by decide) (by decide) h1 ho
  rw [sum22, show s22b 0 0 + s22b 1 0 = 12 by decide] at h
  exact h
/-- what comes behind the first part of a body is named, so that nobody looks into it too early -/
theorem run_cut {G : Gl} {a b : Code} {st : St} {K R : St → Prop} {E : Nat → St → Prop} (h : ∀ b', b' = b → run G (.seq a b') st K E R) : run G (.seq a b) st K E R := h b rfl
theorem sAwake22 (R : HP) : PureR Tryz.prog R 6 [] (.bool true) := by
  have hfrom : ∀ {R' : HP} {A : Option Addr} {c : Nat}, Vs R' A 2 [0, 7] → FnR Tryz.prog R' 25 [.int .i64 2, .int .i64 1, .slice A 2 c] [] fun r hs => ∃ gb, r = .tuple #[.pointer (some ⟨gb, 0, none⟩), .int .i64 0] ∧ hs = [gridH gb 2 1 s22a] := fun h => sFrom (W := 2) (H := 1) (l := [0, 7]) h (by simp [MayV]) (by decide) (by decide) (by decide) (by decide) rfl
  obtain ⟨L1, L2, S1, hfol, htak, hchg, h7, h12⟩ : ∃ (L1 L2 : Nat → Nat → HP) (S1 : Nat → HP),
      (∀ {R' : HP} {gb : Nat}, (∀ w, Sat R' w → GridAt w gb 2 1 s22a) → FnR Tryz.prog R' 9 [.pointer (some ⟨gb, 0, none⟩)] [] fun r hs => ∃ lb, r = .tuple #[.pointer (some ⟨lb, 0, none⟩), .int .i64 0] ∧ hs = [L1 lb gb]) ∧
      (∀ {R' : HP} {gb : Nat}, (∀ w, Sat R' w → GridAt w gb 2 1 s22a) → FnR Tryz.prog R' 10 [.pointer (some ⟨gb, 0, none⟩), .int .i64 3] [] fun r hs => ∃ sb, r = .tuple #[.pointer (some ⟨sb, 0, none⟩), .int .i64 0] ∧ hs = [S1 sb]) ∧
      (∀ {R' : HP} {lb gb : Nat}, (∀ w, Sat R' w → GridAt w gb 2 1 s22b) → FnR Tryz.prog R' 19 [.pointer (some ⟨lb, 0, none⟩), rectV 0 0 0 0] [L1 lb gb] fun r hs => r = .int .i64 0 ∧ hs = [L2 lb gb]) ∧
      (∀ {R : HP} {lb gb sb : Nat} (h1 : ∀ w, Sat R w → Sat (L2 lb gb) w) (h2 : ∀ w, Sat R w → GridAt w gb 2 1 s22b) (h3 : ∀ w, Sat R w → Sat (S1 sb) w), PureR Tryz.prog R 11 [.pointer (some ⟨lb, 0, none⟩), .pointer (some ⟨sb, 0, none⟩), .int .i64 3, rectV 0 0 1 0] (.tuple #[.int .i64 7, .bool true, .int .i64 0])) ∧
      (∀ {R : HP} {lb gb sb : Nat} (h1 : ∀ w, Sat R w → Sat (L2 lb gb) w) (h3 : ∀ w, Sat R w → Sat (S1 sb) w), PureR Tryz.prog R 11 [.pointer (some ⟨lb, 0, none⟩), .pointer (some ⟨sb, 0, none⟩), .int .i64 4, rectV 0 0 1 0] (.tuple #[.int .i64 12, .bool false, .int .i64 0])) :=
    ⟨fun lb gb => liveH lb gb 2 1 s22a, fun lb gb => liveH lb gb 2 1 s22b, fun sb => snapH sb 3 2 1 s22a, fun h => sFollow far22a h, fun h => sTake 3 (by decide) far22a h, fun h => sChanged (x0 := 0) (y0 := 0) (x1 := 0) (y1 := 0) far22a far22b h (by decide) (by decide) (by decide) (by decide) hag22, lv22, no22⟩
  have hset : ∀ {R' : HP} {gb : Nat}, FnR Tryz.prog R' 26 [.pointer (some ⟨gb, 0, none⟩), cellV 0 0, .int .i64 5] [gridH gb 2 1 s22a] fun r hs => r = .int .i64 0 ∧ hs = [gridH gb 2 1 s22b] := gSet_f 0 0 5 (by decide) (by decide) (by decide)
  have hall : ∀ {R' : HP} {gb : Nat}, (∀ w, Sat R' w → GridAt w gb 2 1 s22b) → PureR Tryz.prog R' 27 [.pointer (some ⟨gb, 0, none⟩)] (rectV 0 0 1 0) := fun h => gAll_p h
  generalize s22a = f1 at *
  generalize s22b = f2 at *
  refine fn_of_run0 false Tryz.func6 rfl hmix rfl fun w0 => ?_
  refine run_cut fun B hB => ?_
  conv => whnf
  (rw [hB]; clear hB B; refine run_cut fun B hB => ?_; conv => whnf)
  refine ⟨trivial, OpAt.lit [.int .i64 0, .int .i64 7] 1 rfl rfl rfl rfl rfl (by decide) rfl rfl rfl (by simp [Value.cells]) rfl (by decide) fun g => ?_⟩
  conv => whnf
  refine ⟨trivial, CallAt.fn (pre := []) _ (fun h s => s) (fun R' hR' => hfrom (Vs.row fun w s => (hR' w s).in_ 0 rfl)) ?_⟩
  rintro r hs ⟨gb, rfl, rfl⟩
  conv => whnf
  (rw [hB]; clear hB B; refine run_cut fun B hB => ?_; conv => whnf)
  refine ⟨trivial, CallAt.fn (pre := []) _ (fun h s => s) (fun R' hR' => hfol (gridAt_rest 0 rfl hR')) ?_⟩
  rintro r hs ⟨lb, rfl, rfl⟩
  conv => whnf
  (rw [hB]; clear hB B; refine run_cut fun B hB => ?_; conv => whnf)
  refine ⟨trivial, CallAt.fn (pre := []) _ (fun h s => s) (fun R' hR' => htak (gridAt_rest 1 rfl hR')) ?_⟩
  rintro r hs ⟨sb, rfl, rfl⟩
  conv => whnf
  (rw [hB]; clear hB B; refine run_cut fun B hB => ?_; conv => whnf)
  refine ⟨trivial, CallAt.fn (pre := [gridH gb 2 1 f1]) _ (fun h s => sepL_pull 2 s) (fun R' hR' => hset) ?_⟩
  rintro r hs ⟨rfl, rfl⟩
  conv => whnf
  (rw [hB]; clear hB B; refine run_cut fun B hB => ?_; conv => whnf)
  refine ⟨trivial, CallAt.fn (pre := [L1 lb gb]) _ (fun h s => sepL_pull 2 s) (fun R' hR' => hchg (gridAt_rest 0 rfl hR')) ?_⟩
  rintro r hs ⟨rfl, rfl⟩
  conv => whnf
  (rw [hB]; clear hB B; refine run_cut fun B hB => ?_; conv => whnf)
  refine ⟨trivial, CallAt.pure (fun R' hR' => hall (gridAt_rest 1 rfl hR')) ?_⟩
  conv => whnf
  refine ⟨trivial, CallAt.pure (fun R' hR' => h7 (fun w s => (hR' w s).in_ 0 rfl) (gridAt_rest 1 rfl hR') (fun w s => (hR' w s).in_ 2 rfl)) ?_⟩
  conv => whnf
  (rw [hB]; clear hB B; refine run_cut fun B hB => ?_; conv => whnf)
  refine ⟨trivial, CallAt.pure (fun R' hR' => hall (gridAt_rest 1 rfl hR')) ?_⟩
  conv => whnf
  refine ⟨trivial, CallAt.pure (fun R' hR' => h12 (fun w s => (hR' w s).in_ 0 rfl) (fun w s => (hR' w s).in_ 2 rfl)) ?_⟩
  conv => whnf
  (rw [hB]; clear hB B; conv => whnf)
  repeat (first | (refine ⟨fun _ => ?_, fun h => absurd h (by decide)⟩; conv => whnf) | (refine ⟨fun h => absurd h (by decide), fun _ => ?_⟩; conv => whnf))
  exact ⟨trivial, .mk [] (fun w ⟨h, hs, s⟩ => by obtain ⟨h', e, s'⟩ := sub_nil s; exact ⟨h', hs.mono e, s'⟩) ⟨rfl, rfl⟩⟩
end Go.Proofs.YtlplbgbnojibmaaGreat

