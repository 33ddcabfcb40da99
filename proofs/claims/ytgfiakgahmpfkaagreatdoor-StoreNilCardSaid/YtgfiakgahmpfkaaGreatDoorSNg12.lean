/-
  Texts of the proofs, one behind the other: BldS, ScM, ScPa, TintF, TintG, OpenOp.
-/
import Derived.Test.YtgfiakgahmpfkaaGreatDoorSNg11
import Derived.Test.YtgfiakgahmpfkaaGreatDoorSNg10
import Derived.Test.YtgfiakgahmpfkaaGreatDoorSNg09
namespace Go.Proofs.YtgfiakgahmpfkaaGreatDoor
open Go.RowKit
open Sy
set_option linter.unusedVariables false
set_option linter.unusedSimpArgs false
set_option maxRecDepth 100000
set_option maxHeartbeats 4000000



/-- what an op says, its rows apart -/
structure OpN where
  kind : Int
  x0 : Int
  y0 : Int
  x1 : Int
  y1 : Int
  ax : Int
  ay : Int
  bx : Int
  b_y : Int
  n : Int
  m : Int
structure OpN.ok (o : OpN) : Prop where
  x0 : I64 o.x0
  y0 : I64 o.y0
  x1 : I64 o.x1
  y1 : I64 o.y1
  ax : I64 o.ax
  ay : I64 o.ay
  bx : I64 o.bx
  b_y : I64 o.b_y
  n : I64 o.n
  m : I64 o.m
def opC (o : OpN) (v1 v2 v3 : Value) : Array Value := #[.int .i64 o.kind, .int .i64 o.x0, .int .i64 o.y0, .int .i64 o.x1, .int .i64 o.y1, .int .i64 o.ax, .int .i64 o.ay, .int .i64 o.bx, .int .i64 o.b_y, .int .i64 o.n, .int .i64 o.m, v1, v2, v3]


open Go.ChangeShapes Go.WideShapes Go.ChangeAt Go.RowKit Go.Joins Sy

/-- what an op says, whole -/
structure OpF where
  o : OpN
  vals : List Int
  byts : List UInt8
  bands : List Bd
/-- where its rows lie -/
structure OpA where
  A1 : Option Addr
  c1 : Nat
  A2 : Option Addr
  c2 : Nat
  A3 : Option Addr
  c3 : Nat
abbrev opCs (q : OpA) (x : OpF) : Array Value := opC x.o (.slice q.A1 x.vals.length q.c1) (.slice q.A2 x.byts.length q.c2) (.slice q.A3 x.bands.length q.c3)
def opV (q : OpA) (x : OpF) : Value := .agg (opCs q x)
def I32 (z : Int) : Prop := -2147483648 ≤ z ∧ z ≤ 2147483647
structure OpF.ok (x : OpF) : Prop where
  o : x.o.ok
  kind : I64 x.o.kind
  vals : ∀ c ∈ x.vals, I64 c
  bands : ∀ b ∈ x.bands, I64 b.f ∧ I32 b.s
/-- the rows as they are read -/
structure OpS (R : HP) (q : OpA) (x : OpF) : Prop where
  vals : Sl R q.A1 x.vals.length 1 (x.vals.flatMap numL)
  byts : Sl R q.A2 x.byts.length 1 (byV x.byts)
  bands : Sl R q.A3 x.bands.length 2 (bcel x.bands)
  k1 : x.vals.length ≤ q.c1 ∧ q.c1 ≤ maxLen
  k2 : x.byts.length ≤ q.c2 ∧ q.c2 ≤ maxLen
  k3 : x.bands.length ≤ q.c3 ∧ q.c3 ≤ maxLen
theorem OpS.mono {R R' : HP} {q : OpA} {x : OpF} (h : OpS R q x) (hr : ∀ w, Sat R' w → Sat R w) : OpS R' q x := ⟨h.vals.mono hr, h.byts.mono hr, h.bands.mono hr, h.k1, h.k2, h.k3⟩
theorem leaf_rect : ∀ j, j < 4 → leafK Tryz.prog 6 23 j = some .i64 := fun j hj => by rcases (show j = 0 ∨ j = 1 ∨ j = 2 ∨ j = 3 by omega) with rfl | rfl | rfl | rfl <;> kernel_rfl
theorem leaf_band : ∀ j, j < 2 → leafK Tryz.prog 6 358 j = some (if j = 0 then .i64 else .i32) := fun j hj => by rcases (show j = 0 ∨ j = 1 by omega) with rfl | rfl <;> kernel_rfl
theorem array14 {α : Type} {cs : Array α} (h : cs.size = 14) : ∃ c0 c1 c2 c3 c4 c5 c6 c7 c8 c9 c10 c11 c12 c13, cs = #[c0, c1, c2, c3, c4, c5, c6, c7, c8, c9, c10, c11, c12, c13] := by
  obtain ⟨l⟩ := cs
  match l, h with
  | [c0, c1, c2, c3, c4, c5, c6, c7, c8, c9, c10, c11, c12, c13], _ => exact ⟨c0, c1, c2, c3, c4, c5, c6, c7, c8, c9, c10, c11, c12, c13, rfl⟩
theorem bounds_32 {z : Int} (h : (Lit.int .i32 z).wf = true) : I32 z := by
  simp [Lit.wf, IntKind.min, IntKind.max, IntKind.signed, IntKind.bits] at h
  unfold I32
  omega
theorem open_opBands {H : Type} {enc : TypeId × Value → H} {w : World} {base : Nat} {spare : Nat → Bool} {held : Bool} {fuel : Nat} {v : Value} {x : DataW H × List MemPlace} (h : DataW.trod enc Tryz.prog w base spare held fuel 28 [v] = some x) :
    ∃ A n c, ∃ l : List Bd, v = .slice A n c ∧ l.length = n ∧ Reads w w.heap.size 2 A n (bcel l) ∧ n ≤ c ∧ c ≤ maxLen ∧ ∀ b ∈ l, I64 b.f ∧ I32 b.s := by
  rcases open_flat 2 (fun j => if j = 0 then .i64 else .i32) Tryz.underlying28 (by kernel_rfl) leaf_band h with hcs | ⟨y, n, c, zs, hcs, hl, hm, hz⟩
  · simp only [List.cons.injEq, and_true] at hcs
    exact ⟨none, 0, 0, [], hcs, rfl, Reads.empty, Nat.le_refl _, by simp [maxLen], fun a ha => by cases ha⟩
  · simp only [List.cons.injEq, and_true] at hcs
    refine ⟨some y, n, c, (List.range n).map fun i => ⟨zs i 0, zs i 1⟩, hcs, by simp, reads_flat (by decide) hz (by rw [bcel_len]; simp) (fun i j hi hj => ?_), hl, hm, fun b hb => ?_⟩
    · obtain ⟨f1, f2⟩ := bcel_at (l := (List.range n).map fun i => (⟨zs i 0, zs i 1⟩ : Bd)) (i := i) (by simpa using hi)
      simp only [List.getElem_map, List.getElem_range] at f1 f2
      rcases (show j = 0 ∨ j = 1 by omega) with rfl | rfl
      · exact f1
      · exact f2
    · obtain ⟨i, hi, rfl⟩ := List.mem_map.1 hb
      have hi := List.mem_range.1 hi
      exact ⟨bounds_i64 (hz i 0 hi (by decide)).2, bounds_32 (hz i 1 hi (by decide)).2⟩
theorem open_op {H : Type} {enc : TypeId × Value → H} {w : World} {base b0 : Nat} {spare : Nat → Bool} {held : Bool} {r : Reach} {v : Value} {d : DataW H} {ps : List MemPlace} (hval : Value.okWide Tryz.prog w r b0 30 v) (h : DataW.Trod enc Tryz.prog w base spare held 30 v d ps) :
    ∃ q x, v = opV q x ∧ x.ok ∧ OpS (was w) q x := by
  obtain ⟨cs, rfl, hsz⟩ := okWide_struct Tryz.underlying30 hval
  obtain ⟨c0, c1, c2, c3, c4, c5, c6, c7, c8, c9, c10, c11, c12, c13, rfl⟩ := array14 (hsz.trans (show Tryz.prog.cellsOf 30 = 14 by kernel_rfl))
  obtain ⟨fuel, hf⟩ := h
  obtain ⟨xs, n, _, _, _, hlen, hg⟩ := DataW.trod_struct Tryz.underlying30 hf
  match xs, hlen with
  | [y0, y1, y2, y3, y4, y5, y6, y7, y8], _ =>
  have g0 : DataW.trod enc Tryz.prog w base spare held n 3 [c0] = some y0 := by have this : DataW.trod enc Tryz.prog w base spare held n 3 (([c0, c1, c2, c3, c4, c5, c6, c7, c8, c9, c10, c11, c12, c13].drop 0).take (Tryz.prog.cellsOf 3)) = some y0 := hg 0 _ rfl; rw [show Tryz.prog.cellsOf 3 = 1 by kernel_rfl] at this; exact this
  have g1 : DataW.trod enc Tryz.prog w base spare held n 23 [c1, c2, c3, c4] = some y1 := by have this : DataW.trod enc Tryz.prog w base spare held n 23 (([c0, c1, c2, c3, c4, c5, c6, c7, c8, c9, c10, c11, c12, c13].drop 1).take (Tryz.prog.cellsOf 23)) = some y1 := hg 1 _ rfl; rw [show Tryz.prog.cellsOf 23 = 4 by kernel_rfl] at this; exact this
  have g2 : DataW.trod enc Tryz.prog w base spare held n 25 [c5, c6] = some y2 := by have this : DataW.trod enc Tryz.prog w base spare held n 25 (([c0, c1, c2, c3, c4, c5, c6, c7, c8, c9, c10, c11, c12, c13].drop 5).take (Tryz.prog.cellsOf 25)) = some y2 := hg 2 _ rfl; rw [show Tryz.prog.cellsOf 25 = 2 by kernel_rfl] at this; exact this
  have g3 : DataW.trod enc Tryz.prog w base spare held n 25 [c7, c8] = some y3 := by have this : DataW.trod enc Tryz.prog w base spare held n 25 (([c0, c1, c2, c3, c4, c5, c6, c7, c8, c9, c10, c11, c12, c13].drop 7).take (Tryz.prog.cellsOf 25)) = some y3 := hg 3 _ rfl; rw [show Tryz.prog.cellsOf 25 = 2 by kernel_rfl] at this; exact this
  have g4 : DataW.trod enc Tryz.prog w base spare held n 2 [c9] = some y4 := by have this : DataW.trod enc Tryz.prog w base spare held n 2 (([c0, c1, c2, c3, c4, c5, c6, c7, c8, c9, c10, c11, c12, c13].drop 9).take (Tryz.prog.cellsOf 2)) = some y4 := hg 4 _ rfl; rw [show Tryz.prog.cellsOf 2 = 1 by kernel_rfl] at this; exact this
  have g5 : DataW.trod enc Tryz.prog w base spare held n 2 [c10] = some y5 := by have this : DataW.trod enc Tryz.prog w base spare held n 2 (([c0, c1, c2, c3, c4, c5, c6, c7, c8, c9, c10, c11, c12, c13].drop 10).take (Tryz.prog.cellsOf 2)) = some y5 := hg 5 _ rfl; rw [show Tryz.prog.cellsOf 2 = 1 by kernel_rfl] at this; exact this
  have g6 : DataW.trod enc Tryz.prog w base spare held n 26 [c11] = some y6 := by have this : DataW.trod enc Tryz.prog w base spare held n 26 (([c0, c1, c2, c3, c4, c5, c6, c7, c8, c9, c10, c11, c12, c13].drop 11).take (Tryz.prog.cellsOf 26)) = some y6 := hg 6 _ rfl; rw [show Tryz.prog.cellsOf 26 = 1 by kernel_rfl] at this; exact this
  have g7 : DataW.trod enc Tryz.prog w base spare held n 27 [c12] = some y7 := by have this : DataW.trod enc Tryz.prog w base spare held n 27 (([c0, c1, c2, c3, c4, c5, c6, c7, c8, c9, c10, c11, c12, c13].drop 12).take (Tryz.prog.cellsOf 27)) = some y7 := hg 7 _ rfl; rw [show Tryz.prog.cellsOf 27 = 1 by kernel_rfl] at this; exact this
  have g8 : DataW.trod enc Tryz.prog w base spare held n 28 [c13] = some y8 := by have this : DataW.trod enc Tryz.prog w base spare held n 28 (([c0, c1, c2, c3, c4, c5, c6, c7, c8, c9, c10, c11, c12, c13].drop 13).take (Tryz.prog.cellsOf 28)) = some y8 := hg 8 _ rfl; rw [show Tryz.prog.cellsOf 28 = 1 by kernel_rfl] at this; exact this
  obtain ⟨z0, e0, _, w0⟩ := DataW.trod_int Tryz.underlying3 g0
  obtain ⟨z1, e1, w1⟩ := trod_leaf 6 (leaf_rect 0 (by decide)) g1
  obtain ⟨z2, e2, w2⟩ := trod_leaf 6 (leaf_rect 1 (by decide)) g1
  obtain ⟨z3, e3, w3⟩ := trod_leaf 6 (leaf_rect 2 (by decide)) g1
  obtain ⟨z4, e4, w4⟩ := trod_leaf 6 (leaf_rect 3 (by decide)) g1
  obtain ⟨z5, e5, w5⟩ := trod_leaf 6 (leaf_cell 0 (by decide)) g2
  obtain ⟨z6, e6, w6⟩ := trod_leaf 6 (leaf_cell 1 (by decide)) g2
  obtain ⟨z7, e7, w7⟩ := trod_leaf 6 (leaf_cell 0 (by decide)) g3
  obtain ⟨z8, e8, w8⟩ := trod_leaf 6 (leaf_cell 1 (by decide)) g3
  obtain ⟨z9, e9, _, w9⟩ := DataW.trod_int Tryz.underlying2 g4
  obtain ⟨z10, e10, _, w10⟩ := DataW.trod_int Tryz.underlying2 g5
  simp only [List.cons.injEq, and_true, List.getElem?_cons_zero, List.getElem?_cons_succ, Option.some.injEq] at e0 e1 e2 e3 e4 e5 e6 e7 e8 e9 e10
  subst e0 e1 e2 e3 e4 e5 e6 e7 e8 e9 e10
  obtain ⟨A1, n1, k1, l1, rfl, q1, r1, s1, t1, u1⟩ := open_flatS 1 (fun z => z 0) numL (by decide) Tryz.underlying26 (by kernel_rfl) leaf_num (fun _ => rfl) (fun z j hj => by rcases (show j = 0 by omega) with rfl; rfl) g6
  obtain ⟨A2, n2, k2, l2, rfl, q2, r2, s2, t2⟩ := open_byts Tryz.underlying27 Tryz.underlying5 (by kernel_rfl) g7
  obtain ⟨A3, n3, k3, l3, rfl, q3, r3, s3, t3, u3⟩ := open_opBands g8
  subst q1 q2 q3
  refine ⟨⟨A1, k1, A2, k2, A3, k3⟩, ⟨⟨z0, z1, z2, z3, z4, z5, z6, z7, z8, z9, z10⟩, l1, l2, l3⟩, rfl, ⟨⟨bounds_i64 w1, bounds_i64 w2, bounds_i64 w3, bounds_i64 w4, bounds_i64 w5, bounds_i64 w6, bounds_i64 w7, bounds_i64 w8, bounds_i64 w9, bounds_i64 w10⟩, bounds_i64 w0, fun c hc => ?_, u3⟩,
    ⟨sl_of_reads (by decide) r1, sl_of_reads (by decide) r2, sl_of_reads (by decide) r3, ⟨s1, t1⟩, ⟨s2, t2⟩, ⟨s3, t3⟩⟩⟩
  obtain ⟨z, rfl, hz⟩ := u1 c hc
  exact hz 0 (by decide)
end Go.Proofs.YtgfiakgahmpfkaaGreatDoor
