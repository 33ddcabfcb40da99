/-
  Texts of the proofs, one behind the other: OpenOp, ScOp.
-/
import Derived.Test.YtihkhomnhggifaaGreatDoorSPg09
import Derived.Test.YtihkhomnhggifaaGreatDoorSPg13
import Derived.Test.YtihkhomnhggifaaGreatDoorSPg15
/-
  An op among the arguments.
-/
namespace Go.Proofs.YtihkhomnhggifaaGreatDoor
open Go.ChangeShapes Go.WideShapes Go.ChangeAt Go.RowKit Go.Joins Sy
set_option linter.unusedVariables false
set_option linter.unusedSimpArgs false
set_option maxRecDepth 100000
set_option maxHeartbeats 4000000

/-- what an op says, whole -/
structure OpF where
  o : OpN
  vals : List Int
  byts : List UInt8
  bands : List Bd
/-- where its rows lie -/
structure OpA where
  A1 : Option Addr
  c1 : Nat
  A2 : Option Addr
  c2 : Nat
  A3 : Option Addr
  c3 : Nat
abbrev opCs (q : OpA) (x : OpF) : Array Value := opC x.o (.slice q.A1 x.vals.length q.c1) (.slice q.A2 x.byts.length q.c2) (.slice q.A3 x.bands.length q.c3)
def opV (q : OpA) (x : OpF) : Value := .agg (opCs q x)
def I32 (z : Int) : Prop := -2147483648 ≤ z ∧ z ≤ 2147483647
structure OpF.ok (x : OpF) : Prop where
  o : x.o.ok
  kind : I64 x.o.kind
  vals : ∀ c ∈ x.vals, I64 c
  bands : ∀ b ∈ x.bands, I64 b.f ∧ I32 b.s
/-- the rows as they are read -/
structure OpS (R : HP) (q : OpA) (x : OpF) : Prop where
  vals : Sl R q.A1 x.vals.length 1 (x.vals.flatMap numL)
  byts : Sl R q.A2 x.byts.length 1 (byV x.byts)
  bands : Sl R q.A3 x.bands.length 2 (bcel x.bands)
  k1 : x.vals.length ≤ q.c1 ∧ q.c1 ≤ maxLen
  k2 : x.byts.length ≤ q.c2 ∧ q.c2 ≤ maxLen
  k3 : x.bands.length ≤ q.c3 ∧ q.c3 ≤ maxLen
theorem OpS.mono {R R' : HP} {q : OpA} {x : OpF} (h : OpS R q x) (hr : ∀ w, Sat R' w → Sat R w) : OpS R' q x := ⟨h.vals.mono hr, h.byts.mono hr, h.bands.mono hr, h.k1, h.k2, h.k3⟩
theorem leaf_rect : ∀ j, j < 4 → leafK Tryz.prog 6 23 j = some .i64 := fun j hj => by rcases (show j = 0 ∨ j = 1 ∨ j = 2 ∨ j = 3 by omega) with rfl | rfl | rfl | rfl <;> kernel_rfl
theorem leaf_band : ∀ j, j < 2 → leafK Tryz.prog 6 95 j = some (if j = 0 then .i64 else .i32) := fun j hj => by rcases (show j = 0 ∨ j = 1 by omega) with rfl | rfl <;> kernel_rfl
theorem array14 {α : Type} {cs : Array α} (h : cs.size = 14) : ∃ c0 c1 c2 c3 c4 c5 c6 c7 c8 c9 c10 c11 c12 c13, cs = #[c0, c1, c2, c3, c4, c5, c6, c7, c8, c9, c10, c11, c12, c13] := by
  obtain ⟨l⟩ := cs
  match l, h with
  | [c0, c1, c2, c3, c4, c5, c6, c7, c8, c9, c10, c11, c12, c13], _ => exact ⟨c0, c1, c2, c3, c4, c5, c6, c7, c8, c9, c10, c11, c12, c13, rfl⟩
theorem bounds_32 {z : Int} (h : (Lit.int .i32 z).wf = true) : I32 z := by
  simp [Lit.wf, IntKind.min, IntKind.max, IntKind.signed, IntKind.bits] at h
  unfold I32
  omega
theorem open_opBands {H : Type} {enc : TypeId × Value → H} {w : World} {base : Nat} {spare : Nat → Bool} {held : Bool} {fuel : Nat} {v : Value} {x : DataW H × List MemPlace} (h : DataW.trod enc Tryz.prog w base spare held fuel 28 [v] = some x) :
    ∃ A n c, ∃ l : List Bd, v = .slice A n c ∧ l.length = n ∧ Reads w w.heap.size 2 A n (bcel l) ∧ n ≤ c ∧ c ≤ maxLen ∧ ∀ b ∈ l, I64 b.f ∧ I32 b.s := by
  rcases open_flat 2 (fun j => if j = 0 then .i64 else .i32) Tryz.underlying28 (by kernel_rfl) leaf_band h with hcs | ⟨y, n, c, zs, hcs, hl, hm, hz⟩
  · simp only [List.cons.injEq, and_true] at hcs
    exact ⟨none, 0, 0, [], hcs, rfl, Reads.empty, Nat.le_refl _, by simp [maxLen], fun a ha => by cases ha⟩
  · simp only [List.cons.injEq, and_true] at hcs
    refine ⟨some y, n, c, (List.range n).map fun i => ⟨zs i 0, zs i 1⟩, hcs, by simp, reads_flat (by decide) hz (by rw [bcel_len]; simp) (fun i j hi hj => ?_), hl, hm, fun b hb => ?_⟩
    · obtain ⟨f1, f2⟩ := bcel_at (l := (List.range n).map fun i => (⟨zs i 0, zs i 1⟩ : Bd)) (i := i) (by simpa using hi)
      simp only [List.getElem_map, List.getElem_range] at f1 f2
      rcases (show j = 0 ∨ j = 1 by omega) with rfl | rfl
      · exact f1
      · exact f2
    · obtain ⟨i, hi, rfl⟩ := List.mem_map.1 hb
      have hi := List.mem_range.1 hi
      exact ⟨bounds_i64 (hz i 0 hi (by decide)).2, bounds_32 (hz i 1 hi (by decide)).2⟩
theorem open_op {H : Type} {enc : TypeId × Value → H} {w : World} {base b0 : Nat} {spare : Nat → Bool} {held : Bool} {r : Reach} {v : Value} {d : DataW H} {ps : List MemPlace} (hval : Value.okWide Tryz.prog w r b0 30 v) (h : DataW.Trod enc Tryz.prog w base spare held 30 v d ps) :
    ∃ q x, v = opV q x ∧ x.ok ∧ OpS (was w) q x := by
  obtain ⟨cs, rfl, hsz⟩ := okWide_struct Tryz.underlying30 hval
  obtain ⟨c0, c1, c2, c3, c4, c5, c6, c7, c8, c9, c10, c11, c12, c13, rfl⟩ := array14 (hsz.trans (show Tryz.prog.cellsOf 30 = 14 by kernel_rfl))
  obtain ⟨fuel, hf⟩ := h
  obtain ⟨xs, n, _, _, _, hlen, hg⟩ := DataW.trod_struct Tryz.underlying30 hf
  match xs, hlen with
  | [y0, y1, y2, y3, y4, y5, y6, y7, y8], _ =>
  have g0 : DataW.trod enc Tryz.prog w base spare held n 3 [c0] = some y0 := by have this : DataW.trod enc Tryz.prog w base spare held n 3 (([c0, c1, c2, c3, c4, c5, c6, c7, c8, c9, c10, c11, c12, c13].drop 0).take (Tryz.prog.cellsOf 3)) = some y0 := hg 0 _ rfl; rw [show Tryz.prog.cellsOf 3 = 1 by kernel_rfl] at this; exact this
  have g1 : DataW.trod enc Tryz.prog w base spare held n 23 [c1, c2, c3, c4] = some y1 := by have this : DataW.trod enc Tryz.prog w base spare held n 23 (([c0, c1, c2, c3, c4, c5, c6, c7, c8, c9, c10, c11, c12, c13].drop 1).take (Tryz.prog.cellsOf 23)) = some y1 := hg 1 _ rfl; rw [show Tryz.prog.cellsOf 23 = 4 by kernel_rfl] at this; exact this
  have g2 : DataW.trod enc Tryz.prog w base spare held n 25 [c5, c6] = some y2 := by have this : DataW.trod enc Tryz.prog w base spare held n 25 (([c0, c1, c2, c3, c4, c5, c6, c7, c8, c9, c10, c11, c12, c13].drop 5).take (Tryz.prog.cellsOf 25)) = some y2 := hg 2 _ rfl; rw [show Tryz.prog.cellsOf 25 = 2 by kernel_rfl] at this; exact this
  have g3 : DataW.trod enc Tryz.prog w base spare held n 25 [c7, c8] = some y3 := by have this : DataW.trod enc Tryz.prog w base spare held n 25 (([c0, c1, c2, c3, c4, c5, c6, c7, c8, c9, c10, c11, c12, c13].drop 7).take (Tryz.prog.cellsOf 25)) = some y3 := hg 3 _ rfl; rw [show Tryz.prog.cellsOf 25 = 2 by kernel_rfl] at this; exact this
  have g4 : DataW.trod enc Tryz.prog w base spare held n 2 [c9] = some y4 := by have this : DataW.trod enc Tryz.prog w base spare held n 2 (([c0, c1, c2, c3, c4, c5, c6, c7, c8, c9, c10, c11, c12, c13].drop 9).take (Tryz.prog.cellsOf 2)) = some y4 := hg 4 _ rfl; rw [show Tryz.prog.cellsOf 2 = 1 by kernel_rfl] at this; exact this
  have g5 : DataW.trod enc Tryz.prog w base spare held n 2 [c10] = some y5 := by have this : DataW.trod enc Tryz.prog w base spare held n 2 (([c0, c1, c2, c3, c4, c5, c6, c7, c8, c9, c10, c11, c12, c13].drop 10).take (Tryz.prog.cellsOf 2)) = some y5 := hg 5 _ rfl; rw [show Tryz.prog.cellsOf 2 = 1 by kernel_rfl] at this; exact this
  have g6 : DataW.trod enc Tryz.prog w base spare held n 26 [c11] = some y6 := by have this : DataW.trod enc Tryz.prog w base spare held n 26 (([c0, c1, c2, c3, c4, c5, c6, c7, c8, c9, c10, c11, c12, c13].drop 11).take (Tryz.prog.cellsOf 26)) = some y6 := hg 6 _ rfl; rw [show Tryz.prog.cellsOf 26 = 1 by kernel_rfl] at this; exact this
  have g7 : DataW.trod enc Tryz.prog w base spare held n 27 [c12] = some y7 := by have this : DataW.trod enc Tryz.prog w base spare held n 27 (([c0, c1, c2, c3, c4, c5, c6, c7, c8, c9, c10, c11, c12, c13].drop 12).take (Tryz.prog.cellsOf 27)) = some y7 := hg 7 _ rfl; rw [show Tryz.prog.cellsOf 27 = 1 by kernel_rfl] at this; exact this
  have g8 : DataW.trod enc Tryz.prog w base spare held n 28 [c13] = some y8 := by have this : DataW.trod enc Tryz.prog w base spare held n 28 (([c0, c1, c2, c3, c4, c5, c6, c7, c8, c9, c10, c11, c12, c13].drop 13).take (Tryz.prog.cellsOf 28)) = some y8 := hg 8 _ rfl; rw [show Tryz.prog.cellsOf 28 = 1 by kernel_rfl] at this; exact this
  obtain ⟨z0, e0, _, w0⟩ := DataW.trod_int Tryz.underlying3 g0
  obtain ⟨z1, e1, w1⟩ := trod_leaf 6 (leaf_rect 0 (by decide)) g1
  obtain ⟨z2, e2, w2⟩ := trod_leaf 6 (leaf_rect 1 (by decide)) g1
  obtain ⟨z3, e3, w3⟩ := trod_leaf 6 (leaf_rect 2 (by decide)) g1
  obtain ⟨z4, e4, w4⟩ := trod_leaf 6 (leaf_rect 3 (by decide)) g1
  obtain ⟨z5, e5, w5⟩ := trod_leaf 6 (leaf_cell 0 (by decide)) g2
  obtain ⟨z6, e6, w6⟩ := trod_leaf 6 (leaf_cell 1 (by decide)) g2
  obtain ⟨z7, e7, w7⟩ := trod_leaf 6 (leaf_cell 0 (by decide)) g3
  obtain ⟨z8, e8, w8⟩ := trod_leaf 6 (leaf_cell 1 (by decide)) g3
  obtain ⟨z9, e9, _, w9⟩ := DataW.trod_int Tryz.underlying2 g4
  obtain ⟨z10, e10, _, w10⟩ := DataW.trod_int Tryz.underlying2 g5
  simp only [List.cons.injEq, and_true, List.getElem?_cons_zero, List.getElem?_cons_succ, Option.some.injEq] at e0 e1 e2 e3 e4 e5 e6 e7 e8 e9 e10
  subst e0 e1 e2 e3 e4 e5 e6 e7 e8 e9 e10
  obtain ⟨A1, n1, k1, l1, rfl, q1, r1, s1, t1, u1⟩ := open_flatS 1 (fun z => z 0) numL (by decide) Tryz.underlying26 (by kernel_rfl) leaf_num (fun _ => rfl) (fun z j hj => by rcases (show j = 0 by omega) with rfl; rfl) g6
  obtain ⟨A2, n2, k2, l2, rfl, q2, r2, s2, t2⟩ := open_byts Tryz.underlying27 Tryz.underlying5 (by kernel_rfl) g7
  obtain ⟨A3, n3, k3, l3, rfl, q3, r3, s3, t3, u3⟩ := open_opBands g8
  subst q1 q2 q3
  refine ⟨⟨A1, k1, A2, k2, A3, k3⟩, ⟨⟨z0, z1, z2, z3, z4, z5, z6, z7, z8, z9, z10⟩, l1, l2, l3⟩, rfl, ⟨⟨bounds_i64 w1, bounds_i64 w2, bounds_i64 w3, bounds_i64 w4, bounds_i64 w5, bounds_i64 w6, bounds_i64 w7, bounds_i64 w8, bounds_i64 w9, bounds_i64 w10⟩, bounds_i64 w0, fun c hc => ?_, u3⟩,
    ⟨sl_of_reads (by decide) r1, sl_of_reads (by decide) r2, sl_of_reads (by decide) r3, ⟨s1, t1⟩, ⟨s2, t2⟩, ⟨s3, t3⟩⟩⟩
  obtain ⟨z, rfl, hz⟩ := u1 c hc
  exact hz 0 (by decide)
end Go.Proofs.YtihkhomnhggifaaGreatDoor

/-
  An op's line: plain.
-/
namespace Go.Proofs.YtihkhomnhggifaaGreatDoor
open Go.RowKit
open Sy
set_option linter.unusedVariables false
set_option linter.unusedSimpArgs false
set_option maxRecDepth 100000
set_option maxHeartbeats 4000000

def opK (k : Int) (ks : List Int) : Bool := ks.contains k
def rectW (o : OpN) : List (List UInt8) := [Lib.itoa o.x0, Lib.itoa o.y0, Lib.itoa o.x1, Lib.itoa o.y1]
/-- the words behind an op's verb -/
def opW (x : OpF) : List (List UInt8) :=
  if x.o.kind = 1 ∨ x.o.kind = 17 then [Lib.itoa x.o.n, Lib.itoa x.o.m]
  else if x.o.kind = 2 then [Lib.itoa x.o.ax, Lib.itoa x.o.ay, Lib.itoa x.o.n]
  else if x.o.kind = 3 ∨ x.o.kind = 5 ∨ x.o.kind = 10 ∨ x.o.kind = 11 then rectW x.o ++ [Lib.itoa x.o.n]
  else if x.o.kind = 4 then rectW x.o ++ [listW x.vals]
  else if x.o.kind = 6 ∨ x.o.kind = 15 then [Lib.itoa x.o.ax, Lib.itoa x.o.ay]
  else if x.o.kind = 7 ∨ x.o.kind = 8 ∨ x.o.kind = 9 ∨ x.o.kind = 20 ∨ x.o.kind = 21 ∨ x.o.kind = 22 then rectW x.o
  else if x.o.kind = 12 then [Lib.itoa x.o.ax, Lib.itoa x.o.ay, Lib.itoa x.o.n, Lib.itoa x.o.bx, Lib.itoa x.o.b_y, Lib.itoa x.o.m]
  else if x.o.kind = 13 then [Lib.itoa x.o.ax, Lib.itoa x.o.ay, Lib.itoa x.o.n, Lib.itoa x.o.m, Lib.itoa x.o.bx]
  else if x.o.kind = 14 ∨ x.o.kind = 23 then [Lib.itoa x.o.n]
  else if x.o.kind = 16 then [Lib.itoa x.o.ax, Lib.itoa x.o.ay, Lib.itoa x.o.bx, Lib.itoa x.o.b_y]
  else if x.o.kind = 24 then [hexW x.byts]
  else if x.o.kind = 27 then rectW x.o ++ [printT x.bands]
  else []
/-- an op with the parts alone that its kind names -/
def named (x : OpF) : OpF :=
  if x.o.kind = 1 ∨ x.o.kind = 17 then ⟨⟨x.o.kind, 0, 0, 0, 0, 0, 0, 0, 0, x.o.n, x.o.m⟩, [], [], []⟩
  else if x.o.kind = 2 then ⟨⟨x.o.kind, 0, 0, 0, 0, x.o.ax, x.o.ay, 0, 0, x.o.n, 0⟩, [], [], []⟩
  else if x.o.kind = 3 ∨ x.o.kind = 5 ∨ x.o.kind = 10 ∨ x.o.kind = 11 then ⟨⟨x.o.kind, x.o.x0, x.o.y0, x.o.x1, x.o.y1, 0, 0, 0, 0, x.o.n, 0⟩, [], [], []⟩
  else if x.o.kind = 4 then ⟨⟨x.o.kind, x.o.x0, x.o.y0, x.o.x1, x.o.y1, 0, 0, 0, 0, 0, 0⟩, x.vals, [], []⟩
  else if x.o.kind = 6 ∨ x.o.kind = 15 then ⟨⟨x.o.kind, 0, 0, 0, 0, x.o.ax, x.o.ay, 0, 0, 0, 0⟩, [], [], []⟩
  else if x.o.kind = 7 ∨ x.o.kind = 8 ∨ x.o.kind = 9 ∨ x.o.kind = 20 ∨ x.o.kind = 21 ∨ x.o.kind = 22 then ⟨⟨x.o.kind, x.o.x0, x.o.y0, x.o.x1, x.o.y1, 0, 0, 0, 0, 0, 0⟩, [], [], []⟩
  else if x.o.kind = 12 then ⟨⟨x.o.kind, 0, 0, 0, 0, x.o.ax, x.o.ay, x.o.bx, x.o.b_y, x.o.n, x.o.m⟩, [], [], []⟩
  else if x.o.kind = 13 then ⟨⟨x.o.kind, 0, 0, 0, 0, x.o.ax, x.o.ay, x.o.bx, 0, x.o.n, x.o.m⟩, [], [], []⟩
  else if x.o.kind = 14 ∨ x.o.kind = 23 then ⟨⟨x.o.kind, 0, 0, 0, 0, 0, 0, 0, 0, x.o.n, 0⟩, [], [], []⟩
  else if x.o.kind = 16 then ⟨⟨x.o.kind, 0, 0, 0, 0, x.o.ax, x.o.ay, x.o.bx, x.o.b_y, 0, 0⟩, [], [], []⟩
  else if x.o.kind = 24 then ⟨⟨x.o.kind, 0, 0, 0, 0, 0, 0, 0, 0, 0, 0⟩, [], x.byts, []⟩
  else if x.o.kind = 27 then ⟨⟨x.o.kind, x.o.x0, x.o.y0, x.o.x1, x.o.y1, 0, 0, 0, 0, 0, 0⟩, [], [], x.bands⟩
  else ⟨⟨x.o.kind, 0, 0, 0, 0, 0, 0, 0, 0, 0, 0⟩, [], [], []⟩
/-- has an op a line? -/
def HasLine (x : OpF) : Prop := 1 ≤ x.o.kind ∧ x.o.kind ≤ 27 ∧ (x.o.kind = 27 → RightL x.bands)
instance (x : OpF) : Decidable (HasLine x) := by unfold HasLine; exact inferInstance
def verbT (k : Int) : List UInt8 := verbsL.getD k.toNat []
/-- an op's line -/
def lineF (x : OpF) : List UInt8 := jn 32 (verbT x.o.kind :: opW x)
/-- few rows, as a law wants them -/
structure OpF.few (x : OpF) : Prop where
  vals : x.vals.length ≤ 3000
  byts : x.byts.length ≤ 3000
  bands : x.bands.length ≤ 40
theorem verb_at {k : Nat} (h : k < 28) : verbsL[k]? = some (verbT (k : Int)) := by
  unfold verbT
  rw [Int.toNat_natCast, List.getD_eq_getElem?_getD]
  have h28 : verbsL.length = 28 := rfl
  rw [List.getElem?_eq_getElem (by omega)]
  rfl
theorem verb_chars : ∀ z ∈ verbsL, (32 : UInt8) ∉ z ∧ z.length ≤ 7 := by decide
theorem verb_mem {k : Int} (h0 : 0 ≤ k) (h : k < 28) : verbT k ∈ verbsL := by
  obtain ⟨n, rfl⟩ : ∃ n : Nat, k = (n : Int) := ⟨k.toNat, by omega⟩
  exact List.mem_of_getElem? (verb_at (by omega))
theorem itoa_nosp (n : Int) : (32 : UInt8) ∉ Lib.itoa n := by
  obtain ⟨h1, _, _, _⟩ := dec_facts n.natAbs
  have hd : (32 : UInt8) ∉ Lib.decDigits n.natAbs := fun h => by
    have := isD_iff.1 (h1 _ h)
    have e : (32 : UInt8).toNat = 32 := rfl
    omega
  unfold Lib.itoa
  split
  · intro h
    rcases List.mem_cons.1 h with h | h
    · exact absurd h (by decide)
    · exact hd h
  · rename_i c
    rw [show n.toNat = n.natAbs by omega]
    exact hd
theorem hexd_nosp : ∀ q : Fin 16, hexd q.val ≠ 32 := by decide
theorem hexT_nosp (b : List UInt8) : (32 : UInt8) ∉ hexT b := by
  intro h
  obtain ⟨a, _, h⟩ := List.mem_flatMap.1 h
  have hz := a.toNat_lt
  simp only [List.mem_cons, List.not_mem_nil, or_false] at h
  rcases h with h | h
  · exact hexd_nosp ⟨a.toNat / 16, by omega⟩ h.symm
  · exact hexd_nosp ⟨a.toNat % 16, by omega⟩ h.symm
theorem hexW_nosp (b : List UInt8) : (32 : UInt8) ∉ hexW b := by
  unfold hexW
  split
  · decide
  · exact hexT_nosp b
theorem jn_nosp {d : UInt8} (hd : d ≠ 32) {ws : List (List UInt8)} (h : ∀ w ∈ ws, (32 : UInt8) ∉ w) : (32 : UInt8) ∉ jn d ws := by
  have key : ∀ {ws : List (List UInt8)}, (∀ w ∈ ws, (32 : UInt8) ∉ w) → (32 : UInt8) ∉ wds d ws := fun {ws} h hm => by
    obtain ⟨w, hw, hm⟩ := List.mem_flatMap.1 hm
    rcases List.mem_cons.1 hm with hm | hm
    · exact hd hm.symm
    · exact h w hw hm
  cases ws with
  | nil => simp [jn_nil]
  | cons w ws =>
    rw [jn_cons]
    intro hm
    rcases List.mem_append.1 hm with hm | hm
    · exact h w (by simp) hm
    · exact key (fun x hx => h x (List.mem_cons_of_mem _ hx)) hm
theorem listW_nosp (l : List Int) : (32 : UInt8) ∉ listW l := by
  unfold listW
  split
  · decide
  · refine jn_nosp (by decide) fun w hw => ?_
    obtain ⟨n, _, rfl⟩ := List.mem_map.1 hw
    exact itoa_nosp n
theorem utfN_nosp {c : Nat} (h : SignN c) : (32 : UInt8) ∉ utfN c := by
  unfold SignN at h
  have key : ∀ n, n < 256 → n ≠ 32 → (32 : UInt8) ≠ u8 n := fun n h1 h2 e => by
    have := congrArg UInt8.toNat e
    rw [u8_nat h1] at this
    exact h2 this.symm
  unfold utfN
  split
  · simp only [List.mem_singleton]; exact key _ (by omega) (by omega)
  · split
    · simp only [List.mem_cons, List.not_mem_nil, or_false, not_or]
      exact ⟨key _ (by omega) (by omega), key _ (by omega) (by omega)⟩
    · simp only [List.mem_cons, List.not_mem_nil, or_false, not_or]
      exact ⟨key _ (by omega) (by omega), key _ (by omega) (by omega), key _ (by omega) (by omega)⟩
theorem bandT_nosp {b : Bd} (h : SignI b.s) : (32 : UInt8) ∉ bandT b := by
  unfold bandT
  intro c
  rcases List.mem_append.1 c with c | c
  · exact itoa_nosp _ c
  · rcases List.mem_cons.1 c with c | c
    · exact absurd c (by decide)
    · exact utfN_nosp h.2 c
theorem joinC_jn : ∀ ps : List (List UInt8), joinC ps = jn 44 ps
  | [] => rfl
  | p :: ps => by rw [jn_cons]; rfl
theorem printT_nosp {l : List Bd} (h : RightL l) : (32 : UInt8) ∉ printT l := by
  unfold printT
  rw [joinC_jn]
  refine jn_nosp (by decide) fun w hw => ?_
  obtain ⟨b, hb, rfl⟩ := List.mem_map.1 hw
  exact bandT_nosp (h.good b hb).2
theorem kinds27 {k : Int} (h1 : 1 ≤ k) (h2 : k ≤ 27) : k = 1 ∨ k = 2 ∨ k = 3 ∨ k = 4 ∨ k = 5 ∨ k = 6 ∨ k = 7 ∨ k = 8 ∨ k = 9 ∨ k = 10 ∨ k = 11 ∨ k = 12 ∨ k = 13 ∨ k = 14 ∨ k = 15 ∨ k = 16 ∨ k = 17 ∨ k = 18 ∨ k = 19 ∨ k = 20 ∨ k = 21 ∨ k = 22 ∨ k = 23 ∨ k = 24 ∨ k = 25 ∨ k = 26 ∨ k = 27 := by omega
theorem opW_all {x : OpF} (p : List UInt8 → Prop) (h1 : 1 ≤ x.o.kind) (h2 : x.o.kind ≤ 27) (hi : ∀ n, (n = x.o.x0 ∨ n = x.o.y0 ∨ n = x.o.x1 ∨ n = x.o.y1 ∨ n = x.o.ax ∨ n = x.o.ay ∨ n = x.o.bx ∨ n = x.o.b_y ∨ n = x.o.n ∨ n = x.o.m) → p (Lib.itoa n)) (hl : p (listW x.vals)) (hb : p (hexW x.byts)) (hp : x.o.kind = 27 → p (printT x.bands)) : (opW x).length ≤ 6 ∧ ∀ w ∈ opW x, p w := by
  obtain ⟨⟨kind, x0, y0, x1, y1, ax, ay, bx, b_y, n, m⟩, vals, byts, bands⟩ := x
  simp only at *
  rcases kinds27 h1 h2 with rfl | rfl | rfl | rfl | rfl | rfl | rfl | rfl | rfl | rfl | rfl | rfl | rfl | rfl | rfl | rfl | rfl | rfl | rfl | rfl | rfl | rfl | rfl | rfl | rfl | rfl | rfl
  all_goals simp only [opW, rectW]
  all_goals simp
  all_goals first
    | done
    | (repeat' apply And.intro) <;> first | exact hi _ (by simp) | exact hl | exact hb | exact hp rfl
theorem opW_nosp {x : OpF} (h : HasLine x) : ∀ w ∈ opW x, (32 : UInt8) ∉ w :=
  (opW_all (fun w => (32 : UInt8) ∉ w) h.1 h.2.1 (fun n _ => itoa_nosp n) (listW_nosp _) (hexW_nosp _) fun hk => printT_nosp (h.2.2 hk)).2
theorem line_pcs {x : OpF} (h : HasLine x) : pcs 32 (lineF x) = verbT x.o.kind :: opW x := by
  obtain ⟨h1, h2, h3⟩ := h
  refine pcs_jn (by simp) fun w hw => ?_
  rcases List.mem_cons.1 hw with rfl | hw
  · exact (verb_chars _ (verb_mem (by omega) (by omega))).1
  · exact opW_nosp ⟨h1, h2, h3⟩ w hw
theorem hexW_len (b : List UInt8) : (hexW b).length ≤ 2 * b.length + 1 := by
  unfold hexW
  split
  · simp
  · rw [hexT_len]; omega
theorem opW_len {x : OpF} (ok : x.ok) (few : x.few) (h : HasLine x) : (opW x).length ≤ 6 ∧ ∀ w ∈ opW x, w.length ≤ 70000 := by
  have l1 := listW_len ok.vals
  have l2 := hexW_len x.byts
  have f1 := few.vals
  have f2 := few.byts
  have i := fun {n : Int} (h : I64 n) => itoa_len20 h
  have a1 := i ok.o.x0
  have a2 := i ok.o.y0
  have a3 := i ok.o.x1
  have a4 := i ok.o.y1
  have a5 := i ok.o.ax
  have a6 := i ok.o.ay
  have a7 := i ok.o.bx
  have a8 := i ok.o.b_y
  have a9 := i ok.o.n
  have a10 := i ok.o.m
  refine opW_all (fun w => w.length ≤ 70000) h.1 h.2.1 (fun n hn => ?_) (by omega) (by omega) fun hk => by have := printT_len (h.2.2 hk); omega
  rcases hn with rfl | rfl | rfl | rfl | rfl | rfl | rfl | rfl | rfl | rfl <;> omega
theorem line_len {x : OpF} (ok : x.ok) (few : x.few) (h : HasLine x) : (lineF x).length ≤ 500000 := by
  obtain ⟨h1, h2⟩ := opW_len ok few h
  unfold lineF
  rw [jn_cons, List.length_append]
  have h3 := (verb_chars _ (verb_mem (k := x.o.kind) (by have := h.1; omega) (by have := h.2.1; omega))).2
  have h4 := wds_len (c := 32) h2
  have h5 : (opW x).length * (70000 + 1) ≤ 6 * 70001 := Nat.mul_le_mul_right _ h1
  omega
end Go.Proofs.YtihkhomnhggifaaGreatDoor

