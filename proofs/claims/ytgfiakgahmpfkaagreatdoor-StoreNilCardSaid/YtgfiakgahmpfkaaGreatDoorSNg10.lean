/-
  Texts of the proofs, one behind the other: OpenSl, SyBld, OpenFl, OpenRep, ScP, SyClear, SyMore, ScL.
-/
import Derived.Test.YtgfiakgahmpfkaaGreatDoorSNg09
import Derived.ProofKit
import Derived.OpenShut
import Derived.Lib.SmallJoins
import Derived.Deep.Slices
import Derived.Test.YtgfiakgahmpfkaaGreatDoorSNg05
import Derived.Lib.Builder
import Derived.Lib.AppendStr
import Derived.Lib.UnsafeStr
import Derived.Laws.Externs
import Derived.Deep.Strs
import Derived.ChangeArms
import Derived.Lib.SliceRun
namespace Go.Proofs.YtgfiakgahmpfkaaGreatDoor
open Go.ChangeShapes Go.WideShapes Go.ChangeAt Go.RowKit Go.Joins
namespace Sy
set_option linter.unusedVariables false
set_option linter.unusedSimpArgs false

def leafF (g : TypeId → Nat → Option IntKind) (P : Program) (j : Nat) : List Field → Option IntKind
  | [] => none
  | f :: fs => if f.offset ≤ j ∧ j < f.offset + P.cellsOf f.type then g f.type (j - f.offset) else leafF g P j fs
/-- the kind of the number that is a type's cell -/
def leafK (P : Program) : Nat → TypeId → Nat → Option IntKind
  | 0, _, _ => none
  | d + 1, t, j => match P.underlying t with
    | some (.int k) => if j = 0 then some k else none
    | some (.struct fs) => leafF (leafK P d) P j fs.toList
    | _ => none
theorem leafF_some {g : TypeId → Nat → Option IntKind} {P : Program} {j : Nat} {k : IntKind} : ∀ {l : List Field}, leafF g P j l = some k → ∃ (i : Nat) (f : Field), l[i]? = some f ∧ f.offset ≤ j ∧ j < f.offset + P.cellsOf f.type ∧ g f.type (j - f.offset) = some k
  | [], h => by cases h
  | f :: fs, h => by
    unfold leafF at h
    split at h
    · rename_i hc
      exact ⟨0, f, rfl, hc.1, hc.2, h⟩
    · obtain ⟨i, f', h1, h2⟩ := leafF_some h
      exact ⟨i + 1, f', by simpa using h1, h2⟩
section
variable {H : Type} {enc : TypeId × Value → H} {P : Program} {w : World} {base : Nat} {spare : Nat → Bool} {held : Bool}
theorem trod_leaf : ∀ (d : Nat) {t : TypeId} {j : Nat} {k : IntKind} {fuel : Nat} {cs : List Value} {x : DataW H × List MemPlace}, leafK P d t j = some k → DataW.trod enc P w base spare held fuel t cs = some x → ∃ z, cs[j]? = some (.int k z) ∧ (Lit.int k z).wf = true
  | 0, t, j, k, fuel, cs, x, h, _ => by cases h
  | d + 1, t, j, k, fuel, cs, x, h, hx => by
    unfold leafK at h
    split at h
    · rename_i k' hu
      split at h
      · rename_i hj
        injection h with h
        subst h hj
        obtain ⟨z, e, _, hw⟩ := DataW.trod_int hu hx
        exact ⟨z, by rw [e]; rfl, hw⟩
      · cases h
    · rename_i fs hu
      obtain ⟨i, f, h1, h2, h3, h4⟩ := leafF_some h
      obtain ⟨xs, n, _, rfl, hl, hlen, hf⟩ := DataW.trod_struct hu hx
      have h1' : fs[i]? = some f := by simpa using h1
      have hf' := hf i f (by simpa using h1)
      have hlt : i < xs.length := by rw [hlen]; exact (Array.getElem?_eq_some_iff.1 h1').1
      rw [List.getElem?_eq_getElem hlt] at hf'
      obtain ⟨z, e, hw⟩ := trod_leaf d h4 hf'
      refine ⟨z, ?_, hw⟩
      rw [List.getElem?_take] at e
      split at e
      · rw [List.getElem?_drop] at e
        rw [← e]
        congr 1
        omega
      · cases e
    · cases h
/-- a slice of structs of numbers -/
theorem open_flat {t e : TypeId} {fuel : Nat} {cs : List Value} {x : DataW H × List MemPlace} (s : Nat) (ks : Nat → IntKind) (ht : P.underlying t = some (.slice e)) (hs : P.cellsOf e = s) (hk : ∀ j, j < s → leafK P 6 e j = some (ks j)) (h : DataW.trod enc P w base spare held fuel t cs = some x) :
    cs = [.slice none 0 0] ∨ ∃ (a : Addr) (len cap : Nat) (zs : Nat → Nat → Int), cs = [.slice (some a) len cap] ∧ len ≤ cap ∧ cap ≤ maxLen ∧ ∀ i j, i < len → j < s → w.cell? (a.add (i * s + j)) = some (.int (ks j) (zs i j)) ∧ (Lit.int (ks j) (zs i j)).wf = true := by
  rcases Go.Deep.open_slice ht h with ⟨h0, _⟩ | ⟨a, len, cap, m, n, D, Pl, rfl, hb, hl, hm, hmm, rfl, hx⟩
  · exact .inl h0
  right
  have hle : len ≤ m := by rw [hmm]; split <;> omega
  have key : ∀ i j, ∃ z, i < len → j < s → w.cell? (a.add (i * s + j)) = some (.int (ks j) z) ∧ (Lit.int (ks j) z).wf = true := by
    intro i j
    by_cases c : i < len ∧ j < s
    · obtain ⟨cs', h1, h2⟩ := hx i (by omega)
      obtain ⟨z, e, hw⟩ := trod_leaf 6 (hk j c.2) h2
      obtain ⟨_, hlen, hcell⟩ := World.cells?_some h1
      have hj : j < cs'.length := (List.getElem?_eq_some_iff.1 e).1
      refine ⟨z, fun _ _ => ⟨?_, hw⟩⟩
      have h3 := hcell j (by rw [← hlen]; exact hj)
      rw [e] at h3
      rw [hs, Addr.add_add] at h3
      exact h3
    · exact ⟨0, fun h1 h2 => absurd ⟨h1, h2⟩ c⟩
  exact ⟨a, len, cap, fun i j => Classical.choose (key i j), rfl, hl, hm, fun i j hi hj => Classical.choose_spec (key i j) hi hj⟩
end
/-- what such a slice reads as -/
theorem reads_flat {w : World} {a : Addr} {len s : Nat} {ks : Nat → IntKind} {zs : Nat → Nat → Int} (hs : 0 < s) (h : ∀ i j, i < len → j < s → w.cell? (a.add (i * s + j)) = some (.int (ks j) (zs i j)) ∧ (Lit.int (ks j) (zs i j)).wf = true) {xs : List Value} (hl : xs.length = len * s) (hx : ∀ i j, i < len → j < s → xs[i * s + j]? = some (.int (ks j) (zs i j))) :
    Reads w w.heap.size s (some a) len xs := by
  refine ⟨hl, fun hn => ⟨a, rfl, ?_, fun j u hu => ?_⟩⟩
  · have := (h 0 0 hn hs).1
    have := World.block_lt_of_cell? w _ this
    rwa [add_block] at this
  · have hj : j < len * s := by rw [← hl]; exact (List.getElem?_eq_some_iff.1 hu).1
    have h1 : j / s < len := Nat.div_lt_of_lt_mul (by rw [Nat.mul_comm]; exact hj)
    have h2 : j % s < s := Nat.mod_lt _ hs
    have e : j / s * s + j % s = j := by have := Nat.div_add_mod j s; rw [Nat.mul_comm] at this; exact this
    have h3 := hx (j / s) (j % s) h1 h2
    have h4 := (h (j / s) (j % s) h1 h2).1
    rw [e] at h3 h4
    rw [h3] at hu
    injection hu with hu
    rw [h4, hu]
end Sy
open Go.RowKit
namespace Sy
set_option linter.unusedVariables false
set_option linter.unusedSimpArgs false

/-- the bytes as cells -/
abbrev byV (l : List UInt8) : List Value := l.map fun b => .int .u8 (b.toNat : Int)
theorem strCells_bs (l : List UInt8) : Lib.strCells (bs l) = byV l := rfl
theorem size_bs (l : List UInt8) : (bs l).size = l.length := rfl

/-- a conversion that the model's own text runs -/
theorem OpAt.conv {G : Gl} {o : Oper} {st : St} {K : St → Prop} {src dst : TypeId} {x : Operand} {v r : Value} (ho : o.op = .convert src dst x) (hx : evR st x = v) (hr : allR st o.op.operands.toList = true)
    (hrun : ∀ w, Sat (sepL st.h G.R) w → (convert src dst v).run G.P w = .ok r w) (k : putK G st o.dst (.v r) none K) : OpAt G o st K := by
  refine OpAt.val r (by rw [ho]; rfl) hr (fun w sat => ?_) k
  simp only [execOp, ho, hx, Sem.run_bind, hrun w sat, Result.andThen_ok, Sem.run_pure]
  try rfl
end Sy
open Go.ChangeShapes Go.WideShapes Go.ChangeAt Go.RowKit Go.Joins Sy
set_option linter.unusedVariables false
set_option linter.unusedSimpArgs false
set_option maxRecDepth 100000
set_option maxHeartbeats 4000000

theorem oflat_len {α : Type} {f : α → List Value} {s : Nat} (hf : ∀ a, (f a).length = s) (l : List α) : (l.flatMap f).length = l.length * s := by
  induction l with
  | nil => simp
  | cons a l ih => rw [List.flatMap_cons, List.length_append, ih, hf, List.length_cons, Nat.succ_mul]; omega
theorem oflat_at {α : Type} {f : α → List Value} {s : Nat} (hf : ∀ a, (f a).length = s) : ∀ {l : List α} {i j : Nat} (h : i < l.length), j < s → (l.flatMap f)[i * s + j]? = (f l[i])[j]?
  | a :: l, 0, j, _, hj => by
    rw [List.flatMap_cons, List.getElem?_append_left (by rw [hf]; omega)]
    simp
  | a :: l, i + 1, j, h, hj => by
    rw [List.flatMap_cons, List.getElem?_append_right (by rw [hf, Nat.succ_mul]; omega)]
    have : (i + 1) * s + j - (f a).length = i * s + j := by rw [hf, Nat.succ_mul]; omega
    rw [this, oflat_at hf (by simpa using h) hj]
    simp
section
variable {H : Type} {enc : TypeId × Value → H} {P : Program} {w : World} {base : Nat} {spare : Nat → Bool} {held : Bool}
/-- a slice of structs of signed numbers -/
theorem open_flatS {α : Type} {t e : TypeId} {fuel : Nat} {v : Value} {x : DataW H × List MemPlace} (s : Nat) (mk : (Nat → Int) → α) (f : α → List Value) (hs0 : 0 < s) (ht : P.underlying t = some (.slice e)) (hs : P.cellsOf e = s) (hk : ∀ j, j < s → leafK P 6 e j = some .i64)
    (hf : ∀ a, (f a).length = s) (hmk : ∀ z j, j < s → (f (mk z))[j]? = some (.int .i64 (z j))) (h : DataW.trod enc P w base spare held fuel t [v] = some x) :
    ∃ A n c, ∃ l : List α, v = .slice A n c ∧ l.length = n ∧ Reads w w.heap.size s A n (l.flatMap f) ∧ n ≤ c ∧ c ≤ maxLen ∧ ∀ a ∈ l, ∃ z : Nat → Int, a = mk z ∧ ∀ j, j < s → -9223372036854775808 ≤ z j ∧ z j ≤ 9223372036854775807 := by
  rcases open_flat s (fun _ => .i64) ht hs hk h with hcs | ⟨y, n, c, zs, hcs, hl, hm, hz⟩
  · simp only [List.cons.injEq, and_true] at hcs
    exact ⟨none, 0, 0, [], hcs, rfl, Reads.empty, Nat.le_refl _, by simp [maxLen], fun a ha => by cases ha⟩
  · simp only [List.cons.injEq, and_true] at hcs
    refine ⟨some y, n, c, (List.range n).map fun i => mk (zs i), hcs, by simp, reads_flat hs0 hz (by rw [oflat_len hf]; simp) (fun i j hi hj => ?_), hl, hm, fun a ha => ?_⟩
    · rw [oflat_at hf (by simpa using hi) hj]
      simp only [List.getElem_map, List.getElem_range]
      exact hmk _ j hj
    · obtain ⟨i, hi, rfl⟩ := List.mem_map.1 ha
      exact ⟨zs i, rfl, fun j hj => bounds_i64 (hz i j (List.mem_range.1 hi) hj).2⟩
theorem open_byts {t e : TypeId} {fuel : Nat} {v : Value} {x : DataW H × List MemPlace} (ht : P.underlying t = some (.slice e)) (he : P.underlying e = some (.int .u8)) (hc : P.cellsOf e = 1) (h : DataW.trod enc P w base spare held fuel t [v] = some x) :
    ∃ A n c, ∃ l : List UInt8, v = .slice A n c ∧ l.length = n ∧ Reads w w.heap.size 1 A n (byV l) ∧ n ≤ c ∧ c ≤ maxLen := by
  have hk : leafK P 6 e 0 = some .u8 := by unfold leafK; rw [he]; rfl
  rcases open_flat 1 (fun _ => .u8) ht hc (fun j hj => by obtain rfl : j = 0 := by omega
                                                          exact hk) h with hcs | ⟨y, n, c, zs, hcs, hl, hm, hz⟩
  · simp only [List.cons.injEq, and_true] at hcs
    exact ⟨none, 0, 0, [], hcs, rfl, Reads.empty, Nat.le_refl _, by simp [maxLen]⟩
  · simp only [List.cons.injEq, and_true] at hcs
    refine ⟨some y, n, c, (List.range n).map fun i => UInt8.ofNat (zs i 0).toNat, hcs, by simp, reads_flat (by decide) hz (by simp) (fun i j hi hj => ?_), hl, hm⟩
    obtain rfl : j = 0 := by omega
    have hw := (hz i 0 hi (by omega)).2
    have hb : 0 ≤ zs i 0 ∧ zs i 0 ≤ 255 := by
      simp [Lit.wf, IntKind.min, IntKind.max, IntKind.signed, IntKind.bits] at hw
      omega
    simp only [Nat.mul_one, Nat.add_zero, List.map_map, List.getElem?_map, List.getElem?_range hi, Option.map_some, Function.comp, Option.some.injEq, Value.int.injEq, true_and]
    rw [UInt8.toNat_ofNat']
    omega
end
open Go.ChangeShapes Go.WideShapes Go.ChangeAt Go.RowKit Go.Joins Sy

structure Prt where
  l : Int
  a : Int
  fx : Int
  fy : Int
  x0 : Int
  y0 : Int
  x1 : Int
  y1 : Int
def prtL (p : Prt) : List Value := [.int .i64 p.l, .int .i64 p.a, .int .i64 p.fx, .int .i64 p.fy, .int .i64 p.x0, .int .i64 p.y0, .int .i64 p.x1, .int .i64 p.y1]
def celL (c : Int × Int) : List Value := [.int .i64 c.1, .int .i64 c.2]
def numL (c : Int) : List Value := [.int .i64 c]
def I64 (z : Int) : Prop := -9223372036854775808 ≤ z ∧ z ≤ 9223372036854775807
structure Prt.ok (p : Prt) : Prop where
  l : I64 p.l
  a : I64 p.a
  fx : I64 p.fx
  fy : I64 p.fy
  x0 : I64 p.x0
  y0 : I64 p.y0
  x1 : I64 p.x1
  y1 : I64 p.y1
/-- what a reply says -/
structure Rep where
  code : Int
  n : Int
  yes : Bool
  ax : Int
  ay : Int
  cells : List (Int × Int)
  vals : List Int
  parts : List Prt
  byts : List UInt8
  lines : List (List UInt8)
/-- where its rows lie -/
structure RepA where
  A1 : Option Addr
  c1 : Nat
  A2 : Option Addr
  c2 : Nat
  A3 : Option Addr
  c3 : Nat
  A4 : Option Addr
  c4 : Nat
  A5 : Option Addr
  c5 : Nat
structure Rep.ok (r : Rep) : Prop where
  code : I64 r.code
  n : I64 r.n
  ax : I64 r.ax
  ay : I64 r.ay
  cells : ∀ c ∈ r.cells, I64 c.1 ∧ I64 c.2
  vals : ∀ c ∈ r.vals, I64 c
  parts : ∀ c ∈ r.parts, c.ok
/-- the rows as they are read -/
structure RepS (R : HP) (q : RepA) (r : Rep) : Prop where
  cells : Sl R q.A1 r.cells.length 2 (r.cells.flatMap celL)
  vals : Sl R q.A2 r.vals.length 1 (r.vals.flatMap numL)
  parts : Sl R q.A3 r.parts.length 8 (r.parts.flatMap prtL)
  byts : Sl R q.A4 r.byts.length 1 (byV r.byts)
  lines : Sl R q.A5 r.lines.length 1 (r.lines.map fun z => .string (bs z))
  k1 : r.cells.length ≤ q.c1 ∧ q.c1 ≤ maxLen
  k2 : r.vals.length ≤ q.c2 ∧ q.c2 ≤ maxLen
  k3 : r.parts.length ≤ q.c3 ∧ q.c3 ≤ maxLen
  k4 : r.byts.length ≤ q.c4 ∧ q.c4 ≤ maxLen
  k5 : r.lines.length ≤ q.c5 ∧ q.c5 ≤ maxLen
theorem leaf_cell : ∀ j, j < 2 → leafK Tryz.prog 6 25 j = some .i64 := fun j hj => by rcases (show j = 0 ∨ j = 1 by omega) with rfl | rfl <;> kernel_rfl
theorem leaf_num : ∀ j, j < 1 → leafK Tryz.prog 6 2 j = some .i64 := fun j hj => by rcases (show j = 0 by omega) with rfl; kernel_rfl
open Sy

namespace Sy
set_option linter.unusedVariables false
set_option linter.unusedSimpArgs false
set_option maxRecDepth 100000
set_option maxHeartbeats 4000000

end Sy
namespace Sy

/-- an operation that hands back a value, in a drawn region -/
theorem RunQ.val {G : Gl} {o : Oper} {st : St} {K : SV → Prop} (v : Value) (hsel : notSel o.op = true) (hr : allR st o.op.operands.toList = true) (hrun : ∀ w, Sat (sepL st.h G.R) w → (execOp (evR st) o).run G.P w = .ok (.value v) w) (k : K (.v v)) : RunQ G o st K := .mk v (fun ρ a w m mm => by
  rw [execOp_congr o (fun cs b => notSel_spec hsel cs b) fun x hx => allR_sound m hr x (by simpa using hx)]
  exact hrun w mm.sat) k
end Sy

end Go.Proofs.YtgfiakgahmpfkaaGreatDoor
