/-
  Texts of the proofs, one behind the other: QuadNd, QuadNe, QuadRu, QuadRd, QuadRe, QuadRf.
-/
import Derived.Test.YtojlgfkjnkjcmaaGreatDoorPartQc
import Derived.Test.YtojlgfkjnkjcmaaGreatDoorPartZ
import Derived.Test.YtojlgfkjnkjcmaaGreatDoorPartBm
import Derived.Test.YtojlgfkjnkjcmaaGreatDoorPartUp
/-
  quad.signs.node: the tree that the signs begin with, or a fault.
-/
namespace Go.Proofs.YtojlgfkjnkjcmaaGreatDoor
open Go.RowKit
open Sy
set_option linter.unusedVariables false
set_option linter.unusedSimpArgs false
set_option maxRecDepth 100000
set_option maxHeartbeats 4000000

def rns (l : List Nat) : List Value := l.map fun c : Nat => Value.int .i32 (c : Int)
abbrev sgH (sb : Nat) (A : Option Addr) (n c : Nat) (W H : Int) (odd : Bool) : HP := blkH sb 137 #[.slice A n c, .int .i64 W, .int .i64 H, .bool odd]
def faultCh (e : Int) : List PanicEntry := [{ v := .iface 83 (.agg #[.int .i64 e]), recovered := false }]
abbrev isWord (ch : List PanicEntry) : Prop := ch = faultCh 12
/-- the runes lie in a block -/
def RunesAt (R : HP) (b : Nat) (full : List Nat) : Prop := ∀ w, Sat R w → ∀ (j : Nat) u, (rns full)[j]? = some u → w.cell? ⟨b, j, none⟩ = some u
def AtP (full : List Nat) (b : Nat) (A : Option Addr) (l : List Nat) : Prop := l.length = 0 ∨ A = some ⟨b, full.length - l.length, none⟩
def Suf (full l : List Nat) : Prop := ∃ p, full = p ++ l
theorem Suf.at_ {full l : List Nat} (h : Suf full l) {j : Nat} (hj : j < l.length) : (rns full)[full.length - l.length + j]? = some (.int .i32 (l[j] : Int)) := by
  obtain ⟨p, rfl⟩ := h
  unfold rns
  rw [List.getElem?_map, List.length_append, Nat.add_sub_cancel, List.getElem?_append_right (by omega), Nat.add_sub_cancel_left, List.getElem?_eq_getElem hj]
  rfl
theorem Suf.tail {full r : List Nat} {c : Nat} (h : Suf full (c :: r)) : Suf full r ∧ full.length - (c :: r).length + 1 = full.length - r.length := by
  obtain ⟨p, rfl⟩ := h
  refine ⟨⟨p ++ [c], by simp⟩, ?_⟩
  simp only [List.length_append, List.length_cons]
  omega
theorem parse_suf {n : Nat} {l r : List Nat} {t : QT} (h : parseQ n l = some (t, r)) {full : List Nat} (s : Suf full l) : Suf full r := by
  obtain ⟨p, rfl⟩ := s
  rw [(parse_sound n l t r h).2]
  exact ⟨p ++ sgnQ (printQ t), by rw [List.append_assoc]⟩
theorem sNodeNil {R : HP} {sb : Nat} {A : Option Addr} {c : Nat} {W H x y s : Int} {odd : Bool} : PanR Tryz.prog R 67 [ptV sb, sqV x y s] [sgH sb A 0 c W H odd] isWord R := by
  refine pan_of_run0 _ _ false Tryz.func67 rfl hmix rfl fun w0 => ?_
  conv => whnf
  refine ⟨trivial, LoadAt.cell (.slice A 0 c) rfl rfl (fun w hw => (blk_sat (hw.in_ 0 rfl)).cell 0) ?_⟩
  conv => whnf
  refine iff_t rfl ?_
  conv => whnf
  exact ⟨trivial, OpAt.panic 83 (.agg #[.int .i64 12]) rfl rfl rfl rfl (fun w s => s.rest) trivial⟩
section
variable {R : HP} {sb b p c ch : Nat} {q : List Nat} {W H x y s : Int} {odd : Bool}
abbrev AtN (q : List Nat) (b p : Nat) (A : Option Addr) : Prop := q.length = 0 ∨ A = some ⟨b, p, none⟩
theorem sNodePt (hq : q.length ≤ 1048576) (hc : q.length + 1 ≤ c) (hch : ∀ w, Sat R w → w.cell? ⟨b, p, none⟩ = some (.int .i32 (ch : Int))) (h46 : ch = 46) :
    FnR Tryz.prog R 67 [ptV sb, sqV x y s] [sgH sb (some ⟨b, p, none⟩) (q.length + 1) c W H odd] fun v hs => v = (QT.leaf false).enc ∧ ∃ A', AtN q b (p + 1) A' ∧ hs = [sgH sb A' q.length (c - 1) W H odd] := by
  refine fn_of_run0 false Tryz.func67 rfl hmix rfl fun w0 => ?_
  conv => whnf
  refine ⟨trivial, LoadAt.cell (.slice (some ⟨b, p, none⟩) (q.length + 1) c) rfl rfl (fun w hw => (blk_sat (hw.in_ 0 rfl)).cell 0) ?_⟩
  conv => whnf
  repeat (first | (refine And.intro ?_ ?_; rotate_left; (intro g; exfalso; (simp at g <;> omega)); intro _; conv => whnf) | (refine And.intro ?_ ?_; (intro g; exfalso; (simp at g <;> omega)); intro _; conv => whnf))
  refine ⟨trivial, LoadAt.cell (.slice (some ⟨b, p, none⟩) (q.length + 1) c) rfl rfl (fun w hw => (blk_sat (hw.in_ 0 rfl)).cell 0) ?_⟩
  conv => whnf
  refine ⟨?_, LoadAt.cell (.int .i32 (ch : Int)) rfl rfl (fun w hw => hch w hw.rest) ?_⟩
  · repeat' apply And.intro
    all_goals first | exact True.intro | omega
  conv => whnf
  refine ⟨trivial, LoadAt.cell (.slice (some ⟨b, p, none⟩) (q.length + 1) c) rfl rfl (fun w hw => (blk_sat (hw.in_ 0 rfl)).cell 0) ?_⟩
  conv => whnf
  refine ⟨trivial, OpAt.from2 b p (q.length + 1) c 1 .i64 rfl rfl rfl rfl rfl rfl (by omega) hc fun A' hA' => ?_⟩
  conv => whnf
  refine ⟨trivial, OpAt.store sb 0 (.slice A' q.length (c - 1)) _ rfl (fun h s => s) rfl rfl rfl rfl rfl (by simp [Value.cells, Value.oneCell']) (fun h r => blk_put (by show 0 + 1 ≤ 4; omega) r) ?_⟩
  conv => whnf
  repeat (first | (refine And.intro ?_ ?_; rotate_left; (intro g; exfalso; (simp at g <;> omega)); intro _; conv => whnf) | (refine And.intro ?_ ?_; (intro g; exfalso; (simp at g <;> omega)); intro _; conv => whnf))
  exact ⟨trivial, .mk _ (fun w s => s) ⟨rfl, A', by rcases hA' with h | h; exact .inr h; exact .inl (by omega), rfl⟩⟩
theorem sNodeBad (hq : q.length ≤ 1048576) (hc : q.length + 1 ≤ c) (hch : ∀ w, Sat R w → w.cell? ⟨b, p, none⟩ = some (.int .i32 (ch : Int))) (h46 : ch ≠ 46) (h35 : ch ≠ 35) (h43 : ch ≠ 43 ∨ s = 1) :
    PanR Tryz.prog R 67 [ptV sb, sqV x y s] [sgH sb (some ⟨b, p, none⟩) (q.length + 1) c W H odd] isWord R := by
  by_cases h : ch = 43
  · refine pan_of_run0 _ _ false Tryz.func67 rfl hmix rfl fun w0 => ?_
    conv => whnf
    refine ⟨trivial, LoadAt.cell (.slice (some ⟨b, p, none⟩) (q.length + 1) c) rfl rfl (fun w hw => (blk_sat (hw.in_ 0 rfl)).cell 0) ?_⟩
    conv => whnf
    repeat (first | (refine And.intro ?_ ?_; rotate_left; (intro g; exfalso; (simp at g <;> omega)); intro _; conv => whnf) | (refine And.intro ?_ ?_; (intro g; exfalso; (simp at g <;> omega)); intro _; conv => whnf))
    refine ⟨trivial, LoadAt.cell (.slice (some ⟨b, p, none⟩) (q.length + 1) c) rfl rfl (fun w hw => (blk_sat (hw.in_ 0 rfl)).cell 0) ?_⟩
    conv => whnf
    refine ⟨?_, LoadAt.cell (.int .i32 (ch : Int)) rfl rfl (fun w hw => hch w hw.rest) ?_⟩
    · repeat' apply And.intro
      all_goals first | exact True.intro | omega
    conv => whnf
    refine ⟨trivial, LoadAt.cell (.slice (some ⟨b, p, none⟩) (q.length + 1) c) rfl rfl (fun w hw => (blk_sat (hw.in_ 0 rfl)).cell 0) ?_⟩
    conv => whnf
    refine ⟨trivial, OpAt.from2 b p (q.length + 1) c 1 .i64 rfl rfl rfl rfl rfl rfl (by omega) hc fun A' hA' => ?_⟩
    conv => whnf
    refine ⟨trivial, OpAt.store sb 0 (.slice A' q.length (c - 1)) _ rfl (fun h s => s) rfl rfl rfl rfl rfl (by simp [Value.cells, Value.oneCell']) (fun h r => blk_put (by show 0 + 1 ≤ 4; omega) r) ?_⟩
    conv => whnf
    repeat (first | (refine And.intro ?_ ?_; rotate_left; (intro g; exfalso; (simp at g <;> omega)); intro _; conv => whnf) | (refine And.intro ?_ ?_; (intro g; exfalso; (simp at g <;> omega)); intro _; conv => whnf))
    exact ⟨trivial, OpAt.panic 83 (.agg #[.int .i64 12]) rfl rfl rfl rfl (fun w s => s.rest) trivial⟩
  · refine pan_of_run0 _ _ false Tryz.func67 rfl hmix rfl fun w0 => ?_
    conv => whnf
    refine ⟨trivial, LoadAt.cell (.slice (some ⟨b, p, none⟩) (q.length + 1) c) rfl rfl (fun w hw => (blk_sat (hw.in_ 0 rfl)).cell 0) ?_⟩
    conv => whnf
    repeat (first | (refine And.intro ?_ ?_; rotate_left; (intro g; exfalso; (simp at g <;> omega)); intro _; conv => whnf) | (refine And.intro ?_ ?_; (intro g; exfalso; (simp at g <;> omega)); intro _; conv => whnf))
    refine ⟨trivial, LoadAt.cell (.slice (some ⟨b, p, none⟩) (q.length + 1) c) rfl rfl (fun w hw => (blk_sat (hw.in_ 0 rfl)).cell 0) ?_⟩
    conv => whnf
    refine ⟨?_, LoadAt.cell (.int .i32 (ch : Int)) rfl rfl (fun w hw => hch w hw.rest) ?_⟩
    · repeat' apply And.intro
      all_goals first | exact True.intro | omega
    conv => whnf
    refine ⟨trivial, LoadAt.cell (.slice (some ⟨b, p, none⟩) (q.length + 1) c) rfl rfl (fun w hw => (blk_sat (hw.in_ 0 rfl)).cell 0) ?_⟩
    conv => whnf
    refine ⟨trivial, OpAt.from2 b p (q.length + 1) c 1 .i64 rfl rfl rfl rfl rfl rfl (by omega) hc fun A' hA' => ?_⟩
    conv => whnf
    refine ⟨trivial, OpAt.store sb 0 (.slice A' q.length (c - 1)) _ rfl (fun h s => s) rfl rfl rfl rfl rfl (by simp [Value.cells, Value.oneCell']) (fun h r => blk_put (by show 0 + 1 ≤ 4; omega) r) ?_⟩
    conv => whnf
    repeat (first | (refine And.intro ?_ ?_; rotate_left; (intro g; exfalso; (simp at g <;> omega)); intro _; conv => whnf) | (refine And.intro ?_ ?_; (intro g; exfalso; (simp at g <;> omega)); intro _; conv => whnf))
    exact ⟨trivial, OpAt.panic 83 (.agg #[.int .i64 12]) rfl rfl rfl rfl (fun w s => s.rest) trivial⟩
theorem sNodeIn (hq : q.length ≤ 1048576) (hc : q.length + 1 ≤ c) (hch : ∀ w, Sat R w → w.cell? ⟨b, p, none⟩ = some (.int .i32 (ch : Int))) (h35 : ch = 35) (hx : 0 ≤ x ∧ x ≤ 4096) (hy : 0 ≤ y ∧ y ≤ 4096) (hs : 0 ≤ s ∧ s ≤ 4096) :
    FnR Tryz.prog R 67 [ptV sb, sqV x y s] [sgH sb (some ⟨b, p, none⟩) (q.length + 1) c W H odd] fun v hs => v = (QT.leaf true).enc ∧ ∃ A', AtN q b (p + 1) A' ∧ hs = [sgH sb A' q.length (c - 1) W H (odd || (decide (W < x + s) || decide (H < y + s)))] := by
  cases odd with
  | true =>
    rw [Bool.true_or]
    refine fn_of_run0 false Tryz.func67 rfl hmix rfl fun w0 => ?_
    conv => whnf
    refine ⟨trivial, LoadAt.cell (.slice (some ⟨b, p, none⟩) (q.length + 1) c) rfl rfl (fun w hw => (blk_sat (hw.in_ 0 rfl)).cell 0) ?_⟩
    conv => whnf
    repeat (first | (refine And.intro ?_ ?_; rotate_left; (intro g; exfalso; (simp at g <;> omega)); intro _; conv => whnf) | (refine And.intro ?_ ?_; (intro g; exfalso; (simp at g <;> omega)); intro _; conv => whnf))
    refine ⟨trivial, LoadAt.cell (.slice (some ⟨b, p, none⟩) (q.length + 1) c) rfl rfl (fun w hw => (blk_sat (hw.in_ 0 rfl)).cell 0) ?_⟩
    conv => whnf
    refine ⟨?_, LoadAt.cell (.int .i32 (ch : Int)) rfl rfl (fun w hw => hch w hw.rest) ?_⟩
    · repeat' apply And.intro
      all_goals first | exact True.intro | omega
    conv => whnf
    refine ⟨trivial, LoadAt.cell (.slice (some ⟨b, p, none⟩) (q.length + 1) c) rfl rfl (fun w hw => (blk_sat (hw.in_ 0 rfl)).cell 0) ?_⟩
    conv => whnf
    refine ⟨trivial, OpAt.from2 b p (q.length + 1) c 1 .i64 rfl rfl rfl rfl rfl rfl (by omega) hc fun A' hA' => ?_⟩
    conv => whnf
    refine ⟨trivial, OpAt.store sb 0 (.slice A' q.length (c - 1)) _ rfl (fun h s => s) rfl rfl rfl rfl rfl (by simp [Value.cells, Value.oneCell']) (fun h r => blk_put (by show 0 + 1 ≤ 4; omega) r) ?_⟩
    conv => whnf
    repeat (first | (refine And.intro ?_ ?_; rotate_left; (intro g; exfalso; (simp at g <;> omega)); intro _; conv => whnf) | (refine And.intro ?_ ?_; (intro g; exfalso; (simp at g <;> omega)); intro _; conv => whnf))
    refine ⟨trivial, RegAt.tail 31 hmix (by kernel_rfl) ?_⟩
    conv => whnf
    refine ⟨trivial, LoadAt.cell (.bool true) rfl rfl (fun w hw => (blk_sat (hw.in_ 0 rfl)).cell 3) ?_⟩
    conv => whnf
    repeat (first | (refine And.intro ?_ ?_; rotate_left; (intro g; exfalso; (simp at g <;> omega)); intro _; conv => whnf) | (refine And.intro ?_ ?_; (intro g; exfalso; (simp at g <;> omega)); intro _; conv => whnf))
    refine ⟨?_, OpAt.store sb 3 (.bool true) _ rfl (fun h s => s) rfl rfl rfl rfl rfl (by simp [Value.cells, Value.oneCell']) (fun h r => blk_put (by show 3 + 1 ≤ 4; omega) r) ?_⟩
    · repeat' apply And.intro
      all_goals first | exact True.intro | (unfold rng; omega) | omega
    conv => whnf
    refine ⟨trivial, ?_⟩
    conv => whnf
    exact ⟨trivial, .mk _ (fun w s => s) ⟨rfl, A', by rcases hA' with h | h; exact .inr h; exact .inl (by omega), rfl⟩⟩
  | false =>
    rw [Bool.false_or]
    by_cases h1 : W < x + s
    · rw [decide_eq_true h1, Bool.true_or]
      refine fn_of_run0 false Tryz.func67 rfl hmix rfl fun w0 => ?_
      conv => whnf
      refine ⟨trivial, LoadAt.cell (.slice (some ⟨b, p, none⟩) (q.length + 1) c) rfl rfl (fun w hw => (blk_sat (hw.in_ 0 rfl)).cell 0) ?_⟩
      conv => whnf
      repeat (first | (refine And.intro ?_ ?_; rotate_left; (intro g; exfalso; (simp at g <;> omega)); intro _; conv => whnf) | (refine And.intro ?_ ?_; (intro g; exfalso; (simp at g <;> omega)); intro _; conv => whnf))
      refine ⟨trivial, LoadAt.cell (.slice (some ⟨b, p, none⟩) (q.length + 1) c) rfl rfl (fun w hw => (blk_sat (hw.in_ 0 rfl)).cell 0) ?_⟩
      conv => whnf
      refine ⟨?_, LoadAt.cell (.int .i32 (ch : Int)) rfl rfl (fun w hw => hch w hw.rest) ?_⟩
      · repeat' apply And.intro
        all_goals first | exact True.intro | omega
      conv => whnf
      refine ⟨trivial, LoadAt.cell (.slice (some ⟨b, p, none⟩) (q.length + 1) c) rfl rfl (fun w hw => (blk_sat (hw.in_ 0 rfl)).cell 0) ?_⟩
      conv => whnf
      refine ⟨trivial, OpAt.from2 b p (q.length + 1) c 1 .i64 rfl rfl rfl rfl rfl rfl (by omega) hc fun A' hA' => ?_⟩
      conv => whnf
      refine ⟨trivial, OpAt.store sb 0 (.slice A' q.length (c - 1)) _ rfl (fun h s => s) rfl rfl rfl rfl rfl (by simp [Value.cells, Value.oneCell']) (fun h r => blk_put (by show 0 + 1 ≤ 4; omega) r) ?_⟩
      conv => whnf
      repeat (first | (refine And.intro ?_ ?_; rotate_left; (intro g; exfalso; (simp at g <;> omega)); intro _; conv => whnf) | (refine And.intro ?_ ?_; (intro g; exfalso; (simp at g <;> omega)); intro _; conv => whnf))
      refine ⟨trivial, RegAt.tail 31 hmix (by kernel_rfl) ?_⟩
      conv => whnf
      refine ⟨trivial, LoadAt.cell (.bool false) rfl rfl (fun w hw => (blk_sat (hw.in_ 0 rfl)).cell 3) ?_⟩
      conv => whnf
      repeat (first | (refine And.intro ?_ ?_; rotate_left; (intro g; exfalso; (simp at g <;> omega)); intro _; conv => whnf) | (refine And.intro ?_ ?_; (intro g; exfalso; (simp at g <;> omega)); intro _; conv => whnf))
      refine ⟨?_, LoadAt.cell (.int .i64 W) rfl rfl (fun w hw => (blk_sat (hw.in_ 0 rfl)).cell 1) ?_⟩
      · repeat' apply And.intro
        all_goals first | exact True.intro | (unfold rng; omega) | omega
      conv => whnf
      repeat (first | (refine And.intro ?_ ?_; rotate_left; (intro g; exfalso; (simp at g <;> omega)); intro _; conv => whnf) | (refine And.intro ?_ ?_; (intro g; exfalso; (simp at g <;> omega)); intro _; conv => whnf))
      refine ⟨?_, OpAt.store sb 3 (.bool true) _ rfl (fun h s => s) rfl rfl rfl rfl rfl (by simp [Value.cells, Value.oneCell']) (fun h r => blk_put (by show 3 + 1 ≤ 4; omega) r) ?_⟩
      · repeat' apply And.intro
        all_goals first | exact True.intro | (unfold rng; omega) | omega
      conv => whnf
      refine ⟨trivial, ?_⟩
      conv => whnf
      exact ⟨trivial, .mk _ (fun w s => s) ⟨rfl, A', by rcases hA' with h | h; exact .inr h; exact .inl (by omega), rfl⟩⟩
    · rw [decide_eq_false h1, Bool.false_or]
      refine fn_of_run0 false Tryz.func67 rfl hmix rfl fun w0 => ?_
      conv => whnf
      refine ⟨trivial, LoadAt.cell (.slice (some ⟨b, p, none⟩) (q.length + 1) c) rfl rfl (fun w hw => (blk_sat (hw.in_ 0 rfl)).cell 0) ?_⟩
      conv => whnf
      repeat (first | (refine And.intro ?_ ?_; rotate_left; (intro g; exfalso; (simp at g <;> omega)); intro _; conv => whnf) | (refine And.intro ?_ ?_; (intro g; exfalso; (simp at g <;> omega)); intro _; conv => whnf))
      refine ⟨trivial, LoadAt.cell (.slice (some ⟨b, p, none⟩) (q.length + 1) c) rfl rfl (fun w hw => (blk_sat (hw.in_ 0 rfl)).cell 0) ?_⟩
      conv => whnf
      refine ⟨?_, LoadAt.cell (.int .i32 (ch : Int)) rfl rfl (fun w hw => hch w hw.rest) ?_⟩
      · repeat' apply And.intro
        all_goals first | exact True.intro | omega
      conv => whnf
      refine ⟨trivial, LoadAt.cell (.slice (some ⟨b, p, none⟩) (q.length + 1) c) rfl rfl (fun w hw => (blk_sat (hw.in_ 0 rfl)).cell 0) ?_⟩
      conv => whnf
      refine ⟨trivial, OpAt.from2 b p (q.length + 1) c 1 .i64 rfl rfl rfl rfl rfl rfl (by omega) hc fun A' hA' => ?_⟩
      conv => whnf
      refine ⟨trivial, OpAt.store sb 0 (.slice A' q.length (c - 1)) _ rfl (fun h s => s) rfl rfl rfl rfl rfl (by simp [Value.cells, Value.oneCell']) (fun h r => blk_put (by show 0 + 1 ≤ 4; omega) r) ?_⟩
      conv => whnf
      repeat (first | (refine And.intro ?_ ?_; rotate_left; (intro g; exfalso; (simp at g <;> omega)); intro _; conv => whnf) | (refine And.intro ?_ ?_; (intro g; exfalso; (simp at g <;> omega)); intro _; conv => whnf))
      refine ⟨trivial, RegAt.tail 31 hmix (by kernel_rfl) ?_⟩
      conv => whnf
      refine ⟨trivial, LoadAt.cell (.bool false) rfl rfl (fun w hw => (blk_sat (hw.in_ 0 rfl)).cell 3) ?_⟩
      conv => whnf
      repeat (first | (refine And.intro ?_ ?_; rotate_left; (intro g; exfalso; (simp at g <;> omega)); intro _; conv => whnf) | (refine And.intro ?_ ?_; (intro g; exfalso; (simp at g <;> omega)); intro _; conv => whnf))
      refine ⟨?_, LoadAt.cell (.int .i64 W) rfl rfl (fun w hw => (blk_sat (hw.in_ 0 rfl)).cell 1) ?_⟩
      · repeat' apply And.intro
        all_goals first | exact True.intro | (unfold rng; omega) | omega
      conv => whnf
      repeat (first | (refine And.intro ?_ ?_; rotate_left; (intro g; exfalso; (simp at g <;> omega)); intro _; conv => whnf) | (refine And.intro ?_ ?_; (intro g; exfalso; (simp at g <;> omega)); intro _; conv => whnf))
      refine ⟨?_, LoadAt.cell (.int .i64 H) rfl rfl (fun w hw => (blk_sat (hw.in_ 0 rfl)).cell 2) ?_⟩
      · repeat' apply And.intro
        all_goals first | exact True.intro | (unfold rng; omega) | omega
      conv => whnf
      refine ⟨?_, OpAt.store sb 3 (.bool (decide (H < y + s))) _ rfl (fun h s => s) rfl rfl rfl rfl rfl (by simp [Value.cells, Value.oneCell']) (fun h r => blk_put (by show 3 + 1 ≤ 4; omega) r) ?_⟩
      · repeat' apply And.intro
        all_goals first | exact True.intro | (unfold rng; omega) | omega
      conv => whnf
      refine ⟨trivial, ?_⟩
      conv => whnf
      exact ⟨trivial, .mk _ (fun w s => s) ⟨rfl, A', by rcases hA' with h | h; exact .inr h; exact .inl (by omega), rfl⟩⟩
end
end Go.Proofs.YtojlgfkjnkjcmaaGreatDoor

/-
  quad.signs.node: the whole tree, or a fault.
-/
namespace Go.Proofs.YtojlgfkjnkjcmaaGreatDoor
open Go.RowKit
open Sy
set_option linter.unusedVariables false
set_option linter.unusedSimpArgs false
set_option maxRecDepth 100000
set_option maxHeartbeats 4000000

def NodeOk (R0 : HP) (b : Nat) (full : List Nat) (W H : Int) (n : Nat) : Prop := ∀ l t r, parseQ n l = some (t, r) → Suf full l → ∀ (x y : Int), 0 ≤ x → x + 2 ^ n ≤ 2048 → 0 ≤ y → y + 2 ^ n ≤ 2048 → ∀ R, (∀ w, Sat R w → Sat R0 w) → ∀ sb A c odd, AtP full b A l → l.length ≤ c →
  FnR Tryz.prog R 67 [ptV sb, sqV x y (2 ^ n)] [sgH sb A l.length c W H odd] fun v hs => v = t.enc ∧ ∃ A' c', AtP full b A' r ∧ r.length ≤ c' ∧ hs = [sgH sb A' r.length c' W H (odd || oddQ W H n t x y)]
def NodeNo (R0 : HP) (b : Nat) (full : List Nat) (W H : Int) (n : Nat) : Prop := ∀ l, parseQ n l = none → Suf full l → ∀ (x y : Int), 0 ≤ x → x + 2 ^ n ≤ 2048 → 0 ≤ y → y + 2 ^ n ≤ 2048 → ∀ R, (∀ w, Sat R w → Sat R0 w) → ∀ sb A c odd, AtP full b A l → l.length ≤ c →
  PanR Tryz.prog R 67 [ptV sb, sqV x y (2 ^ n)] [sgH sb A l.length c W H odd] isWord R
theorem panR_mono {P : Program} {R : HP} {f : FuncId} {args : List Value} {pre : List HP} {X : List PanicEntry → Prop} {RX RX' : HP} (h : PanR P R f args pre X RX) (hr : ∀ w, Sat RX w → Sat RX' w) : PanR P R f args pre X RX' := fun w s => by
  refine (h w s).mono ?_
  rintro e w' ⟨ch, h1, h2, h3, h4⟩
  exact ⟨ch, h1, h2, hr w' h3, h4⟩
structure NdS where
  i : Nat
  A : Option Addr
  c : Nat
def odK (odd : Bool) (o : Nat → Bool) : Nat → Bool
  | 0 => odd
  | i + 1 => odK odd o i || o i
section
variable {R0 R : HP} {sb b p c : Nat} {q full : List Nat} {W H x y s h : Int} {odd : Bool} {Rs : Nat → List Nat} {K : Nat → QT} {o : Nat → Bool}
theorem sNodeStep (hR : ∀ w, Sat R w → Sat R0 w) (hq : q.length ≤ 1048576) (hc : q.length + 1 ≤ c) (hch : ∀ w, Sat R w → w.cell? ⟨b, p, none⟩ = some (.int .i32 ((43 : Nat) : Int))) (hs : s = h + h) (h0 : 1 ≤ h ∧ h ≤ 2048) (hx : 0 ≤ x ∧ x ≤ 4096) (hy : 0 ≤ y ∧ y ≤ 4096) (hR0 : Rs 0 = q) (hpq : p + 1 = full.length - q.length)
    (ih : ∀ i, i < 4 → ∀ R' : HP, (∀ w, Sat R' w → Sat R w) → ∀ A1 c1, AtP full b A1 (Rs i) → (Rs i).length ≤ c1 → FnR Tryz.prog R' 67 [ptV sb, sqV (qx x h i) (qy y h i) h] [sgH sb A1 (Rs i).length c1 W H (odK odd o i)] fun v hs => v = (K i).enc ∧ ∃ A' c', AtP full b A' (Rs (i + 1)) ∧ (Rs (i + 1)).length ≤ c' ∧ hs = [sgH sb A' (Rs (i + 1)).length c' W H (odK odd o i || o i)]) :
    FnR Tryz.prog R 67 [ptV sb, sqV x y s] [sgH sb (some ⟨b, p, none⟩) (q.length + 1) c W H odd] fun v hs => v = (QT.node (K 0) (K 1) (K 2) (K 3)).enc ∧ ∃ A' c', AtP full b A' (Rs 4) ∧ (Rs 4).length ≤ c' ∧ hs = [sgH sb A' (Rs 4).length c' W H (odK odd o 4 || isL (fourQ (K 0) (K 1) (K 2) (K 3)))] := by
  have hqr := fun R' i hi => sQuarter (R := R') (x := x) (y := y) (s := s) (h := h) (i := i) hs (by omega) (by omega) (by omega) hi
  refine fn_of_run0 false Tryz.func67 rfl hmix rfl fun w0 => ?_
  conv => whnf
  refine ⟨trivial, LoadAt.cell (.slice (some ⟨b, p, none⟩) (q.length + 1) c) rfl rfl (fun w hw => (blk_sat (hw.in_ 0 rfl)).cell 0) ?_⟩
  conv => whnf
  repeat (first | (refine And.intro ?_ ?_; rotate_left; (intro g; exfalso; (simp at g <;> omega)); intro _; conv => whnf) | (refine And.intro ?_ ?_; (intro g; exfalso; (simp at g <;> omega)); intro _; conv => whnf))
  refine ⟨trivial, LoadAt.cell (.slice (some ⟨b, p, none⟩) (q.length + 1) c) rfl rfl (fun w hw => (blk_sat (hw.in_ 0 rfl)).cell 0) ?_⟩
  conv => whnf
  refine ⟨?_, LoadAt.cell (.int .i32 ((43 : Nat) : Int)) rfl rfl (fun w hw => hch w hw.rest) ?_⟩
  · repeat' apply And.intro
    all_goals first | exact True.intro | omega
  conv => whnf
  refine ⟨trivial, LoadAt.cell (.slice (some ⟨b, p, none⟩) (q.length + 1) c) rfl rfl (fun w hw => (blk_sat (hw.in_ 0 rfl)).cell 0) ?_⟩
  conv => whnf
  refine ⟨trivial, OpAt.from2 b p (q.length + 1) c 1 .i64 rfl rfl rfl rfl rfl rfl (by omega) hc fun A0 hA0 => ?_⟩
  conv => whnf
  refine ⟨trivial, OpAt.store sb 0 (.slice A0 q.length (c - 1)) _ rfl (fun h s => s) rfl rfl rfl rfl rfl (by simp [Value.cells, Value.oneCell']) (fun h r => blk_put (by show 0 + 1 ≤ 4; omega) r) ?_⟩
  conv => whnf
  repeat (first | (refine And.intro ?_ ?_; rotate_left; (intro g; exfalso; (simp at g <;> omega)); intro _; conv => whnf) | (refine And.intro ?_ ?_; (intro g; exfalso; (simp at g <;> omega)); intro _; conv => whnf))
  refine ⟨trivial, LoopAt.of (α := NdS) [0, 3, 6] (fun a => [(81, .v (.int .i64 (a.i : Int)))]) (fun a => [(1, 101, [cellQ K a.i 0, cellQ K a.i 1, cellQ K a.i 2, cellQ K a.i 3]), (0, 66, [.v (.int .i64 x), .v (.int .i64 y), .v (.int .i64 s)])]) (fun a => [sgH sb a.A (Rs a.i).length a.c W H (odK odd o a.i)]) (fun a => a.i ≤ 4 ∧ AtP full b a.A (Rs a.i) ∧ (Rs a.i).length ≤ a.c) (fun a => 4 - a.i) ⟨0, A0, c - 1⟩ ⟨Nat.zero_le _, by rw [hR0]; rcases hA0 with h | h; exact .inr (by rw [← hpq]; exact h); exact .inl (by omega), by rw [hR0]; simp only; omega⟩
    (Le.of (Nat.le_of_ble_eq_true rfl) (Nat.zero_le _) ⟨⟨rfl, rfl⟩, ⟨rfl, rfl⟩, ⟨rfl, rfl⟩, ⟨rfl, rfl⟩, trivial⟩ ⟨⟨rfl, rfl, rfl, rfl⟩, ⟨rfl, rfl, rfl, rfl⟩, trivial⟩ fun h s => sub_same (by rw [← hR0] at s; exact s)) ?_⟩
  rintro ⟨i, A1, c1⟩ ⟨hi, hA1, hc1⟩
  simp only at hi hA1 hc1
  dsimp only
  rcases (show i = 0 ∨ i = 1 ∨ i = 2 ∨ i = 3 ∨ i = 4 by omega) with rfl | rfl | rfl | rfl | rfl
  · conv => whnf
    repeat (first | (refine ⟨fun _ => ?_, fun h => absurd h (by decide)⟩; conv => whnf) | (refine ⟨fun h => absurd h (by decide), fun _ => ?_⟩; conv => whnf))
    refine ⟨trivial, CallAt.pure (fun R' hR' => hqr R' 0 (by omega)) ?_⟩
    conv => whnf
    refine ⟨trivial, CallAt.fn (pre := [sgH sb A1 (Rs 0).length c1 W H (odK odd o 0)]) _ (fun h s => s) (fun R' hR' => ih 0 (by omega) R' (fun w s => (hR' w s).rest) A1 c1 hA1 hc1) ?_⟩
    rintro r hs ⟨rfl, A2, c2, hA2, hc2, rfl⟩
    conv => whnf
    refine ⟨?_, .mk ⟨0 + 1, A2, c2⟩ ⟨by simp only; omega, hA2, hc2⟩ (by simp only; omega) (Le.of (Nat.le_of_ble_eq_true rfl) (Nat.zero_le _) ⟨⟨rfl, rfl⟩, ⟨rfl, rfl⟩, ⟨rfl, rfl⟩, ⟨rfl, rfl⟩, trivial⟩ ⟨⟨rfl, rfl, rfl, rfl⟩, ⟨rfl, rfl, rfl, rfl⟩, trivial⟩ fun h s => sub_same s)⟩
    repeat' apply And.intro
    all_goals first | exact True.intro | decide | (unfold rng; decide)
  · conv => whnf
    repeat (first | (refine ⟨fun _ => ?_, fun h => absurd h (by decide)⟩; conv => whnf) | (refine ⟨fun h => absurd h (by decide), fun _ => ?_⟩; conv => whnf))
    refine ⟨trivial, CallAt.pure (fun R' hR' => hqr R' 1 (by omega)) ?_⟩
    conv => whnf
    refine ⟨trivial, CallAt.fn (pre := [sgH sb A1 (Rs 1).length c1 W H (odK odd o 1)]) _ (fun h s => s) (fun R' hR' => ih 1 (by omega) R' (fun w s => (hR' w s).rest) A1 c1 hA1 hc1) ?_⟩
    rintro r hs ⟨rfl, A2, c2, hA2, hc2, rfl⟩
    conv => whnf
    refine ⟨?_, .mk ⟨1 + 1, A2, c2⟩ ⟨by simp only; omega, hA2, hc2⟩ (by simp only; omega) (Le.of (Nat.le_of_ble_eq_true rfl) (Nat.zero_le _) ⟨⟨rfl, rfl⟩, ⟨rfl, rfl⟩, ⟨rfl, rfl⟩, ⟨rfl, rfl⟩, trivial⟩ ⟨⟨rfl, rfl, rfl, rfl⟩, ⟨rfl, rfl, rfl, rfl⟩, trivial⟩ fun h s => sub_same s)⟩
    repeat' apply And.intro
    all_goals first | exact True.intro | decide | (unfold rng; decide)
  · conv => whnf
    repeat (first | (refine ⟨fun _ => ?_, fun h => absurd h (by decide)⟩; conv => whnf) | (refine ⟨fun h => absurd h (by decide), fun _ => ?_⟩; conv => whnf))
    refine ⟨trivial, CallAt.pure (fun R' hR' => hqr R' 2 (by omega)) ?_⟩
    conv => whnf
    refine ⟨trivial, CallAt.fn (pre := [sgH sb A1 (Rs 2).length c1 W H (odK odd o 2)]) _ (fun h s => s) (fun R' hR' => ih 2 (by omega) R' (fun w s => (hR' w s).rest) A1 c1 hA1 hc1) ?_⟩
    rintro r hs ⟨rfl, A2, c2, hA2, hc2, rfl⟩
    conv => whnf
    refine ⟨?_, .mk ⟨2 + 1, A2, c2⟩ ⟨by simp only; omega, hA2, hc2⟩ (by simp only; omega) (Le.of (Nat.le_of_ble_eq_true rfl) (Nat.zero_le _) ⟨⟨rfl, rfl⟩, ⟨rfl, rfl⟩, ⟨rfl, rfl⟩, ⟨rfl, rfl⟩, trivial⟩ ⟨⟨rfl, rfl, rfl, rfl⟩, ⟨rfl, rfl, rfl, rfl⟩, trivial⟩ fun h s => sub_same s)⟩
    repeat' apply And.intro
    all_goals first | exact True.intro | decide | (unfold rng; decide)
  · conv => whnf
    repeat (first | (refine ⟨fun _ => ?_, fun h => absurd h (by decide)⟩; conv => whnf) | (refine ⟨fun h => absurd h (by decide), fun _ => ?_⟩; conv => whnf))
    refine ⟨trivial, CallAt.pure (fun R' hR' => hqr R' 3 (by omega)) ?_⟩
    conv => whnf
    refine ⟨trivial, CallAt.fn (pre := [sgH sb A1 (Rs 3).length c1 W H (odK odd o 3)]) _ (fun h s => s) (fun R' hR' => ih 3 (by omega) R' (fun w s => (hR' w s).rest) A1 c1 hA1 hc1) ?_⟩
    rintro r hs ⟨rfl, A2, c2, hA2, hc2, rfl⟩
    conv => whnf
    refine ⟨?_, .mk ⟨3 + 1, A2, c2⟩ ⟨by simp only; omega, hA2, hc2⟩ (by simp only; omega) (Le.of (Nat.le_of_ble_eq_true rfl) (Nat.zero_le _) ⟨⟨rfl, rfl⟩, ⟨rfl, rfl⟩, ⟨rfl, rfl⟩, ⟨rfl, rfl⟩, trivial⟩ ⟨⟨rfl, rfl, rfl, rfl⟩, ⟨rfl, rfl, rfl, rfl⟩, trivial⟩ fun h s => sub_same s)⟩
    repeat' apply And.intro
    all_goals first | exact True.intro | decide | (unfold rng; decide)
  · conv => whnf
    repeat (first | (refine ⟨fun _ => ?_, fun h => absurd h (by decide)⟩; conv => whnf) | (refine ⟨fun h => absurd h (by decide), fun _ => ?_⟩; conv => whnf))
    refine ⟨trivial, CallAt.pure (fun R' hR' => sFour (K 0) (K 1) (K 2) (K 3)) ?_⟩
    conv => whnf
    rcases fourQ_or (K 0) (K 1) (K 2) (K 3) with ⟨z, hz, _⟩ | hz
    · rw [hz, show isL (.leaf z) = true from rfl, Bool.or_true]
      conv => whnf
      repeat (first | (refine ⟨fun _ => ?_, fun h => absurd h (by decide)⟩; conv => whnf) | (refine ⟨fun h => absurd h (by decide), fun _ => ?_⟩; conv => whnf))
      refine ⟨trivial, OpAt.store sb 3 (.bool true) _ rfl (fun h s => s) rfl rfl rfl rfl rfl (by simp [Value.cells, Value.oneCell']) (fun h r => blk_put (by show 3 + 1 ≤ 4; omega) r) ?_⟩
      conv => whnf
      exact ⟨trivial, .mk _ (fun w s => s) ⟨rfl, A1, c1, hA1, hc1, rfl⟩⟩
    · rw [hz, show isL (.node (K 0) (K 1) (K 2) (K 3)) = false from rfl, Bool.or_false]
      conv => whnf
      repeat (first | (refine ⟨fun _ => ?_, fun h => absurd h (by decide)⟩; conv => whnf) | (refine ⟨fun h => absurd h (by decide), fun _ => ?_⟩; conv => whnf))
      exact ⟨trivial, .mk _ (fun w s => s) ⟨rfl, A1, c1, hA1, hc1, rfl⟩⟩
theorem sNodeStepNo {j : Nat} (hj : j < 4) (hR : ∀ w, Sat R w → Sat R0 w) (hq : q.length ≤ 1048576) (hc : q.length + 1 ≤ c) (hch : ∀ w, Sat R w → w.cell? ⟨b, p, none⟩ = some (.int .i32 ((43 : Nat) : Int))) (hs : s = h + h) (h0 : 1 ≤ h ∧ h ≤ 2048) (hx : 0 ≤ x ∧ x ≤ 4096) (hy : 0 ≤ y ∧ y ≤ 4096) (hR0 : Rs 0 = q) (hpq : p + 1 = full.length - q.length)
    (ih : ∀ i, i < j → ∀ R' : HP, (∀ w, Sat R' w → Sat R w) → ∀ A1 c1, AtP full b A1 (Rs i) → (Rs i).length ≤ c1 → FnR Tryz.prog R' 67 [ptV sb, sqV (qx x h i) (qy y h i) h] [sgH sb A1 (Rs i).length c1 W H (odK odd o i)] fun v hs => v = (K i).enc ∧ ∃ A' c', AtP full b A' (Rs (i + 1)) ∧ (Rs (i + 1)).length ≤ c' ∧ hs = [sgH sb A' (Rs (i + 1)).length c' W H (odK odd o i || o i)])
    (hno : ∀ R' : HP, (∀ w, Sat R' w → Sat R w) → ∀ A1 c1, AtP full b A1 (Rs j) → (Rs j).length ≤ c1 → PanR Tryz.prog R' 67 [ptV sb, sqV (qx x h j) (qy y h j) h] [sgH sb A1 (Rs j).length c1 W H (odK odd o j)] isWord R') :
    PanR Tryz.prog R 67 [ptV sb, sqV x y s] [sgH sb (some ⟨b, p, none⟩) (q.length + 1) c W H odd] isWord R := by
  have hqr := fun R' i hi => sQuarter (R := R') (x := x) (y := y) (s := s) (h := h) (i := i) hs (by omega) (by omega) (by omega) hi
  refine pan_of_run0 _ _ false Tryz.func67 rfl hmix rfl fun w0 => ?_
  conv => whnf
  refine ⟨trivial, LoadAt.cell (.slice (some ⟨b, p, none⟩) (q.length + 1) c) rfl rfl (fun w hw => (blk_sat (hw.in_ 0 rfl)).cell 0) ?_⟩
  conv => whnf
  repeat (first | (refine And.intro ?_ ?_; rotate_left; (intro g; exfalso; (simp at g <;> omega)); intro _; conv => whnf) | (refine And.intro ?_ ?_; (intro g; exfalso; (simp at g <;> omega)); intro _; conv => whnf))
  refine ⟨trivial, LoadAt.cell (.slice (some ⟨b, p, none⟩) (q.length + 1) c) rfl rfl (fun w hw => (blk_sat (hw.in_ 0 rfl)).cell 0) ?_⟩
  conv => whnf
  refine ⟨?_, LoadAt.cell (.int .i32 ((43 : Nat) : Int)) rfl rfl (fun w hw => hch w hw.rest) ?_⟩
  · repeat' apply And.intro
    all_goals first | exact True.intro | omega
  conv => whnf
  refine ⟨trivial, LoadAt.cell (.slice (some ⟨b, p, none⟩) (q.length + 1) c) rfl rfl (fun w hw => (blk_sat (hw.in_ 0 rfl)).cell 0) ?_⟩
  conv => whnf
  refine ⟨trivial, OpAt.from2 b p (q.length + 1) c 1 .i64 rfl rfl rfl rfl rfl rfl (by omega) hc fun A0 hA0 => ?_⟩
  conv => whnf
  refine ⟨trivial, OpAt.store sb 0 (.slice A0 q.length (c - 1)) _ rfl (fun h s => s) rfl rfl rfl rfl rfl (by simp [Value.cells, Value.oneCell']) (fun h r => blk_put (by show 0 + 1 ≤ 4; omega) r) ?_⟩
  conv => whnf
  repeat (first | (refine And.intro ?_ ?_; rotate_left; (intro g; exfalso; (simp at g <;> omega)); intro _; conv => whnf) | (refine And.intro ?_ ?_; (intro g; exfalso; (simp at g <;> omega)); intro _; conv => whnf))
  refine ⟨trivial, LoopAt.of (α := NdS) [0, 3, 6] (fun a => [(81, .v (.int .i64 (a.i : Int)))]) (fun a => [(1, 101, [cellQ K a.i 0, cellQ K a.i 1, cellQ K a.i 2, cellQ K a.i 3]), (0, 66, [.v (.int .i64 x), .v (.int .i64 y), .v (.int .i64 s)])]) (fun a => [sgH sb a.A (Rs a.i).length a.c W H (odK odd o a.i)]) (fun a => a.i ≤ j ∧ AtP full b a.A (Rs a.i) ∧ (Rs a.i).length ≤ a.c) (fun a => 4 - a.i) ⟨0, A0, c - 1⟩ ⟨Nat.zero_le _, by rw [hR0]; rcases hA0 with h | h; exact .inr (by rw [← hpq]; exact h); exact .inl (by omega), by rw [hR0]; simp only; omega⟩
    (Le.of (Nat.le_of_ble_eq_true rfl) (Nat.zero_le _) ⟨⟨rfl, rfl⟩, ⟨rfl, rfl⟩, ⟨rfl, rfl⟩, ⟨rfl, rfl⟩, trivial⟩ ⟨⟨rfl, rfl, rfl, rfl⟩, ⟨rfl, rfl, rfl, rfl⟩, trivial⟩ fun h s => sub_same (by rw [← hR0] at s; exact s)) ?_⟩
  rintro ⟨i, A1, c1⟩ ⟨hi, hA1, hc1⟩
  simp only at hi hA1 hc1
  dsimp only
  rcases (show i = 0 ∨ i = 1 ∨ i = 2 ∨ i = 3 by omega) with rfl | rfl | rfl | rfl
  · conv => whnf
    repeat (first | (refine ⟨fun _ => ?_, fun h => absurd h (by decide)⟩; conv => whnf) | (refine ⟨fun h => absurd h (by decide), fun _ => ?_⟩; conv => whnf))
    refine ⟨trivial, CallAt.pure (fun R' hR' => hqr R' 0 (by omega)) ?_⟩
    conv => whnf
    by_cases hij : j = 0
    · subst hij
      exact ⟨trivial, CallAt.pan (pre := [sgH sb A1 (Rs 0).length c1 W H (odK odd o 0)]) _ (fun h s => s) (fun R' hR' => panR_mono (hno R' (fun w s => (hR' w s).rest) A1 c1 hA1 hc1) fun w s => (hR' w s).rest) (fun ch h => h) (fun w s => s) trivial⟩
    · refine ⟨trivial, CallAt.fn (pre := [sgH sb A1 (Rs 0).length c1 W H (odK odd o 0)]) _ (fun h s => s) (fun R' hR' => ih 0 (by omega) R' (fun w s => (hR' w s).rest) A1 c1 hA1 hc1) ?_⟩
      rintro r hs ⟨rfl, A2, c2, hA2, hc2, rfl⟩
      conv => whnf
      refine ⟨?_, .mk ⟨0 + 1, A2, c2⟩ ⟨by simp only; omega, hA2, hc2⟩ (by simp only; omega) (Le.of (Nat.le_of_ble_eq_true rfl) (Nat.zero_le _) ⟨⟨rfl, rfl⟩, ⟨rfl, rfl⟩, ⟨rfl, rfl⟩, ⟨rfl, rfl⟩, trivial⟩ ⟨⟨rfl, rfl, rfl, rfl⟩, ⟨rfl, rfl, rfl, rfl⟩, trivial⟩ fun h s => sub_same s)⟩
      repeat' apply And.intro
      all_goals first | exact True.intro | decide | (unfold rng; decide)
  · conv => whnf
    repeat (first | (refine ⟨fun _ => ?_, fun h => absurd h (by decide)⟩; conv => whnf) | (refine ⟨fun h => absurd h (by decide), fun _ => ?_⟩; conv => whnf))
    refine ⟨trivial, CallAt.pure (fun R' hR' => hqr R' 1 (by omega)) ?_⟩
    conv => whnf
    by_cases hij : j = 1
    · subst hij
      exact ⟨trivial, CallAt.pan (pre := [sgH sb A1 (Rs 1).length c1 W H (odK odd o 1)]) _ (fun h s => s) (fun R' hR' => panR_mono (hno R' (fun w s => (hR' w s).rest) A1 c1 hA1 hc1) fun w s => (hR' w s).rest) (fun ch h => h) (fun w s => s) trivial⟩
    · refine ⟨trivial, CallAt.fn (pre := [sgH sb A1 (Rs 1).length c1 W H (odK odd o 1)]) _ (fun h s => s) (fun R' hR' => ih 1 (by omega) R' (fun w s => (hR' w s).rest) A1 c1 hA1 hc1) ?_⟩
      rintro r hs ⟨rfl, A2, c2, hA2, hc2, rfl⟩
      conv => whnf
      refine ⟨?_, .mk ⟨1 + 1, A2, c2⟩ ⟨by simp only; omega, hA2, hc2⟩ (by simp only; omega) (Le.of (Nat.le_of_ble_eq_true rfl) (Nat.zero_le _) ⟨⟨rfl, rfl⟩, ⟨rfl, rfl⟩, ⟨rfl, rfl⟩, ⟨rfl, rfl⟩, trivial⟩ ⟨⟨rfl, rfl, rfl, rfl⟩, ⟨rfl, rfl, rfl, rfl⟩, trivial⟩ fun h s => sub_same s)⟩
      repeat' apply And.intro
      all_goals first | exact True.intro | decide | (unfold rng; decide)
  · conv => whnf
    repeat (first | (refine ⟨fun _ => ?_, fun h => absurd h (by decide)⟩; conv => whnf) | (refine ⟨fun h => absurd h (by decide), fun _ => ?_⟩; conv => whnf))
    refine ⟨trivial, CallAt.pure (fun R' hR' => hqr R' 2 (by omega)) ?_⟩
    conv => whnf
    by_cases hij : j = 2
    · subst hij
      exact ⟨trivial, CallAt.pan (pre := [sgH sb A1 (Rs 2).length c1 W H (odK odd o 2)]) _ (fun h s => s) (fun R' hR' => panR_mono (hno R' (fun w s => (hR' w s).rest) A1 c1 hA1 hc1) fun w s => (hR' w s).rest) (fun ch h => h) (fun w s => s) trivial⟩
    · refine ⟨trivial, CallAt.fn (pre := [sgH sb A1 (Rs 2).length c1 W H (odK odd o 2)]) _ (fun h s => s) (fun R' hR' => ih 2 (by omega) R' (fun w s => (hR' w s).rest) A1 c1 hA1 hc1) ?_⟩
      rintro r hs ⟨rfl, A2, c2, hA2, hc2, rfl⟩
      conv => whnf
      refine ⟨?_, .mk ⟨2 + 1, A2, c2⟩ ⟨by simp only; omega, hA2, hc2⟩ (by simp only; omega) (Le.of (Nat.le_of_ble_eq_true rfl) (Nat.zero_le _) ⟨⟨rfl, rfl⟩, ⟨rfl, rfl⟩, ⟨rfl, rfl⟩, ⟨rfl, rfl⟩, trivial⟩ ⟨⟨rfl, rfl, rfl, rfl⟩, ⟨rfl, rfl, rfl, rfl⟩, trivial⟩ fun h s => sub_same s)⟩
      repeat' apply And.intro
      all_goals first | exact True.intro | decide | (unfold rng; decide)
  · conv => whnf
    repeat (first | (refine ⟨fun _ => ?_, fun h => absurd h (by decide)⟩; conv => whnf) | (refine ⟨fun h => absurd h (by decide), fun _ => ?_⟩; conv => whnf))
    refine ⟨trivial, CallAt.pure (fun R' hR' => hqr R' 3 (by omega)) ?_⟩
    conv => whnf
    by_cases hij : j = 3
    · subst hij
      exact ⟨trivial, CallAt.pan (pre := [sgH sb A1 (Rs 3).length c1 W H (odK odd o 3)]) _ (fun h s => s) (fun R' hR' => panR_mono (hno R' (fun w s => (hR' w s).rest) A1 c1 hA1 hc1) fun w s => (hR' w s).rest) (fun ch h => h) (fun w s => s) trivial⟩
    · refine ⟨trivial, CallAt.fn (pre := [sgH sb A1 (Rs 3).length c1 W H (odK odd o 3)]) _ (fun h s => s) (fun R' hR' => ih 3 (by omega) R' (fun w s => (hR' w s).rest) A1 c1 hA1 hc1) ?_⟩
      rintro r hs ⟨rfl, A2, c2, hA2, hc2, rfl⟩
      conv => whnf
      refine ⟨?_, .mk ⟨3 + 1, A2, c2⟩ ⟨by simp only; omega, hA2, hc2⟩ (by simp only; omega) (Le.of (Nat.le_of_ble_eq_true rfl) (Nat.zero_le _) ⟨⟨rfl, rfl⟩, ⟨rfl, rfl⟩, ⟨rfl, rfl⟩, ⟨rfl, rfl⟩, trivial⟩ ⟨⟨rfl, rfl, rfl, rfl⟩, ⟨rfl, rfl, rfl, rfl⟩, trivial⟩ fun h s => sub_same s)⟩
      repeat' apply And.intro
      all_goals first | exact True.intro | decide | (unfold rng; decide)
end
theorem odK_four (odd : Bool) (o : Nat → Bool) (z : Bool) : (odK odd o 4 || z) = (odd || (o 0 || o 1 || o 2 || o 3 || z)) := by
  simp only [odK, Bool.or_assoc]
theorem node_all {R0 : HP} {b : Nat} {full : List Nat} {W H : Int} (hRn : RunesAt R0 b full) (hful : full.length ≤ 1048576) : ∀ n, NodeOk R0 b full W H n ∧ NodeNo R0 b full W H n := by
  have hd : ∀ {l : List Nat} {ch : Nat} {q : List Nat}, l = ch :: q → Suf full l → ∀ R, (∀ w, Sat R w → Sat R0 w) → ∀ w, Sat R w → w.cell? ⟨b, full.length - l.length, none⟩ = some (.int .i32 (ch : Int)) := by
    rintro l ch q rfl s R hR w hw
    have := hRn w (hR w hw) _ _ (s.at_ (j := 0) (by simp))
    simpa using this
  have atc : ∀ {l : List Nat} {ch : Nat} {q : List Nat} {A : Option Addr}, l = ch :: q → AtP full b A l → A = some ⟨b, full.length - l.length, none⟩ := by
    rintro l ch q A rfl h
    rcases h with h | h
    · simp at h
    · exact h
  have len : ∀ {l : List Nat} {ch : Nat} {q : List Nat}, l = ch :: q → Suf full l → q.length ≤ 1048576 ∧ Suf full q ∧ full.length - l.length + 1 = full.length - q.length := by
    rintro l ch q rfl s
    refine ⟨?_, s.tail⟩
    obtain ⟨p, rfl⟩ := s
    simp only [List.length_append, List.length_cons] at hful
    omega
  intro n
  induction n with
  | zero =>
    have hp : (2 : Int) ^ 0 = 1 := rfl
    constructor
    · intro l t r hpa hs x y x0 x1 y0 y1 R hR sb A c odd hA hc
      rcases parse_cases 0 l with ⟨_, e⟩ | ⟨q, e1, e⟩ | ⟨q, e1, e⟩ | ⟨ch, q, _, _, _, _, e⟩ | ⟨m, q, e, _⟩
      · rw [e] at hpa; cases hpa
      · rw [e] at hpa
        cases hpa
        obtain ⟨h1, h2, h3⟩ := len e1 hs
        rw [atc e1 hA, oddQ_leaf, Bool.false_and, Bool.or_false]
        have := hd e1 hs R hR
        subst e1
        refine (sNodePt (R := R) h1 hc this rfl).post ?_
        rintro v hs' ⟨rfl, A', h, rfl⟩
        exact ⟨_, ⟨rfl, A', c - 1, by rw [AtP, ← h3]; exact h, by simp only [List.length_cons] at hc; omega, rfl⟩, fun h s => s⟩
      · rw [e] at hpa
        cases hpa
        obtain ⟨h1, h2, h3⟩ := len e1 hs
        rw [atc e1 hA, oddQ_leaf, Bool.true_and]
        have := hd e1 hs R hR
        subst e1
        refine (sNodeIn (R := R) h1 hc this rfl (by omega) (by omega) (by omega)).post ?_
        rintro v hs' ⟨rfl, A', h, rfl⟩
        exact ⟨_, ⟨rfl, A', c - 1, by rw [AtP, ← h3]; exact h, by simp only [List.length_cons] at hc; omega, rfl⟩, fun h s => s⟩
      · rw [e] at hpa; cases hpa
      · omega
    · intro l hpa hs x y x0 x1 y0 y1 R hR sb A c odd hA hc
      rcases parse_cases 0 l with ⟨e1, e⟩ | ⟨q, e1, e⟩ | ⟨q, e1, e⟩ | ⟨ch, q, e1, h46, h35, h43, e⟩ | ⟨m, q, e, _⟩
      · subst e1
        exact sNodeNil
      · rw [e] at hpa; cases hpa
      · rw [e] at hpa; cases hpa
      · obtain ⟨h1, h2, h3⟩ := len e1 hs
        rw [atc e1 hA]
        have := hd e1 hs R hR
        subst e1
        exact sNodeBad h1 hc this h46 h35 (.inr rfl)
      · omega
  | succ n ih =>
    obtain ⟨ihOk, ihNo⟩ := ih
    have h2 := two_succ n
    have hp0 := two_pos n
    have bnd : ∀ x y : Int, 0 ≤ x → x + 2 ^ (n + 1) ≤ 2048 → 0 ≤ y → y + 2 ^ (n + 1) ≤ 2048 → ∀ i, i < 4 → (0 ≤ qx x (2 ^ n) i ∧ qx x (2 ^ n) i + 2 ^ n ≤ 2048) ∧ (0 ≤ qy y (2 ^ n) i ∧ qy y (2 ^ n) i + 2 ^ n ≤ 2048) := fun x y x0 x1 y0 y1 i hi => by
      rcases (show i = 0 ∨ i = 1 ∨ i = 2 ∨ i = 3 by omega) with rfl | rfl | rfl | rfl <;> simp only [qx, qy] <;> omega
    have sufs : ∀ {Rs : Nat → List Nat} {K : Nat → QT} {j : Nat}, Suf full (Rs 0) → Chain (parseQ n) Rs K j → ∀ i, i ≤ j → Suf full (Rs i) := fun h0 hc i => by
      induction i with
      | zero => exact fun _ => h0
      | succ i ih => exact fun hi => parse_suf (hc i (by omega)) (ih (by omega))
    constructor
    · intro l t r hpa hs x y x0 x1 y0 y1 R hR sb A c odd hA hc
      rcases parse_cases (n + 1) l with ⟨_, e⟩ | ⟨q, e1, e⟩ | ⟨q, e1, e⟩ | ⟨ch, q, _, _, _, _, e⟩ | ⟨m, q, e, e1, e2⟩
      · rw [e] at hpa; cases hpa
      · rw [e] at hpa
        cases hpa
        obtain ⟨h1, h2, h3⟩ := len e1 hs
        rw [atc e1 hA, oddQ_leaf, Bool.false_and, Bool.or_false]
        have := hd e1 hs R hR
        subst e1
        refine (sNodePt (R := R) h1 hc this rfl).post ?_
        rintro v hs' ⟨rfl, A', h, rfl⟩
        exact ⟨_, ⟨rfl, A', c - 1, by rw [AtP, ← h3]; exact h, by simp only [List.length_cons] at hc; omega, rfl⟩, fun h s => s⟩
      · rw [e] at hpa
        cases hpa
        obtain ⟨h1, h2', h3⟩ := len e1 hs
        rw [atc e1 hA, oddQ_leaf, Bool.true_and]
        have := hd e1 hs R hR
        subst e1
        refine (sNodeIn (R := R) h1 hc this rfl (by omega) (by omega) (by omega)).post ?_
        rintro v hs' ⟨rfl, A', h, rfl⟩
        exact ⟨_, ⟨rfl, A', c - 1, by rw [AtP, ← h3]; exact h, by simp only [List.length_cons] at hc; omega, rfl⟩, fun h s => s⟩
      · rw [e] at hpa; cases hpa
      · obtain rfl : m = n := by omega
        rw [e2] at hpa
        obtain ⟨Rs, K, k0, k4, rfl, hch⟩ := kids4_some hpa
        subst k0
        obtain ⟨h1, h2', h3⟩ := len e1 hs
        have hsf := sufs h2' hch
        rw [atc e1 hA]
        have := hd e1 hs R hR
        subst e1
        subst k4
        refine (sNodeStep (R0 := R0) (R := R) (Rs := Rs) (K := K) (o := fun i => oddQ W H m (K i) (qx x (2 ^ m) i) (qy y (2 ^ m) i)) hR h1 hc this h2 (by omega) (by omega) (by omega) rfl h3 (fun i hi R' hR' A1 c1 hA1 hc1 => ?_)).post ?_
        · obtain ⟨⟨b1, b2⟩, b3, b4⟩ := bnd x y x0 x1 y0 y1 i hi
          exact ihOk (Rs i) (K i) (Rs (i + 1)) (hch i hi) (hsf i (by omega)) _ _ b1 b2 b3 b4 R' (fun w s => hR w (hR' w s)) sb A1 c1 _ hA1 hc1
        · rintro v hs' ⟨rfl, A', c', h, hc', rfl⟩
          refine ⟨_, ⟨rfl, A', c', h, hc', ?_⟩, fun h s => s⟩
          rw [odK_four]
          rfl
    · intro l hpa hs x y x0 x1 y0 y1 R hR sb A c odd hA hc
      rcases parse_cases (n + 1) l with ⟨e1, e⟩ | ⟨q, e1, e⟩ | ⟨q, e1, e⟩ | ⟨ch, q, e1, h46, h35, h43, e⟩ | ⟨m, q, e, e1, e2⟩
      · subst e1
        exact sNodeNil
      · rw [e] at hpa; cases hpa
      · rw [e] at hpa; cases hpa
      · obtain ⟨h1, h2, h3⟩ := len e1 hs
        rw [atc e1 hA]
        have := hd e1 hs R hR
        subst e1
        exact sNodeBad h1 hc this h46 h35 (.inl (h43.resolve_right (by omega)))
      · obtain rfl : m = n := by omega
        rw [e2] at hpa
        obtain ⟨j, Rs, K, hj, k0, hch, hnone⟩ := kids4_none hpa
        subst k0
        obtain ⟨h1, h2', h3⟩ := len e1 hs
        have hsf := sufs h2' hch
        rw [atc e1 hA]
        have := hd e1 hs R hR
        subst e1
        refine sNodeStepNo (R0 := R0) (R := R) (Rs := Rs) (K := K) (o := fun i => oddQ W H m (K i) (qx x (2 ^ m) i) (qy y (2 ^ m) i)) hj hR h1 hc this h2 (by omega) (by omega) (by omega) rfl h3 (fun i hi R' hR' A1 c1 hA1 hc1 => ?_) (fun R' hR' A1 c1 hA1 hc1 => ?_)
        · obtain ⟨⟨b1, b2⟩, b3, b4⟩ := bnd x y x0 x1 y0 y1 i (by omega)
          exact ihOk (Rs i) (K i) (Rs (i + 1)) (hch i hi) (hsf i (by omega)) _ _ b1 b2 b3 b4 R' (fun w s => hR w (hR' w s)) sb A1 c1 _ hA1 hc1
        · obtain ⟨⟨b1, b2⟩, b3, b4⟩ := bnd x y x0 x1 y0 y1 j hj
          exact ihNo (Rs j) hnone (hsf j (Nat.le_refl _)) _ _ b1 b2 b3 b4 R' (fun w s => hR w (hR' w s)) sb A1 c1 _ hA1 hc1
end Go.Proofs.YtojlgfkjnkjcmaaGreatDoor

/-
  The runes of a text, and its bytes, give one tree: plain.
-/
namespace Go.Proofs.YtojlgfkjnkjcmaaGreatDoor
open Go.RowKit
open Sy
set_option linter.unusedVariables false
set_option linter.unusedSimpArgs false
set_option maxRecDepth 100000
set_option maxHeartbeats 4000000

def runesF : Nat → List UInt8 → List Nat
  | 0, _ => []
  | _ + 1, [] => []
  | k + 1, a :: q => (dec (a :: q)).1 :: runesF k ((a :: q).drop (dec (a :: q)).2)
def runesL (l : List UInt8) : List Nat := runesF l.length l
theorem dec_low {a : UInt8} (q : List UInt8) (h : a.toNat < 128) : dec (a :: q) = (a.toNat, 1) := by
  unfold dec
  simp only [List.getElem?_cons_zero, Option.getD_some]
  rw [if_pos h]
theorem dec_high {a : UInt8} (q : List UInt8) (h : ¬ a.toNat < 128) : 128 ≤ (dec (a :: q)).1 ∧ 1 ≤ (dec (a :: q)).2 ∧ (dec (a :: q)).2 ≤ (a :: q).length := by
  have e : 128 ≤ Utf8.runeError := by decide
  unfold dec
  simp only [List.getElem?_cons_zero, Option.getD_some]
  rw [if_neg h]
  split
  · rename_i h1
    simp only [Bool.and_eq_true, decide_eq_true_eq] at h1
    split
    · rename_i h2
      simp only at h2 ⊢
      omega
    · simp only [List.length_cons]; omega
  · split
    · rename_i h1
      simp only [Bool.and_eq_true, decide_eq_true_eq] at h1
      split
      · rename_i h2
        simp only [Bool.and_eq_true, decide_eq_true_eq] at h2
        simp only at h2 ⊢
        omega
      · simp only [List.length_cons]; omega
    · split
      · rename_i h1
        simp only [Bool.and_eq_true, decide_eq_true_eq] at h1
        split
        · rename_i h2
          simp only [Bool.and_eq_true, decide_eq_true_eq] at h2
          simp only at h2 ⊢
          omega
        · simp only [List.length_cons]; omega
      · simp only [List.length_cons]; omega
theorem dec_size (a : UInt8) (q : List UInt8) : 1 ≤ (dec (a :: q)).2 ∧ (dec (a :: q)).2 ≤ (a :: q).length := by
  by_cases h : a.toNat < 128
  · rw [dec_low q h]; simp
  · exact (dec_high q h).2
theorem runesF_len : ∀ (k j : Nat) (l : List UInt8), l.length ≤ k → l.length ≤ j → runesF k l = runesF j l
  | 0, j, l, h, _ => by
    obtain rfl : l = [] := List.length_eq_zero_iff.1 (by omega)
    cases j <;> rfl
  | k + 1, 0, l, _, h => by
    obtain rfl : l = [] := List.length_eq_zero_iff.1 (by omega)
    rfl
  | k + 1, j + 1, [], _, _ => rfl
  | k + 1, j + 1, a :: q, h1, h2 => by
    have hs := dec_size a q
    simp only [List.length_cons] at h1 h2 hs
    show _ :: _ = _ :: _
    rw [runesF_len k j _ (by rw [List.length_drop, List.length_cons]; omega) (by rw [List.length_drop, List.length_cons]; omega)]
theorem runesL_cons (a : UInt8) (q : List UInt8) : runesL (a :: q) = (dec (a :: q)).1 :: runesL ((a :: q).drop (dec (a :: q)).2) := by
  have hs := dec_size a q
  show _ :: _ = _ :: _
  rw [runesF_len _ ((a :: q).drop (dec (a :: q)).2).length _ (by rw [List.length_drop]; simp only [List.length_cons] at hs ⊢; omega) (Nat.le_refl _)]
  rfl
theorem runesL_nil {l : List UInt8} : runesL l = [] ↔ l = [] := by
  cases l with
  | nil => exact ⟨fun _ => rfl, fun _ => rfl⟩
  | cons a q => rw [runesL_cons]; simp
theorem runesL_len : ∀ l : List UInt8, (runesL l).length ≤ l.length := by
  have key : ∀ (k : Nat) (l : List UInt8), (runesF k l).length ≤ k
    := fun k => by
      induction k with
      | zero => exact fun l => Nat.le_refl _
      | succ k ih =>
        intro l
        cases l with
        | nil => simp [runesF]
        | cons a q => simp only [runesF, List.length_cons]; have := ih ((a :: q).drop (dec (a :: q)).2); omega
  exact fun l => key _ l
/-- one tree of both, or none of both -/
def Both (o o' : Option (QT × List Nat)) : Prop := (o = none ∧ o' = none) ∨ ∃ t r, o = some (t, sgnQ r) ∧ o' = some (t, runesL r)
theorem both_bind {o o' : Option (QT × List Nat)} {f f' : QT × List Nat → Option (QT × List Nat)} (h : Both o o') (hf : ∀ t r, Both (f (t, sgnQ r)) (f' (t, runesL r))) : Both (o.bind f) (o'.bind f') := by
  rcases h with ⟨rfl, rfl⟩ | ⟨t, r, rfl, rfl⟩
  · exact .inl ⟨rfl, rfl⟩
  · exact hf t r
theorem both_one {k : List Nat → Option (QT × List Nat)} (hk : ∀ r, Both (k (sgnQ r)) (k (runesL r))) (l : List UInt8) : Both (parse1 k (sgnQ l)) (parse1 k (runesL l)) := by
  cases l with
  | nil => exact .inl ⟨rfl, rfl⟩
  | cons a q =>
    rw [runesL_cons, show sgnQ (a :: q) = a.toNat :: sgnQ q from rfl, parse1_cons, parse1_cons]
    by_cases h : a.toNat < 128
    · rw [dec_low q h]
      simp only [List.drop_succ_cons, List.drop_zero]
      split
      · exact .inr ⟨_, q, rfl, rfl⟩
      · split
        · exact .inr ⟨_, q, rfl, rfl⟩
        · split
          · exact hk q
          · exact .inl ⟨rfl, rfl⟩
    · have hd := (dec_high q h).1
      rw [if_neg (by omega), if_neg (by omega), if_neg (by omega), if_neg (by omega), if_neg (by omega), if_neg (by omega)]
      exact .inl ⟨rfl, rfl⟩
theorem both_parse : ∀ (n : Nat) (l : List UInt8), Both (parseQ n (sgnQ l)) (parseQ n (runesL l))
  | 0, l => both_one (k := fun _ => none) (fun r => .inl ⟨rfl, rfl⟩) l
  | n + 1, l => both_one (k := kids4 (parseQ n)) (fun r => both_bind (both_parse n r) fun t1 r1 => both_bind (both_parse n r1) fun t2 r2 => both_bind (both_parse n r2) fun t3 r3 => both_bind (both_parse n r3) fun t4 r4 => .inr ⟨_, r4, rfl, rfl⟩) l
end Go.Proofs.YtojlgfkjnkjcmaaGreatDoor

/-
  quad.side; quad.read: the quad of a text, or a fault.
-/
namespace Go.Proofs.YtojlgfkjnkjcmaaGreatDoor
open Go.RowKit
open Sy
set_option linter.unusedVariables false
set_option linter.unusedSimpArgs false
set_option maxRecDepth 100000
set_option maxHeartbeats 4000000

theorem u8_isQ {a : UInt8} (k : Nat) (hk : k < 256) : ((a.toNat : Nat) : Int) = (k : Int) ↔ a = u8 k := ⟨fun h => (u8_of (by omega)).symm, fun h => by rw [h, u8_nat hk]⟩
theorem at32 {s : List UInt8} {k : Nat} (hk : k < s.length) : (byteAt (bs s) k = 32) ↔ s[k]? = some 32 := by
  rw [byteAt_bs, List.getElem?_eq_getElem hk]
  simp only [Option.getD_some, Option.some.injEq]
  exact u8_isQ 32 (by decide)
theorem scan_from {l : List UInt8} {k : Nat} {n e : Int} (hk : k ≤ l.length) (h : scan l (k : Int) = (n, e, 0)) : ∃ j : Nat, e = (j : Int) ∧ k ≤ j ∧ j ≤ l.length ∧ (l.drop k).take (j - k) = Lib.itoa n ∧ -9223372036854775808 ≤ n ∧ n ≤ 9223372036854775807 := by
  rw [scan_shift l hk] at h
  split at h
  · rename_i h0
    rcases hx : scan (l.drop k) 0 with ⟨n', e', q⟩
    rw [hx] at h h0
    simp only at h h0
    subst h0
    obtain ⟨j, rfl, h1, h2, h3, h4⟩ := scan_fine hx
    injection h with e1 e2
    injection e2 with e2 _
    subst e1 e2
    rw [List.length_drop] at h1
    exact ⟨k + j, by omega, by omega, by omega, by rw [Nat.add_sub_cancel_left]; exact h2, h3, h4⟩
  · rename_i h0
    rw [h] at h0
    exact absurd rfl h0
/-- a number and a blank from a place on; the place behind both -/
def sideV (l : List UInt8) (k : Nat) : Option (Int × Nat) := if (scan l k).2.2 = 0 ∧ (scan l k).2.1.toNat < l.length ∧ l[(scan l k).2.1.toNat]? = some 32 then some ((scan l k).1, (scan l k).2.1.toNat + 1) else none
theorem sideV_some {l : List UInt8} {k j : Nat} {n : Int} (hk : k ≤ l.length) (h : sideV l k = some (n, j)) : ∃ i : Nat, j = i + 1 ∧ scan l k = (n, (i : Int), 0) ∧ k ≤ i ∧ i < l.length ∧ l[i]? = some 32 ∧ (l.drop k).take (i - k) = Lib.itoa n ∧ -9223372036854775808 ≤ n ∧ n ≤ 9223372036854775807 := by
  unfold sideV at h
  split at h
  · rename_i hc
    rcases hx : scan l k with ⟨n', e, q⟩
    rw [hx] at hc h
    simp only at hc h
    obtain ⟨rfl, h1, h2⟩ := hc
    obtain ⟨i, rfl, a, b, c, d, f⟩ := scan_from hk hx
    injection h with h
    injection h with e1 e2
    subst e1 e2
    rw [Int.toNat_natCast] at h1 h2
    exact ⟨i, by rw [Int.toNat_natCast], rfl, a, h1, h2, c, d, f⟩
  · cases h
theorem sSide {R : HP} (hN : ∀ w, Sat R w → NumW w) {l : List UInt8} (hl : l.length ≤ 1048576) {k j : Nat} {n : Int} (hk : k ≤ l.length) (h : sideV l k = some (n, j)) : PureR Tryz.prog R 66 [.string (bs l), .int .i64 (k : Int)] (.tuple #[.int .i64 n, .int .i64 (j : Int)]) := by
  obtain ⟨i, rfl, hs, h1, h2, h3, _⟩ := sideV_some hk h
  have hsc : ∀ (R' : HP), (∀ w, Sat R' w → Sat R w) → PureR Tryz.prog R' 85 [.string (bs l), .int .i64 (k : Int)] (.tuple #[.int .i64 n, .int .i64 (i : Int), .int .i64 0]) := fun R' h => by
    have := sScan (R := R') (fun w s => hN w (h w s)) l hl k
    rw [hs] at this
    exact this
  have h3' := (at32 h2).2 h3
  have hsz : (bs l).size = l.length := bs_size l
  refine fn_of_run0 false Tryz.func66 rfl hmix rfl fun w0 => ?_
  conv => whnf
  refine ⟨trivial, CallAt.pure (fun R' hR' => hsc R' hR') ?_⟩
  conv => whnf
  repeat (first | (refine And.intro ?_ ?_; rotate_left; (focus (intro g; exfalso; first | (simp at g; done) | (simp at g; omega) | (revert g; decide))); intro _; conv => whnf) | (refine And.intro ?_ ?_; (focus (intro g; exfalso; first | (simp at g; done) | (simp at g; omega) | (revert g; decide))); intro _; conv => whnf))
  refine ⟨?_, fin_pure rfl (by simp [mkRes])⟩
  repeat' apply And.intro
  all_goals first | exact True.intro | (unfold rng; omega) | (rw [hsz]; omega) | omega
/-- what is thrown -/
abbrev isFault (e : Int) (ch : List PanicEntry) : Prop := ch = faultCh e
theorem sSideNo {R : HP} (hN : ∀ w, Sat R w → NumW w) {l : List UInt8} (hl : l.length ≤ 1048576) {k : Nat} (hk : k ≤ l.length) (h : sideV l k = none) : PanR Tryz.prog R 66 [.string (bs l), .int .i64 (k : Int)] [] (isFault 12) R := by
  unfold sideV at h
  split at h
  · cases h
  rename_i hc
  rcases hx : scan l k with ⟨n, e, q⟩
  have hsc : ∀ (R' : HP), (∀ w, Sat R' w → Sat R w) → PureR Tryz.prog R' 85 [.string (bs l), .int .i64 (k : Int)] (.tuple #[.int .i64 n, .int .i64 e, .int .i64 q]) := fun R' h => by
    have := sScan (R := R') (fun w s => hN w (h w s)) l hl k
    rw [hx] at this
    exact this
  rw [hx] at hc
  simp only at hc
  have hsz : (bs l).size = l.length := bs_size l
  by_cases hq : q = 0
  · subst hq
    obtain ⟨i, rfl, h1, h2, _⟩ := scan_from hk hx
    simp only [Int.toNat_natCast, true_and] at hc
    by_cases h3 : i < l.length
    · have h4 : ¬ byteAt (bs l) i = 32 := fun c => hc ⟨h3, (at32 h3).1 c⟩
      refine pan_of_run0 _ _ false Tryz.func66 rfl hmix rfl fun w0 => ?_
      conv => whnf
      refine ⟨trivial, CallAt.pure (fun R' hR' => hsc R' hR') ?_⟩
      conv => whnf
      repeat (first | (refine And.intro ?_ ?_; rotate_left; (focus (intro g; exfalso; first | (simp at g; done) | (simp at g; omega) | (revert g; decide))); intro _; conv => whnf) | (refine And.intro ?_ ?_; (focus (intro g; exfalso; first | (simp at g; done) | (simp at g; omega) | (revert g; decide))); intro _; conv => whnf))
      exact ⟨by (repeat' apply And.intro) <;> first | exact True.intro | (rw [hsz]; omega) | omega, OpAt.panic 83 (.agg #[.int .i64 12]) rfl rfl rfl rfl (fun w s => s) trivial⟩
    · refine pan_of_run0 _ _ false Tryz.func66 rfl hmix rfl fun w0 => ?_
      conv => whnf
      refine ⟨trivial, CallAt.pure (fun R' hR' => hsc R' hR') ?_⟩
      conv => whnf
      repeat (first | (refine And.intro ?_ ?_; rotate_left; (focus (intro g; exfalso; first | (simp at g; done) | (simp at g; omega) | (revert g; decide))); intro _; conv => whnf) | (refine And.intro ?_ ?_; (focus (intro g; exfalso; first | (simp at g; done) | (simp at g; omega) | (revert g; decide))); intro _; conv => whnf))
      exact ⟨trivial, OpAt.panic 83 (.agg #[.int .i64 12]) rfl rfl rfl rfl (fun w s => s) trivial⟩
  · refine pan_of_run0 _ _ false Tryz.func66 rfl hmix rfl fun w0 => ?_
    conv => whnf
    refine ⟨trivial, CallAt.pure (fun R' hR' => hsc R' hR') ?_⟩
    conv => whnf
    repeat (first | (refine And.intro ?_ ?_; rotate_left; (focus (intro g; exfalso; first | (simp at g; done) | (simp at g; omega) | (revert g; decide))); intro _; conv => whnf) | (refine And.intro ?_ ?_; (focus (intro g; exfalso; first | (simp at g; done) | (simp at g; omega) | (revert g; decide))); intro _; conv => whnf))
    exact ⟨trivial, OpAt.panic 83 (.agg #[.int .i64 12]) rfl rfl rfl rfl (fun w s => s) trivial⟩
end Go.Proofs.YtojlgfkjnkjcmaaGreatDoor

/-
  quad.read: the quad of a text, or a fault.
-/
namespace Go.Proofs.YtojlgfkjnkjcmaaGreatDoor
open Go.RowKit
open Sy
set_option linter.unusedVariables false
set_option linter.unusedSimpArgs false
set_option maxRecDepth 100000
set_option maxHeartbeats 4000000

theorem pan_of_sat {P : Program} {R : HP} {f : FuncId} {args : List Value} {pre : List HP} {X : List PanicEntry → Prop} {RX : HP} (h : ∀ w, Sat (sepL pre R) w → PanR P R f args pre X RX) : PanR P R f args pre X RX := fun w hs => h w hs w hs
/-- a call that panics, and takes nothing -/
theorem CallAt.pan1 {G : Gl} {f : FuncId} {args : List Value} {st : St} {K : SV → St → Prop} {X : List PanicEntry → Prop} (hc : ∀ R' : HP, (∀ w, Sat R' w → Sat (sepL st.h G.R) w) → PanR G.P R' f args [] X R') (hX : ∀ ch, X ch → G.X ch) (hRX : ∀ w, Sat (sepL st.h G.R) w → Sat G.RX w) (ha : axAt G.AX st) : CallAt G f args st K := by
  refine .px ha fun ρ w mm => ?_
  obtain ⟨h, h1, h2, _⟩ := mm.hp
  refine Calls.mono (hc (sepL st.h G.R) (fun w s => s) w ⟨h, h1, h2⟩) ?_
  rintro e w' ⟨ch, rfl, k1, k2, k3⟩
  exact ⟨ch, rfl, hX _ k1, hRX _ k2, mm.wd.trans k3⟩
def sizeQ (W H : Int) : Prop := 1 ≤ W ∧ W ≤ 1024 ∧ 1 ≤ H ∧ H ≤ 1024
instance (W H : Int) : Decidable (sizeQ W H) := by unfold sizeQ; infer_instance
def i64R (n : Int) : Prop := -9223372036854775808 ≤ n ∧ n ≤ 9223372036854775807
theorem sWi0 {R : HP} {W H : Int} (hW : i64R W) (hH : i64R H) : PureR Tryz.prog R 50 [.agg #[.int .i64 0, .int .i64 0, .int .i64 0, .int .i64 0], .int .i64 W, .int .i64 H] (.int .i64 (if sizeQ W H then 0 else 3)) := by
  have e : withinZ 0 0 0 0 W H = if sizeQ W H then 0 else 3 := by
    unfold withinZ
    by_cases h : sizeQ W H
    · have h' : SizeOk W H := h
      have h2 : InP 0 0 0 0 W H := by unfold sizeQ at h; unfold InP; omega
      rw [if_pos h, if_neg (fun c => c h'), if_neg (fun c => c h2), if_neg (by omega)]
    · have h' : ¬ SizeOk W H := h
      rw [if_neg h, if_pos h']
  rw [← e]
  exact PureR.of_below fun w _ => (Within_any 0 0 0 0 W H w hW.1 hW.2 hH.1 hH.2).mono fun e w' ⟨h1, h2⟩ => ⟨h1, h2⟩
theorem rns_take {l : List Nat} {i : Nat} (h : i < l.length) : rns (l.take (i + 1)) = rns (l.take i) ++ [.int .i32 (l[i] : Int)] := by
  unfold rns
  rw [List.take_succ_eq_append_getElem h, List.map_append]
  rfl
theorem rns_len (l : List Nat) : (rns l).length = l.length := List.length_map _
theorem row_cap2 {A : Option Addr} {n c size : Nat} {e : TypeId} {xs : List Value} {w : World} (s : Sat (rowH (.slice A n c) n e size xs) w) : n ≤ c := by
  obtain ⟨h, _, _, r⟩ := s
  rcases r with ⟨e, h0, _⟩ | ⟨g, cap, cur, e, _, h1, _⟩
  · omega
  · injection e with _ _ e
    omega
theorem runes_row {R' : HP} {A : Option Addr} {c : Nat} {full : List Nat} (h : ∀ w, Sat R' w → Sat (rowH (.slice A full.length c) full.length 21 1 (rns full)) w) {w0 : World} (s0 : Sat R' w0) : ∃ b, RunesAt R' b full ∧ AtP full b A full ∧ full.length ≤ c := by
  have hc := row_cap2 (h w0 s0)
  by_cases h0 : full.length = 0
  · refine ⟨0, fun w s j u hu => ?_, .inl h0, hc⟩
    obtain rfl : full = [] := List.length_eq_zero_iff.1 h0
    simp [rns] at hu
  · obtain ⟨g, rfl, _⟩ := rowH_at (h w0 s0) (by omega)
    exact ⟨g, fun w s j u hu => rowB_at2 (h w s) (by omega) hu, .inr (by rw [Nat.sub_self]), hc⟩
structure RdL where
  pos : Nat
  m : Nat
  A : Option Addr
  c : Nat
theorem sReadA {R : HP} (hN : ∀ w, Sat R w → NumW w) {l : List UInt8} (hl : l.length ≤ 1048576) (h1 : sideV l 0 = none) : PanR Tryz.prog R 41 [.string (bs l)] [] (isFault 12) R := by
  refine pan_of_run0 _ _ false Tryz.func41 rfl hmix rfl fun w0 => ?_
  conv => whnf
  exact ⟨trivial, CallAt.pan1 (fun R' hR' => sSideNo (fun w s => hN w (hR' w s)) hl (Nat.zero_le _) h1) (fun ch h => h) (fun w s => s) trivial⟩
theorem sReadB {R : HP} (hN : ∀ w, Sat R w → NumW w) {l : List UInt8} (hl : l.length ≤ 1048576) {W : Int} {k1 : Nat} (h1 : sideV l 0 = some (W, k1)) (hk1 : k1 ≤ l.length) (h2 : sideV l k1 = none) : PanR Tryz.prog R 41 [.string (bs l)] [] (isFault 12) R := by
  refine pan_of_run0 _ _ false Tryz.func41 rfl hmix rfl fun w0 => ?_
  conv => whnf
  refine ⟨trivial, CallAt.pure (fun R' hR' => sSide (fun w s => hN w (hR' w s)) hl (Nat.zero_le _) h1) ?_⟩
  conv => whnf
  exact ⟨trivial, CallAt.pan1 (fun R' hR' => sSideNo (fun w s => hN w (hR' w s)) hl hk1 h2) (fun ch h => h) (fun w s => s) trivial⟩
theorem sReadC {R : HP} (hN : ∀ w, Sat R w → NumW w) {l : List UInt8} (hl : l.length ≤ 1048576) {W H : Int} {k1 k2 : Nat} (h1 : sideV l 0 = some (W, k1)) (hk1 : k1 ≤ l.length) (h2 : sideV l k1 = some (H, k2)) (hWr : i64R W) (hHr : i64R H) (hs : ¬ sizeQ W H) : PanR Tryz.prog R 41 [.string (bs l)] [] (isFault 3) R := by
  refine pan_of_run0 _ _ false Tryz.func41 rfl hmix rfl fun w0 => ?_
  conv => whnf
  refine ⟨trivial, CallAt.pure (fun R' hR' => sSide (fun w s => hN w (hR' w s)) hl (Nat.zero_le _) h1) ?_⟩
  conv => whnf
  refine ⟨trivial, CallAt.pure (fun R' hR' => sSide (fun w s => hN w (hR' w s)) hl hk1 h2) ?_⟩
  conv => whnf
  refine ⟨trivial, CallAt.pure (fun R' hR' => sWi0 hWr hHr) ?_⟩
  conv => whnf
  rw [if_neg hs]
  repeat (first | (refine And.intro ?_ ?_; rotate_left; (focus (intro g; exfalso; first | (simp at g; done) | (simp at g; omega) | (revert g; decide))); intro _; conv => whnf) | (refine And.intro ?_ ?_; (focus (intro g; exfalso; first | (simp at g; done) | (simp at g; omega) | (revert g; decide))); intro _; conv => whnf))
  exact ⟨trivial, OpAt.panic 83 (.agg #[.int .i64 3]) rfl rfl rfl rfl (fun w s => s) trivial⟩
theorem sReadD {R : HP} (hN : ∀ w, Sat R w → NumW w) {l : List UInt8} (hl : l.length ≤ 1048576) {W H : Int} {k1 k2 : Nat} (h1 : sideV l 0 = some (W, k1)) (hk1 : k1 ≤ l.length) (h2 : sideV l k1 = some (H, k2)) (hk2 : k2 ≤ l.length) (hWr : i64R W) (hHr : i64R H) (hs : sizeQ W H) {q : List UInt8} (hq : q = l.drop k2) {full : List Nat} (hful : full = runesL q) {n : Nat} (hn : n ≤ 10) (hS : Side (max W H) n) (hp : parseQ n full = none) : PanR Tryz.prog R 41 [.string (bs l)] [] (isFault 12) R := by
  have hsz : (bs l).size = l.length := bs_size l
  have hex : (bs l).extract (k2 : Int).toNat (((bs l).size : Int)).toNat = bs q := by
    rw [Int.toNat_natCast, Int.toNat_natCast, bs_extract, bs_size, List.take_length, hq]
  have hql : q.length ≤ 1048576 := by rw [hq, List.length_drop]; omega
  have hfl : full.length ≤ 1048576 := by rw [hful]; exact Nat.le_trans (runesL_len q) hql
  have hp2 : (0 : Int) + 2 ^ n ≤ 2048 := by
    have : ∀ n, n ≤ 10 → (0 : Int) + 2 ^ n ≤ 2048 := by decide
    exact this n hn
  refine pan_of_run0 _ _ false Tryz.func41 rfl hmix rfl fun w0 => ?_
  conv => whnf
  refine ⟨trivial, CallAt.pure (fun R' hR' => sSide (fun w s => hN w (hR' w s)) hl (Nat.zero_le _) h1) ?_⟩
  conv => whnf
  refine ⟨trivial, CallAt.pure (fun R' hR' => sSide (fun w s => hN w (hR' w s)) hl hk1 h2) ?_⟩
  conv => whnf
  refine ⟨trivial, CallAt.pure (fun R' hR' => sWi0 hWr hHr) ?_⟩
  conv => whnf
  rw [if_pos hs]
  repeat (first | (refine And.intro ?_ ?_; rotate_left; (focus (intro g; exfalso; first | (simp at g; done) | (simp at g; omega) | (revert g; decide))); intro _; conv => whnf) | (refine And.intro ?_ ?_; (focus (intro g; exfalso; first | (simp at g; done) | (simp at g; omega) | (revert g; decide))); intro _; conv => whnf))
  refine ⟨?_, OpAt.range (bs q) rfl (congrArg Value.string hex) rfl rfl fun ib => ?_⟩
  · repeat' apply And.intro
    all_goals first | exact True.intro | (unfold rng; omega) | (rw [hsz]; omega) | omega
  conv => whnf
  refine ⟨trivial, LoopAt.of (α := RdL) [3, 5, 7, 38] (fun _ => []) (fun a => [(0, 137, [.v (.slice a.A a.m a.c), .v (.int .i64 W), .v (.int .i64 H), .v (.bool false)])]) (fun a => [itH ib (bs q) a.pos, rowH (.slice a.A a.m a.c) a.m 21 1 (rns (full.take a.m))]) (fun a => a.pos ≤ q.length ∧ a.m ≤ full.length ∧ full.drop a.m = runesL (q.drop a.pos)) (fun a => q.length - a.pos) ⟨0, 0, none, 0⟩ ⟨Nat.zero_le _, Nat.zero_le _, by rw [List.drop_zero, List.drop_zero, hful]⟩
    (Le.of (Nat.le_of_ble_eq_true rfl) (Nat.zero_le _) ⟨⟨rfl, rfl⟩, ⟨rfl, rfl⟩, ⟨rfl, rfl⟩, ⟨rfl, rfl⟩, trivial⟩ ⟨⟨rfl, rfl, rfl, rfl⟩, trivial⟩ fun h s => sub_same (sepL_perm (List.Perm.swap _ _ _) (row_nil _ _ s))) ?_⟩
  rintro ⟨pos, m, A, c⟩ ⟨hpos, hm, hdr⟩
  simp only at hpos hm hdr
  dsimp only
  by_cases hend : pos < q.length
  · obtain ⟨a, r, har⟩ : ∃ a r, q.drop pos = a :: r := by
      cases hqd : q.drop pos with
      | nil => have := congrArg List.length hqd; rw [List.length_drop] at this; simp at this; omega
      | cons a r => exact ⟨a, r, rfl⟩
    have hde := decode_bs q pos
    rw [har] at hde hdr
    rw [runesL_cons] at hdr
    have hds := dec_size a r
    have hm2 : m < full.length := by
      have := congrArg List.length hdr
      rw [List.length_drop, List.length_cons] at this
      omega
    have hgm : full[m] = (dec (a :: r)).1 := by
      have := congrArg (fun z : List Nat => z[0]?) hdr
      simp only [List.getElem?_drop, Nat.add_zero, List.getElem?_cons_zero] at this
      rw [List.getElem?_eq_getElem hm2] at this
      exact Option.some.inj this
    have htk := rns_take hm2
    rw [hgm] at htk
    have hdr2 : full.drop (m + 1) = runesL (q.drop (pos + (dec (a :: r)).2)) := by
      have := congrArg (List.drop 1) hdr
      rw [List.drop_succ_cons, List.drop_zero] at this
      have e : q.drop (pos + (dec (a :: r)).2) = (a :: r).drop (dec (a :: r)).2 := by rw [← List.drop_drop, har]
      rw [List.drop_drop] at this
      rw [e]
      exact this
    have hpos2 : pos + (dec (a :: r)).2 ≤ q.length := by
      have := congrArg List.length har
      rw [List.length_drop] at this
      omega
    generalize dec (a :: r) = z at *
    conv => whnf
    refine ⟨trivial, OpAt.next ib (bs q) pos _ rfl (fun h s => s) rfl rfl (by rw [bs_size]; omega) ?_⟩
    rw [hde]
    conv => whnf
    repeat (first | (refine ⟨fun _ => ?_, fun h => absurd h (by decide)⟩; conv => whnf) | (refine ⟨fun h => absurd h (by decide), fun _ => ?_⟩; conv => whnf))
    refine ⟨trivial, OpAt.lit [.int .i32 (z.1 : Int)] 1 rfl rfl rfl rfl rfl (by decide) rfl rfl rfl (by simp [Value.cells]) rfl (by decide) fun g => ?_⟩
    conv => whnf
    refine ⟨trivial, OpAt.append (.slice A m c) m 1 4 (rns (full.take m)) [.int .i32 (z.1 : Int)] (some ⟨g, 0, none⟩) 1 1 _ rfl (fun h s => sepL_pull 2 s) rfl rfl rfl rfl rfl rfl rfl rfl rfl (by decide) (fun w hw => rowH_reads rfl (Sat.left hw)) (by simp [Value.oneCell']) (by simp only [maxLen]; omega) (by omega) fun A' c' => ?_⟩
    conv => whnf
    refine ⟨trivial, .mk ⟨pos + z.2, m + 1, A', c'⟩ ⟨hpos2, by simp only; omega, hdr2⟩ (by simp only; omega) (Le.of (Nat.le_of_ble_eq_true rfl) (Nat.zero_le _) ⟨⟨rfl, rfl⟩, ⟨rfl, rfl⟩, ⟨rfl, rfl⟩, ⟨rfl, rfl⟩, trivial⟩ ⟨⟨rfl, rfl, rfl, rfl⟩, trivial⟩ fun h s => ?_)⟩
    obtain ⟨h', e, s3⟩ := sub_drop1 s
    refine ⟨h', e, ?_⟩
    show sepL [itH ib (bs q) (pos + z.2), rowH (.slice A' (m + 1) c') (m + 1) 21 1 (rns (full.take (m + 1)))] R h'
    rw [htk]
    exact sepL_perm (List.Perm.swap _ _ _) s3
  · have hend : pos = q.length := by omega
    subst hend
    have hm2 : m = full.length := by
      have := congrArg List.length hdr
      rw [List.drop_length, List.length_drop] at this
      simp [runesL, runesF] at this
      omega
    subst hm2
    rw [List.take_length]
    conv => whnf
    refine ⟨trivial, OpAt.nextEnd ib (bs q) q.length _ rfl (fun h s => s) rfl rfl (by rw [bs_size]; omega) ?_⟩
    conv => whnf
    repeat (first | (refine ⟨fun _ => ?_, fun h => absurd h (by decide)⟩; conv => whnf) | (refine ⟨fun h => absurd h (by decide), fun _ => ?_⟩; conv => whnf))
    refine ⟨trivial, CallAt.pure (fun R' hR' => sQWhole (by omega) hS) ?_⟩
    conv => whnf
    intro sb _
    conv => whnf
    exact ⟨trivial, CallAt.pan (pre := [sgH sb A full.length c W H false]) (RX := R) _ (fun h s => s) (fun R' hR' => pan_of_sat fun w s => (by
      obtain ⟨b, hb, hat, hcap⟩ := runes_row (fun w s => (hR' w s).in_ 1 rfl) s.rest
      exact panR_mono ((node_all hb hfl n).2 full hp ⟨[], rfl⟩ 0 0 (Int.le_refl _) hp2 (Int.le_refl _) hp2 R' (fun w s => s) sb A c false hat hcap) fun w s => (hR' w s).rest)) (fun ch h => h) (fun w s => s) trivial⟩
theorem sReadE {R : HP} (hN : ∀ w, Sat R w → NumW w) {l : List UInt8} (hl : l.length ≤ 1048576) {W H : Int} {k1 k2 : Nat} (h1 : sideV l 0 = some (W, k1)) (hk1 : k1 ≤ l.length) (h2 : sideV l k1 = some (H, k2)) (hk2 : k2 ≤ l.length) (hWr : i64R W) (hHr : i64R H) (hs : sizeQ W H) {q : List UInt8} (hq : q = l.drop k2) {full : List Nat} (hful : full = runesL q) {n : Nat} (hn : n ≤ 10) (hS : Side (max W H) n) {t : QT} {r : List Nat} (hp : parseQ n full = some (t, r)) (hr : 0 < r.length) : PanR Tryz.prog R 41 [.string (bs l)] [] (isFault 12) R := by
  have hsz : (bs l).size = l.length := bs_size l
  have hex : (bs l).extract (k2 : Int).toNat (((bs l).size : Int)).toNat = bs q := by
    rw [Int.toNat_natCast, Int.toNat_natCast, bs_extract, bs_size, List.take_length, hq]
  have hql : q.length ≤ 1048576 := by rw [hq, List.length_drop]; omega
  have hfl : full.length ≤ 1048576 := by rw [hful]; exact Nat.le_trans (runesL_len q) hql
  have hp2 : (0 : Int) + 2 ^ n ≤ 2048 := by
    have : ∀ n, n ≤ 10 → (0 : Int) + 2 ^ n ≤ 2048 := by decide
    exact this n hn
  refine pan_of_run0 _ _ false Tryz.func41 rfl hmix rfl fun w0 => ?_
  conv => whnf
  refine ⟨trivial, CallAt.pure (fun R' hR' => sSide (fun w s => hN w (hR' w s)) hl (Nat.zero_le _) h1) ?_⟩
  conv => whnf
  refine ⟨trivial, CallAt.pure (fun R' hR' => sSide (fun w s => hN w (hR' w s)) hl hk1 h2) ?_⟩
  conv => whnf
  refine ⟨trivial, CallAt.pure (fun R' hR' => sWi0 hWr hHr) ?_⟩
  conv => whnf
  rw [if_pos hs]
  repeat (first | (refine And.intro ?_ ?_; rotate_left; (focus (intro g; exfalso; first | (simp at g; done) | (simp at g; omega) | (revert g; decide))); intro _; conv => whnf) | (refine And.intro ?_ ?_; (focus (intro g; exfalso; first | (simp at g; done) | (simp at g; omega) | (revert g; decide))); intro _; conv => whnf))
  refine ⟨?_, OpAt.range (bs q) rfl (congrArg Value.string hex) rfl rfl fun ib => ?_⟩
  · repeat' apply And.intro
    all_goals first | exact True.intro | (unfold rng; omega) | (rw [hsz]; omega) | omega
  conv => whnf
  refine ⟨trivial, LoopAt.of (α := RdL) [3, 5, 7, 38] (fun _ => []) (fun a => [(0, 137, [.v (.slice a.A a.m a.c), .v (.int .i64 W), .v (.int .i64 H), .v (.bool false)])]) (fun a => [itH ib (bs q) a.pos, rowH (.slice a.A a.m a.c) a.m 21 1 (rns (full.take a.m))]) (fun a => a.pos ≤ q.length ∧ a.m ≤ full.length ∧ full.drop a.m = runesL (q.drop a.pos)) (fun a => q.length - a.pos) ⟨0, 0, none, 0⟩ ⟨Nat.zero_le _, Nat.zero_le _, by rw [List.drop_zero, List.drop_zero, hful]⟩
    (Le.of (Nat.le_of_ble_eq_true rfl) (Nat.zero_le _) ⟨⟨rfl, rfl⟩, ⟨rfl, rfl⟩, ⟨rfl, rfl⟩, ⟨rfl, rfl⟩, trivial⟩ ⟨⟨rfl, rfl, rfl, rfl⟩, trivial⟩ fun h s => sub_same (sepL_perm (List.Perm.swap _ _ _) (row_nil _ _ s))) ?_⟩
  rintro ⟨pos, m, A, c⟩ ⟨hpos, hm, hdr⟩
  simp only at hpos hm hdr
  dsimp only
  by_cases hend : pos < q.length
  · obtain ⟨a, r, har⟩ : ∃ a r, q.drop pos = a :: r := by
      cases hqd : q.drop pos with
      | nil => have := congrArg List.length hqd; rw [List.length_drop] at this; simp at this; omega
      | cons a r => exact ⟨a, r, rfl⟩
    have hde := decode_bs q pos
    rw [har] at hde hdr
    rw [runesL_cons] at hdr
    have hds := dec_size a r
    have hm2 : m < full.length := by
      have := congrArg List.length hdr
      rw [List.length_drop, List.length_cons] at this
      omega
    have hgm : full[m] = (dec (a :: r)).1 := by
      have := congrArg (fun z : List Nat => z[0]?) hdr
      simp only [List.getElem?_drop, Nat.add_zero, List.getElem?_cons_zero] at this
      rw [List.getElem?_eq_getElem hm2] at this
      exact Option.some.inj this
    have htk := rns_take hm2
    rw [hgm] at htk
    have hdr2 : full.drop (m + 1) = runesL (q.drop (pos + (dec (a :: r)).2)) := by
      have := congrArg (List.drop 1) hdr
      rw [List.drop_succ_cons, List.drop_zero] at this
      have e : q.drop (pos + (dec (a :: r)).2) = (a :: r).drop (dec (a :: r)).2 := by rw [← List.drop_drop, har]
      rw [List.drop_drop] at this
      rw [e]
      exact this
    have hpos2 : pos + (dec (a :: r)).2 ≤ q.length := by
      have := congrArg List.length har
      rw [List.length_drop] at this
      omega
    generalize dec (a :: r) = z at *
    conv => whnf
    refine ⟨trivial, OpAt.next ib (bs q) pos _ rfl (fun h s => s) rfl rfl (by rw [bs_size]; omega) ?_⟩
    rw [hde]
    conv => whnf
    repeat (first | (refine ⟨fun _ => ?_, fun h => absurd h (by decide)⟩; conv => whnf) | (refine ⟨fun h => absurd h (by decide), fun _ => ?_⟩; conv => whnf))
    refine ⟨trivial, OpAt.lit [.int .i32 (z.1 : Int)] 1 rfl rfl rfl rfl rfl (by decide) rfl rfl rfl (by simp [Value.cells]) rfl (by decide) fun g => ?_⟩
    conv => whnf
    refine ⟨trivial, OpAt.append (.slice A m c) m 1 4 (rns (full.take m)) [.int .i32 (z.1 : Int)] (some ⟨g, 0, none⟩) 1 1 _ rfl (fun h s => sepL_pull 2 s) rfl rfl rfl rfl rfl rfl rfl rfl rfl (by decide) (fun w hw => rowH_reads rfl (Sat.left hw)) (by simp [Value.oneCell']) (by simp only [maxLen]; omega) (by omega) fun A' c' => ?_⟩
    conv => whnf
    refine ⟨trivial, .mk ⟨pos + z.2, m + 1, A', c'⟩ ⟨hpos2, by simp only; omega, hdr2⟩ (by simp only; omega) (Le.of (Nat.le_of_ble_eq_true rfl) (Nat.zero_le _) ⟨⟨rfl, rfl⟩, ⟨rfl, rfl⟩, ⟨rfl, rfl⟩, ⟨rfl, rfl⟩, trivial⟩ ⟨⟨rfl, rfl, rfl, rfl⟩, trivial⟩ fun h s => ?_)⟩
    obtain ⟨h', e, s3⟩ := sub_drop1 s
    refine ⟨h', e, ?_⟩
    show sepL [itH ib (bs q) (pos + z.2), rowH (.slice A' (m + 1) c') (m + 1) 21 1 (rns (full.take (m + 1)))] R h'
    rw [htk]
    exact sepL_perm (List.Perm.swap _ _ _) s3
  · have hend : pos = q.length := by omega
    subst hend
    have hm2 : m = full.length := by
      have := congrArg List.length hdr
      rw [List.drop_length, List.length_drop] at this
      simp [runesL, runesF] at this
      omega
    subst hm2
    rw [List.take_length]
    conv => whnf
    refine ⟨trivial, OpAt.nextEnd ib (bs q) q.length _ rfl (fun h s => s) rfl rfl (by rw [bs_size]; omega) ?_⟩
    conv => whnf
    repeat (first | (refine ⟨fun _ => ?_, fun h => absurd h (by decide)⟩; conv => whnf) | (refine ⟨fun h => absurd h (by decide), fun _ => ?_⟩; conv => whnf))
    refine ⟨trivial, CallAt.pure (fun R' hR' => sQWhole (by omega) hS) ?_⟩
    conv => whnf
    intro sb _
    conv => whnf
    refine ⟨trivial, CallAt.fn (pre := [sgH sb A full.length c W H false]) (post := fun v hs => v = t.enc ∧ ∃ A' c', hs = [sgH sb A' r.length c' W H (oddQ W H n t 0 0)]) _ (fun h s => s) (fun R' hR' => FnR.of_sat fun w s => (by
      obtain ⟨b, hb, hat, hcap⟩ := runes_row (fun w s => (hR' w s).in_ 1 rfl) s.rest
      refine ((node_all hb hfl n).1 full t r hp ⟨[], rfl⟩ 0 0 (Int.le_refl _) hp2 (Int.le_refl _) hp2 R' (fun w s => s) sb A c false hat hcap).post ?_
      rintro v hs ⟨rfl, A', c', _, _, rfl⟩
      exact ⟨_, ⟨rfl, A', c', by rw [Bool.false_or]⟩, fun h s => s⟩)) ?_⟩
    rintro v hs ⟨rfl, A', c', rfl⟩
    conv => whnf
    refine ⟨trivial, LoadAt.cell (.slice A' r.length c') rfl rfl (fun w hw => (blk_sat (hw.in_ 0 rfl)).cell 0) ?_⟩
    conv => whnf
    refine iff_t (decide_eq_true (by omega)) ?_
    conv => whnf
    exact ⟨trivial, OpAt.panic 83 (.agg #[.int .i64 12]) rfl rfl rfl rfl (fun w s => s.rest) trivial⟩
theorem sReadF {R : HP} (hN : ∀ w, Sat R w → NumW w) {l : List UInt8} (hl : l.length ≤ 1048576) {W H : Int} {k1 k2 : Nat} (h1 : sideV l 0 = some (W, k1)) (hk1 : k1 ≤ l.length) (h2 : sideV l k1 = some (H, k2)) (hk2 : k2 ≤ l.length) (hWr : i64R W) (hHr : i64R H) (hs : sizeQ W H) {q : List UInt8} (hq : q = l.drop k2) {full : List Nat} (hful : full = runesL q) {n : Nat} (hn : n ≤ 10) (hS : Side (max W H) n) {t : QT} {r : List Nat} (hp : parseQ n full = some (t, r)) (hr : r.length = 0) (ho : oddQ W H n t 0 0 = true) : PanR Tryz.prog R 41 [.string (bs l)] [] (isFault 13) R := by
  have hsz : (bs l).size = l.length := bs_size l
  have hex : (bs l).extract (k2 : Int).toNat (((bs l).size : Int)).toNat = bs q := by
    rw [Int.toNat_natCast, Int.toNat_natCast, bs_extract, bs_size, List.take_length, hq]
  have hql : q.length ≤ 1048576 := by rw [hq, List.length_drop]; omega
  have hfl : full.length ≤ 1048576 := by rw [hful]; exact Nat.le_trans (runesL_len q) hql
  have hp2 : (0 : Int) + 2 ^ n ≤ 2048 := by
    have : ∀ n, n ≤ 10 → (0 : Int) + 2 ^ n ≤ 2048 := by decide
    exact this n hn
  refine pan_of_run0 _ _ false Tryz.func41 rfl hmix rfl fun w0 => ?_
  conv => whnf
  refine ⟨trivial, CallAt.pure (fun R' hR' => sSide (fun w s => hN w (hR' w s)) hl (Nat.zero_le _) h1) ?_⟩
  conv => whnf
  refine ⟨trivial, CallAt.pure (fun R' hR' => sSide (fun w s => hN w (hR' w s)) hl hk1 h2) ?_⟩
  conv => whnf
  refine ⟨trivial, CallAt.pure (fun R' hR' => sWi0 hWr hHr) ?_⟩
  conv => whnf
  rw [if_pos hs]
  repeat (first | (refine And.intro ?_ ?_; rotate_left; (focus (intro g; exfalso; first | (simp at g; done) | (simp at g; omega) | (revert g; decide))); intro _; conv => whnf) | (refine And.intro ?_ ?_; (focus (intro g; exfalso; first | (simp at g; done) | (simp at g; omega) | (revert g; decide))); intro _; conv => whnf))
  refine ⟨?_, OpAt.range (bs q) rfl (congrArg Value.string hex) rfl rfl fun ib => ?_⟩
  · repeat' apply And.intro
    all_goals first | exact True.intro | (unfold rng; omega) | (rw [hsz]; omega) | omega
  conv => whnf
  refine ⟨trivial, LoopAt.of (α := RdL) [3, 5, 7, 38] (fun _ => []) (fun a => [(0, 137, [.v (.slice a.A a.m a.c), .v (.int .i64 W), .v (.int .i64 H), .v (.bool false)])]) (fun a => [itH ib (bs q) a.pos, rowH (.slice a.A a.m a.c) a.m 21 1 (rns (full.take a.m))]) (fun a => a.pos ≤ q.length ∧ a.m ≤ full.length ∧ full.drop a.m = runesL (q.drop a.pos)) (fun a => q.length - a.pos) ⟨0, 0, none, 0⟩ ⟨Nat.zero_le _, Nat.zero_le _, by rw [List.drop_zero, List.drop_zero, hful]⟩
    (Le.of (Nat.le_of_ble_eq_true rfl) (Nat.zero_le _) ⟨⟨rfl, rfl⟩, ⟨rfl, rfl⟩, ⟨rfl, rfl⟩, ⟨rfl, rfl⟩, trivial⟩ ⟨⟨rfl, rfl, rfl, rfl⟩, trivial⟩ fun h s => sub_same (sepL_perm (List.Perm.swap _ _ _) (row_nil _ _ s))) ?_⟩
  rintro ⟨pos, m, A, c⟩ ⟨hpos, hm, hdr⟩
  simp only at hpos hm hdr
  dsimp only
  by_cases hend : pos < q.length
  · obtain ⟨a, r, har⟩ : ∃ a r, q.drop pos = a :: r := by
      cases hqd : q.drop pos with
      | nil => have := congrArg List.length hqd; rw [List.length_drop] at this; simp at this; omega
      | cons a r => exact ⟨a, r, rfl⟩
    have hde := decode_bs q pos
    rw [har] at hde hdr
    rw [runesL_cons] at hdr
    have hds := dec_size a r
    have hm2 : m < full.length := by
      have := congrArg List.length hdr
      rw [List.length_drop, List.length_cons] at this
      omega
    have hgm : full[m] = (dec (a :: r)).1 := by
      have := congrArg (fun z : List Nat => z[0]?) hdr
      simp only [List.getElem?_drop, Nat.add_zero, List.getElem?_cons_zero] at this
      rw [List.getElem?_eq_getElem hm2] at this
      exact Option.some.inj this
    have htk := rns_take hm2
    rw [hgm] at htk
    have hdr2 : full.drop (m + 1) = runesL (q.drop (pos + (dec (a :: r)).2)) := by
      have := congrArg (List.drop 1) hdr
      rw [List.drop_succ_cons, List.drop_zero] at this
      have e : q.drop (pos + (dec (a :: r)).2) = (a :: r).drop (dec (a :: r)).2 := by rw [← List.drop_drop, har]
      rw [List.drop_drop] at this
      rw [e]
      exact this
    have hpos2 : pos + (dec (a :: r)).2 ≤ q.length := by
      have := congrArg List.length har
      rw [List.length_drop] at this
      omega
    generalize dec (a :: r) = z at *
    conv => whnf
    refine ⟨trivial, OpAt.next ib (bs q) pos _ rfl (fun h s => s) rfl rfl (by rw [bs_size]; omega) ?_⟩
    rw [hde]
    conv => whnf
    repeat (first | (refine ⟨fun _ => ?_, fun h => absurd h (by decide)⟩; conv => whnf) | (refine ⟨fun h => absurd h (by decide), fun _ => ?_⟩; conv => whnf))
    refine ⟨trivial, OpAt.lit [.int .i32 (z.1 : Int)] 1 rfl rfl rfl rfl rfl (by decide) rfl rfl rfl (by simp [Value.cells]) rfl (by decide) fun g => ?_⟩
    conv => whnf
    refine ⟨trivial, OpAt.append (.slice A m c) m 1 4 (rns (full.take m)) [.int .i32 (z.1 : Int)] (some ⟨g, 0, none⟩) 1 1 _ rfl (fun h s => sepL_pull 2 s) rfl rfl rfl rfl rfl rfl rfl rfl rfl (by decide) (fun w hw => rowH_reads rfl (Sat.left hw)) (by simp [Value.oneCell']) (by simp only [maxLen]; omega) (by omega) fun A' c' => ?_⟩
    conv => whnf
    refine ⟨trivial, .mk ⟨pos + z.2, m + 1, A', c'⟩ ⟨hpos2, by simp only; omega, hdr2⟩ (by simp only; omega) (Le.of (Nat.le_of_ble_eq_true rfl) (Nat.zero_le _) ⟨⟨rfl, rfl⟩, ⟨rfl, rfl⟩, ⟨rfl, rfl⟩, ⟨rfl, rfl⟩, trivial⟩ ⟨⟨rfl, rfl, rfl, rfl⟩, trivial⟩ fun h s => ?_)⟩
    obtain ⟨h', e, s3⟩ := sub_drop1 s
    refine ⟨h', e, ?_⟩
    show sepL [itH ib (bs q) (pos + z.2), rowH (.slice A' (m + 1) c') (m + 1) 21 1 (rns (full.take (m + 1)))] R h'
    rw [htk]
    exact sepL_perm (List.Perm.swap _ _ _) s3
  · have hend : pos = q.length := by omega
    subst hend
    have hm2 : m = full.length := by
      have := congrArg List.length hdr
      rw [List.drop_length, List.length_drop] at this
      simp [runesL, runesF] at this
      omega
    subst hm2
    rw [List.take_length]
    conv => whnf
    refine ⟨trivial, OpAt.nextEnd ib (bs q) q.length _ rfl (fun h s => s) rfl rfl (by rw [bs_size]; omega) ?_⟩
    conv => whnf
    repeat (first | (refine ⟨fun _ => ?_, fun h => absurd h (by decide)⟩; conv => whnf) | (refine ⟨fun h => absurd h (by decide), fun _ => ?_⟩; conv => whnf))
    refine ⟨trivial, CallAt.pure (fun R' hR' => sQWhole (by omega) hS) ?_⟩
    conv => whnf
    intro sb _
    conv => whnf
    refine ⟨trivial, CallAt.fn (pre := [sgH sb A full.length c W H false]) (post := fun v hs => v = t.enc ∧ ∃ A' c', hs = [sgH sb A' r.length c' W H (oddQ W H n t 0 0)]) _ (fun h s => s) (fun R' hR' => FnR.of_sat fun w s => (by
      obtain ⟨b, hb, hat, hcap⟩ := runes_row (fun w s => (hR' w s).in_ 1 rfl) s.rest
      refine ((node_all hb hfl n).1 full t r hp ⟨[], rfl⟩ 0 0 (Int.le_refl _) hp2 (Int.le_refl _) hp2 R' (fun w s => s) sb A c false hat hcap).post ?_
      rintro v hs ⟨rfl, A', c', _, _, rfl⟩
      exact ⟨_, ⟨rfl, A', c', by rw [Bool.false_or]⟩, fun h s => s⟩)) ?_⟩
    rintro v hs ⟨rfl, A', c', rfl⟩
    conv => whnf
    refine ⟨trivial, LoadAt.cell (.slice A' r.length c') rfl rfl (fun w hw => (blk_sat (hw.in_ 0 rfl)).cell 0) ?_⟩
    conv => whnf
    refine iff_f (decide_eq_false (by omega)) ?_
    conv => whnf
    refine ⟨trivial, LoadAt.cell (.bool (oddQ W H n t 0 0)) rfl rfl (fun w hw => (blk_sat (hw.in_ 0 rfl)).cell 3) ?_⟩
    conv => whnf
    rw [ho]
    repeat (first | (refine ⟨fun _ => ?_, fun h => absurd h (by decide)⟩; conv => whnf) | (refine ⟨fun h => absurd h (by decide), fun _ => ?_⟩; conv => whnf))
    exact ⟨trivial, OpAt.panic 83 (.agg #[.int .i64 13]) rfl rfl rfl rfl (fun w s => s.rest) trivial⟩
theorem sReadG {R : HP} (hN : ∀ w, Sat R w → NumW w) {l : List UInt8} (hl : l.length ≤ 1048576) {W H : Int} {k1 k2 : Nat} (h1 : sideV l 0 = some (W, k1)) (hk1 : k1 ≤ l.length) (h2 : sideV l k1 = some (H, k2)) (hk2 : k2 ≤ l.length) (hWr : i64R W) (hHr : i64R H) (hs : sizeQ W H) {q : List UInt8} (hq : q = l.drop k2) {full : List Nat} (hful : full = runesL q) {n : Nat} (hn : n ≤ 10) (hS : Side (max W H) n) {t : QT} {r : List Nat} (hp : parseQ n full = some (t, r)) (hr : r.length = 0) (ho : oddQ W H n t 0 0 = false) : FnR Tryz.prog R 41 [.string (bs l)] [] fun v hs => ∃ qb, v = ptV qb ∧ hs = [quadH qb W H t] := by
  have hsz : (bs l).size = l.length := bs_size l
  have hex : (bs l).extract (k2 : Int).toNat (((bs l).size : Int)).toNat = bs q := by
    rw [Int.toNat_natCast, Int.toNat_natCast, bs_extract, bs_size, List.take_length, hq]
  have hql : q.length ≤ 1048576 := by rw [hq, List.length_drop]; omega
  have hfl : full.length ≤ 1048576 := by rw [hful]; exact Nat.le_trans (runesL_len q) hql
  have hp2 : (0 : Int) + 2 ^ n ≤ 2048 := by
    have : ∀ n, n ≤ 10 → (0 : Int) + 2 ^ n ≤ 2048 := by decide
    exact this n hn
  refine fn_of_run0 false Tryz.func41 rfl hmix rfl fun w0 => ?_
  conv => whnf
  refine ⟨trivial, CallAt.pure (fun R' hR' => sSide (fun w s => hN w (hR' w s)) hl (Nat.zero_le _) h1) ?_⟩
  conv => whnf
  refine ⟨trivial, CallAt.pure (fun R' hR' => sSide (fun w s => hN w (hR' w s)) hl hk1 h2) ?_⟩
  conv => whnf
  refine ⟨trivial, CallAt.pure (fun R' hR' => sWi0 hWr hHr) ?_⟩
  conv => whnf
  rw [if_pos hs]
  repeat (first | (refine And.intro ?_ ?_; rotate_left; (focus (intro g; exfalso; first | (simp at g; done) | (simp at g; omega) | (revert g; decide))); intro _; conv => whnf) | (refine And.intro ?_ ?_; (focus (intro g; exfalso; first | (simp at g; done) | (simp at g; omega) | (revert g; decide))); intro _; conv => whnf))
  refine ⟨?_, OpAt.range (bs q) rfl (congrArg Value.string hex) rfl rfl fun ib => ?_⟩
  · repeat' apply And.intro
    all_goals first | exact True.intro | (unfold rng; omega) | (rw [hsz]; omega) | omega
  conv => whnf
  refine ⟨trivial, LoopAt.of (α := RdL) [3, 5, 7, 38] (fun _ => []) (fun a => [(0, 137, [.v (.slice a.A a.m a.c), .v (.int .i64 W), .v (.int .i64 H), .v (.bool false)])]) (fun a => [itH ib (bs q) a.pos, rowH (.slice a.A a.m a.c) a.m 21 1 (rns (full.take a.m))]) (fun a => a.pos ≤ q.length ∧ a.m ≤ full.length ∧ full.drop a.m = runesL (q.drop a.pos)) (fun a => q.length - a.pos) ⟨0, 0, none, 0⟩ ⟨Nat.zero_le _, Nat.zero_le _, by rw [List.drop_zero, List.drop_zero, hful]⟩
    (Le.of (Nat.le_of_ble_eq_true rfl) (Nat.zero_le _) ⟨⟨rfl, rfl⟩, ⟨rfl, rfl⟩, ⟨rfl, rfl⟩, ⟨rfl, rfl⟩, trivial⟩ ⟨⟨rfl, rfl, rfl, rfl⟩, trivial⟩ fun h s => sub_same (sepL_perm (List.Perm.swap _ _ _) (row_nil _ _ s))) ?_⟩
  rintro ⟨pos, m, A, c⟩ ⟨hpos, hm, hdr⟩
  simp only at hpos hm hdr
  dsimp only
  by_cases hend : pos < q.length
  · obtain ⟨a, r, har⟩ : ∃ a r, q.drop pos = a :: r := by
      cases hqd : q.drop pos with
      | nil => have := congrArg List.length hqd; rw [List.length_drop] at this; simp at this; omega
      | cons a r => exact ⟨a, r, rfl⟩
    have hde := decode_bs q pos
    rw [har] at hde hdr
    rw [runesL_cons] at hdr
    have hds := dec_size a r
    have hm2 : m < full.length := by
      have := congrArg List.length hdr
      rw [List.length_drop, List.length_cons] at this
      omega
    have hgm : full[m] = (dec (a :: r)).1 := by
      have := congrArg (fun z : List Nat => z[0]?) hdr
      simp only [List.getElem?_drop, Nat.add_zero, List.getElem?_cons_zero] at this
      rw [List.getElem?_eq_getElem hm2] at this
      exact Option.some.inj this
    have htk := rns_take hm2
    rw [hgm] at htk
    have hdr2 : full.drop (m + 1) = runesL (q.drop (pos + (dec (a :: r)).2)) := by
      have := congrArg (List.drop 1) hdr
      rw [List.drop_succ_cons, List.drop_zero] at this
      have e : q.drop (pos + (dec (a :: r)).2) = (a :: r).drop (dec (a :: r)).2 := by rw [← List.drop_drop, har]
      rw [List.drop_drop] at this
      rw [e]
      exact this
    have hpos2 : pos + (dec (a :: r)).2 ≤ q.length := by
      have := congrArg List.length har
      rw [List.length_drop] at this
      omega
    generalize dec (a :: r) = z at *
    conv => whnf
    refine ⟨trivial, OpAt.next ib (bs q) pos _ rfl (fun h s => s) rfl rfl (by rw [bs_size]; omega) ?_⟩
    rw [hde]
    conv => whnf
    repeat (first | (refine ⟨fun _ => ?_, fun h => absurd h (by decide)⟩; conv => whnf) | (refine ⟨fun h => absurd h (by decide), fun _ => ?_⟩; conv => whnf))
    refine ⟨trivial, OpAt.lit [.int .i32 (z.1 : Int)] 1 rfl rfl rfl rfl rfl (by decide) rfl rfl rfl (by simp [Value.cells]) rfl (by decide) fun g => ?_⟩
    conv => whnf
    refine ⟨trivial, OpAt.append (.slice A m c) m 1 4 (rns (full.take m)) [.int .i32 (z.1 : Int)] (some ⟨g, 0, none⟩) 1 1 _ rfl (fun h s => sepL_pull 2 s) rfl rfl rfl rfl rfl rfl rfl rfl rfl (by decide) (fun w hw => rowH_reads rfl (Sat.left hw)) (by simp [Value.oneCell']) (by simp only [maxLen]; omega) (by omega) fun A' c' => ?_⟩
    conv => whnf
    refine ⟨trivial, .mk ⟨pos + z.2, m + 1, A', c'⟩ ⟨hpos2, by simp only; omega, hdr2⟩ (by simp only; omega) (Le.of (Nat.le_of_ble_eq_true rfl) (Nat.zero_le _) ⟨⟨rfl, rfl⟩, ⟨rfl, rfl⟩, ⟨rfl, rfl⟩, ⟨rfl, rfl⟩, trivial⟩ ⟨⟨rfl, rfl, rfl, rfl⟩, trivial⟩ fun h s => ?_)⟩
    obtain ⟨h', e, s3⟩ := sub_drop1 s
    refine ⟨h', e, ?_⟩
    show sepL [itH ib (bs q) (pos + z.2), rowH (.slice A' (m + 1) c') (m + 1) 21 1 (rns (full.take (m + 1)))] R h'
    rw [htk]
    exact sepL_perm (List.Perm.swap _ _ _) s3
  · have hend : pos = q.length := by omega
    subst hend
    have hm2 : m = full.length := by
      have := congrArg List.length hdr
      rw [List.drop_length, List.length_drop] at this
      simp [runesL, runesF] at this
      omega
    subst hm2
    rw [List.take_length]
    conv => whnf
    refine ⟨trivial, OpAt.nextEnd ib (bs q) q.length _ rfl (fun h s => s) rfl rfl (by rw [bs_size]; omega) ?_⟩
    conv => whnf
    repeat (first | (refine ⟨fun _ => ?_, fun h => absurd h (by decide)⟩; conv => whnf) | (refine ⟨fun h => absurd h (by decide), fun _ => ?_⟩; conv => whnf))
    refine ⟨trivial, CallAt.pure (fun R' hR' => sQWhole (by omega) hS) ?_⟩
    conv => whnf
    intro sb _
    conv => whnf
    refine ⟨trivial, CallAt.fn (pre := [sgH sb A full.length c W H false]) (post := fun v hs => v = t.enc ∧ ∃ A' c', hs = [sgH sb A' r.length c' W H (oddQ W H n t 0 0)]) _ (fun h s => s) (fun R' hR' => FnR.of_sat fun w s => (by
      obtain ⟨b, hb, hat, hcap⟩ := runes_row (fun w s => (hR' w s).in_ 1 rfl) s.rest
      refine ((node_all hb hfl n).1 full t r hp ⟨[], rfl⟩ 0 0 (Int.le_refl _) hp2 (Int.le_refl _) hp2 R' (fun w s => s) sb A c false hat hcap).post ?_
      rintro v hs ⟨rfl, A', c', _, _, rfl⟩
      exact ⟨_, ⟨rfl, A', c', by rw [Bool.false_or]⟩, fun h s => s⟩)) ?_⟩
    rintro v hs ⟨rfl, A', c', rfl⟩
    conv => whnf
    refine ⟨trivial, LoadAt.cell (.slice A' r.length c') rfl rfl (fun w hw => (blk_sat (hw.in_ 0 rfl)).cell 0) ?_⟩
    conv => whnf
    refine iff_f (decide_eq_false (by omega)) ?_
    conv => whnf
    refine ⟨trivial, LoadAt.cell (.bool (oddQ W H n t 0 0)) rfl rfl (fun w hw => (blk_sat (hw.in_ 0 rfl)).cell 3) ?_⟩
    conv => whnf
    rw [ho]
    repeat (first | (refine ⟨fun _ => ?_, fun h => absurd h (by decide)⟩; conv => whnf) | (refine ⟨fun h => absurd h (by decide), fun _ => ?_⟩; conv => whnf))
    intro qb _
    conv => whnf
    refine ⟨trivial, .mk _ (fun w ⟨h, h1, s⟩ => ?_) ⟨qb, rfl, rfl⟩⟩
    obtain ⟨h', e, s'⟩ := sub_head s
    exact ⟨h', h1.mono e, s'⟩
end Go.Proofs.YtojlgfkjnkjcmaaGreatDoor

/-
  quad.Read: what it returns, and what it makes of a fault.
-/
namespace Go.Proofs.YtojlgfkjnkjcmaaGreatDoor
open Go.RowKit
open Sy
set_option linter.unusedVariables false
set_option linter.unusedSimpArgs false
set_option maxRecDepth 100000
set_option maxHeartbeats 4000000

abbrev lqH (b : Nat) (v : Value) : HP := blkH b 31 #[v]
abbrev cqH (b : Nat) (v : Value) : HP := blkH b 32 #[v]
def anyQ (b : Nat) (t : TypeId) : HP := fun h => ∃ v, blkH b t #[v] h
/-- a deferred call whose first operations are recover, and the naming of what it hands back -/
theorem cls_of_run2 {P : Program} {R : HP} {f : FuncId} {fn : Func} {id d d2 : Nat} {orec oas : Oper} {rest : Code} {args : List Value} {pre : List HP} {mid : List HP → Prop} {u u' : FrameMode} {r : Value} (tr : Bool)
    (hf : P.funcs[f]? = some fn) (hb : fn.body = some (.seq (.region id #[orec, oas] false) rest)) (hm : P.follows .mixedOrders = true) (hN : Nat.ble args.length fn.ntmps = true) (hres : fn.results = #[])
    (ho : orec.op = .call { callee := .builtin .recover, args := #[], argTypes := #[] }) (hg : orec.guard = none) (hdst : orec.dst = some d) (hd : d < fn.ntmps) (ho2 : oas.op = .assign (.tmp d)) (hg2 : oas.guard = none) (hdst2 : oas.dst = some d2) (hu : RecAt u r u')
    (h : ∀ w0, putK (gl P R w0 fn.ntmps tr []) ⟨startT 0 (toSVs args), [], 0, pre, True⟩ (some d) (.v r) none fun st => putK (gl P R w0 fn.ntmps tr []) st (some d2) (.v r) none fun st => run (gl P R w0 fn.ntmps tr []) rest st (endK (gl P R w0 fn.ntmps tr []) mid) (fun _ _ => False) (endK (gl P R w0 fn.ntmps tr []) mid)) :
    ∀ w, Sat (sepL pre R) w → CallsD P f args.toArray u w fun e x w' => (∃ v, e = .returned v) ∧ x = u' ∧ ∃ hs, mid hs ∧ Sat (sepL hs R) w' ∧ Wd w w' := by
  intro w hs
  have hN := Nat.le_of_ble_eq_true hN
  refine callsD_of_wpS hf hb fun c₀ cs hc => ?_
  refine wpS_seq (wpS_region ?_)
  have hG : Sy.Good fun st => run (gl P R w fn.ntmps tr []) rest st (endK (gl P R w fn.ntmps tr []) mid) (fun _ _ => False) (endK (gl P R w fn.ntmps tr []) mid) := fun st h => (run_sound hm rest h good_end (fun _ _ h => h.elim) good_end).1
  have hG1 : Sy.Good fun st => putK (gl P R w fn.ntmps tr []) st (some d2) (.v r) none fun st => run (gl P R w fn.ntmps tr []) rest st (endK (gl P R w fn.ntmps tr []) mid) (fun _ _ => False) (endK (gl P R w fn.ntmps tr []) mid) := fun st h => (putK_sound h hG).1.1
  obtain ⟨_, hp⟩ := putK_sound (h w) hG1
  obtain ⟨st1, k1, m1, mm1⟩ := hp [] _ w r rfl (start_tm (N := fn.ntmps) hN rfl rfl rfl) (start_mem (G := gl P R w fn.ntmps tr []) rfl rfl hs)
  obtain ⟨_, hp2⟩ := putK_sound k1 hG
  obtain ⟨st', k, m', mm'⟩ := hp2 [] _ w r rfl m1 mm1
  have hr1 := run_sound (G := gl P R w fn.ntmps tr []) hm rest k good_end (fun _ _ h => h.elim) good_end
  have hres2 : ∀ (tmps : Array Value) (w' : World), (results fn tmps).run P w' = .ok (.tuple #[]) w' := fun tmps w' => results_run (vs := []) (by rw [hres]; rfl)
  have fin : ∀ cs' : List Frame, cs' = { c₀ with mode := u' } :: cs → ∀ (e : Exit), (e = .normal ∨ e = .ret) → ∀ st ρ a w', endK (gl P R w fn.ntmps tr []) mid st → Tm (gl P R w fn.ntmps tr []) st ρ a → Mem (gl P R w fn.ntmps tr []) st ρ w' →
      bodyPostS P fn c₀ cs (fun e x w' => (∃ v, e = .returned v) ∧ x = u' ∧ ∃ hs, mid hs ∧ Sat (sepL hs R) w' ∧ Wd w w') e a cs' w' := by
    rintro cs' rfl e he st ρ a w' k m mm
    obtain ⟨hs, k1, k2, _⟩ := endK_sound k m mm
    rcases he with rfl | rfl
    · exact ⟨m.defs, u', rfl, _, hres2 _ _, ⟨_, rfl⟩, rfl, hs, k1, k2, mm.wd⟩
    · exact ⟨m.defs, u', rfl, _, hres2 _ _, ⟨_, rfl⟩, rfl, hs, k1, k2, mm.wd⟩
  have go : ∀ cs' : List Frame, cs' = { c₀ with mode := u' } :: cs → rest.wpS P (bodyPostS P fn c₀ cs fun e x w' => (∃ v, e = .returned v) ∧ x = u' ∧ ∃ hs, mid hs ∧ Sat (sepL hs R) w' ∧ Wd w w') (Act.put (Act.put { tmps := args.toArray ++ Array.replicate (fn.ntmps - args.toArray.size) undef, defers := [] } (some d) r) (some d2) r) cs' w := by
    intro cs' hcs
    refine wpS_of_wp (hr1.2 [] _ w _ (fun e a w' hp => by obtain ⟨_, _, _, _, hf, _⟩ := hp; exact hf.elim) m' mm' (fin cs' hcs .normal (.inl rfl)) (fun _ _ _ _ _ h => h.elim) (fin cs' hcs .ret (.inr rfl)))
  have hrun : ∀ ev : Operand → Value, (execOp ev orec).run P w = .ok .recover w := fun ev => by
    simp [execOp, ho, resolve, invoke, builtin]
  have hev : ∀ a : Act, a.tmps.size = fn.ntmps → (execOp (Act.eval (Act.put a (some d) r)) oas).run P w = .ok (.value r) w := fun a ha => by
    simp [execOp, ho2, Act.eval, Act.put, Array.getD_eq_getD_getElem?, ha, hd]
  have hwt : ∀ y, Region.wanted orec y = true := fun y => wanted_none hg y
  have hwt2 : ∀ y, Region.wanted oas y = true := fun y => wanted_none hg2 y
  have hsz : (args.toArray ++ Array.replicate (fn.ntmps - args.toArray.size) undef).size = fn.ntmps := by simp; omega
  show wpOpsS P #[orec, oas] _ [0, 1] _ _ w
  have e0 : (#[orec, oas] : Array Oper)[0]? = some orec := rfl
  have e1 : (#[orec, oas] : Array Oper)[1]? = some oas := rfl
  simp only [wpOpsS, e0, e1, hwt, hwt2, if_true, hrun, hdst]
  rcases hu c₀ cs hc with e | ⟨e, rfl, rfl⟩
  · rw [e]
    simp only [hev ({ tmps := args.toArray ++ Array.replicate (fn.ntmps - args.toArray.size) undef, defers := [] } : Act) hsz, Oper.upon, hdst2]
    exact go _ rfl
  · rw [e]
    simp only [hev ({ tmps := args.toArray ++ Array.replicate (fn.ntmps - args.toArray.size) undef, defers := [] } : Act) hsz, Oper.upon, hdst2]
    refine go _ ?_
    rw [← hc]
theorem clsIdleQ {R : HP} {lb eb : Nat} {v u : Value} : ∀ w, Sat (sepL [lqH lb v, cqH eb u] R) w → CallsD Tryz.prog 40 [ptV lb, ptV eb].toArray .returning w fun e x w' => (∃ v, e = .returned v) ∧ x = .returning ∧ ∃ hs, hs = [lqH lb v, cqH eb u] ∧ Sat (sepL hs R) w' ∧ Wd w w' := by
  refine cls_of_run2 false Tryz.func40 rfl hmix rfl rfl rfl rfl rfl (Nat.le_of_ble_eq_true rfl) rfl rfl rfl rec_idle fun w0 => ?_
  conv => whnf
  refine ⟨trivial, OpAt.val (.tuple #[.agg #[.int .i64 0], .bool false]) rfl rfl (fun w _ => by kernel_rfl) ?_⟩
  conv => whnf
  repeat (first | (refine ⟨fun _ => ?_, fun h => absurd h (by decide)⟩; conv => whnf) | (refine ⟨fun h => absurd h (by decide), fun _ => ?_⟩; conv => whnf))
  exact ⟨trivial, ⟨_, fun w s => s, trivial, rfl⟩⟩
theorem clsPanQ {R : HP} {lb eb : Nat} {v u : Value} (e : Int) : ∀ w, Sat (sepL [lqH lb v, cqH eb u] R) w → CallsD Tryz.prog 40 [ptV lb, ptV eb].toArray (.panicking (faultCh e)) w fun e' x w' => (∃ v, e' = .returned v) ∧ x = .panicking [{ v := .iface 83 (.agg #[.int .i64 e]), recovered := true }] ∧ ∃ hs, hs = [lqH lb (.pointer none), cqH eb (.int .i64 e)] ∧ Sat (sepL hs R) w' ∧ Wd w w' := by
  refine cls_of_run2 false Tryz.func40 rfl hmix rfl rfl rfl rfl rfl (Nat.le_of_ble_eq_true rfl) rfl rfl rfl (rec_pan _) fun w0 => ?_
  conv => whnf
  refine iff_t rfl ?_
  conv => whnf
  refine ⟨trivial, RegAt.groups0 [([.T 0, .T 1, .H 2], 3), ([.H 3], 4)] hmix (by kernel_rfl) ?_⟩
  conv => whnf
  refine ⟨trivial, OpAt.store lb 0 (.pointer none) _ rfl (fun h s => s) rfl rfl rfl rfl rfl (by simp [Value.cells, Value.oneCell']) (fun h r => blk_put (by show 0 + 1 ≤ 1; omega) r) ?_⟩
  conv => whnf
  refine ⟨trivial, ⟨⟨rfl, rfl⟩, fun h s => sub_nil s⟩, ?_⟩
  conv => whnf
  refine ⟨trivial, OpAt.store eb 0 (.int .i64 e) _ rfl (fun h s => sepL_pull 1 s) rfl rfl rfl rfl rfl (by simp [Value.cells, Value.oneCell']) (fun h r => blk_put (by show 0 + 1 ≤ 1; omega) r) ?_⟩
  conv => whnf
  exact ⟨trivial, trivial, ⟨[lqH lb (.pointer none), cqH eb (.int .i64 e)], fun w ⟨h, h1, s⟩ => ⟨h, h1, sepL_pull 1 s⟩, trivial, rfl⟩⟩
theorem anyQ2 {R : HP} {lb eb : Nat} {v u : Value} {r : List HP} {w : World} (s : Sat (sepL (lqH lb v :: cqH eb u :: r) R) w) : Sat (sepL [anyQ lb 31, anyQ eb 32] R) w := by
  obtain ⟨h, h1, s⟩ := s
  obtain ⟨h', e, s'⟩ := sub_front (m := [lqH lb v, cqH eb u]) (r := r) s
  exact ⟨h', h1.mono e, sep_mono s' (fun _ a => ⟨v, a⟩) fun _ b => sep_mono b (fun _ a => ⟨u, a⟩) fun _ c => c⟩
theorem anyQ2_open {R : HP} {lb eb : Nat} {w : World} (s : Sat (sepL [anyQ lb 31, anyQ eb 32] R) w) : ∃ v u, Sat (sepL [lqH lb v, cqH eb u] R) w := by
  obtain ⟨h, hs, h1, h2, d, rfl, ⟨v, hv⟩, h3, h4, d', rfl, ⟨u, hu⟩, hr⟩ := s
  exact ⟨v, u, _, hs, h1, un h3 h4, d, rfl, hv, h3, h4, d', rfl, hu, hr⟩
theorem sQReadNo {R : HP} {l : List UInt8} {e : Int} (hp : ∀ R' : HP, (∀ w, Sat R' w → Sat R w) → PanR Tryz.prog R' 41 [.string (bs l)] [] (isFault e) R') : FnR Tryz.prog R 17 [.string (bs l)] [] fun r hs => r = .tuple #[.pointer none, .int .i64 e] ∧ hs = [] := by
  refine fn_of_defer false Tryz.func17 rfl hmix rfl (os1 := [_]) rfl rfl rfl rfl fun w0 => ?_
  conv => whnf
  intro lb _
  conv => whnf
  intro eb _
  conv => whnf
  refine ⟨trivial, DefAt.mk 40 [ptV lb, ptV eb] (isFault e) (sepL [anyQ lb 31, anyQ eb 32] R) [(2, ptV lb), (3, ptV eb)] (fun _ => False) rfl rfl ⟨fun _ h => h.elim, ?_⟩ ?_⟩
  · rintro ch rfl w a sat wd ax
    obtain ⟨v, u, sat⟩ := anyQ2_open sat
    refine leaves_one (by kernel_rfl) (fun e => by cases e) ?_
    refine CallsD.mono (clsPanQ (R := R) e w sat) ?_
    rintro e' u' w' ⟨hv, rfl, hs, rfl, s', wd'⟩
    refine ⟨hv, rfl, .tuple #[.pointer none, .int .i64 e], results_two rfl Tryz.underlying31 rfl Tryz.underlying32 rfl (ax (2, _) List.mem_cons_self) (ax (3, _) (List.mem_cons_of_mem _ List.mem_cons_self)) ((blk_sat (s'.in_ 0 rfl)).cell 0) ((blk_sat (s'.in_ 1 rfl)).cell 0), _, _, rfl, ⟨rfl, rfl⟩, ?_, wd.trans wd'⟩
    exact s'.rest
  conv => whnf
  exact ⟨trivial, CallAt.pan1 (fun R' hR' => hp R' fun w s => (hR' w s).rest) (fun ch h => h) (fun w ⟨h, h1, s⟩ => anyQ2 ⟨h, h1, sepL_pull 1 s⟩) ⟨rfl, rfl, trivial⟩⟩
theorem sQReadOk {R : HP} {l : List UInt8} {W H : Int} {t : QT} (hp : ∀ R' : HP, (∀ w, Sat R' w → Sat R w) → FnR Tryz.prog R' 41 [.string (bs l)] [] fun v hs => ∃ qb, v = ptV qb ∧ hs = [quadH qb W H t]) : FnR Tryz.prog R 17 [.string (bs l)] [] fun r hs => ∃ qb, r = .tuple #[ptV qb, .int .i64 0] ∧ hs = [quadH qb W H t] := by
  refine fn_of_defer false Tryz.func17 rfl hmix rfl (os1 := [_]) rfl rfl rfl rfl fun w0 => ?_
  conv => whnf
  intro lb _
  conv => whnf
  intro eb _
  conv => whnf
  refine ⟨trivial, DefAt.mk 40 [ptV lb, ptV eb] (fun _ => False) R [(2, ptV lb), (3, ptV eb)] (fun hs => ∃ qb, hs = [lqH lb (ptV qb), cqH eb (.int .i64 0), quadH qb W H t]) rfl rfl ⟨?_, fun _ h => h.elim⟩ ?_⟩
  · rintro hs ⟨qb, rfl⟩ w a sat wd ax
    refine leaves_one (by kernel_rfl) (fun e => by cases e) ?_
    refine CallsD.mono (clsIdleQ (R := sepL [quadH qb W H t] R) w sat) ?_
    rintro e u' w' ⟨hv, rfl, hs, rfl, s', wd'⟩
    refine ⟨hv, rfl, .tuple #[ptV qb, .int .i64 0], results_two rfl Tryz.underlying31 rfl Tryz.underlying32 rfl (ax (2, _) List.mem_cons_self) (ax (3, _) (List.mem_cons_of_mem _ List.mem_cons_self)) ((blk_sat (s'.in_ 0 rfl)).cell 0) ((blk_sat (s'.in_ 1 rfl)).cell 0), _, _, rfl, ⟨qb, rfl, rfl⟩, ?_, wd.trans wd'⟩
    exact s'.rest
  conv => whnf
  refine ⟨trivial, CallAt.fn (pre := []) _ (fun h s => s) (fun R' hR' => hp R' fun w s => (hR' w s).rest) ?_⟩
  rintro r hs ⟨qb, rfl, rfl⟩
  conv => whnf
  refine ⟨trivial, OpAt.store lb 0 (ptV qb) _ rfl (fun h s => sepL_pull 2 s) rfl rfl rfl rfl rfl (by simp [Value.cells, Value.oneCell']) (fun h r => blk_put (by show 0 + 1 ≤ 1; omega) r) ?_⟩
  conv => whnf
  refine ⟨trivial, OpAt.store eb 0 (.int .i64 0) _ rfl (fun h s => sepL_pull 2 s) rfl rfl rfl rfl rfl (by simp [Value.cells, Value.oneCell']) (fun h r => blk_put (by show 0 + 1 ≤ 1; omega) r) ?_⟩
  conv => whnf
  exact ⟨trivial, ⟨[lqH lb (ptV qb), cqH eb (.int .i64 0), quadH qb W H t], fun w ⟨h, h1, s⟩ => ⟨h, h1, sepL_perm (List.Perm.swap _ _ _) s⟩, ⟨rfl, rfl, trivial⟩, ⟨qb, rfl⟩⟩⟩
end Go.Proofs.YtojlgfkjnkjcmaaGreatDoor

