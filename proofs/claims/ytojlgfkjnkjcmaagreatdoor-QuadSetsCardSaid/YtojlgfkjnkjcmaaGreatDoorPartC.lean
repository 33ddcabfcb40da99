/-
  Texts of the proofs, one behind the other: Pieces, Slab, SlabAt, Repeat, Rough, FlatAgain.
-/
import Derived.Test.YtojlgfkjnkjcmaaGreatDoorPartA
import Derived.Laws.CopyOwn
/-
  rect.Pieces: a rectangle by tiles.
-/
namespace Go.Proofs.YtojlgfkjnkjcmaaGreatDoor
open Go.RowKit
set_option linter.unusedVariables false
set_option linter.unusedSimpArgs false

/-- a rectangle -/
structure Rc where
  x0 : Int
  y0 : Int
  x1 : Int
  y1 : Int
def encR (r : Rc) : List Value := [.int .i64 r.x0, .int .i64 r.y0, .int .i64 r.x1, .int .i64 r.y1]
theorem encR_len (r : Rc) : (encR r).length = 4 := rfl
theorem encR_plain (r : Rc) : ∀ u ∈ encR r, u.oneCell' = true := by intro u hu; simp [encR] at hu; rcases hu with rfl | rfl | rfl | rfl <;> rfl
theorem info_rect : (Tryz.prog.info? 107).map (fun i => (i.zero, i.size, i.bytes)) = some (some (rectV 0 0 0 0), 4, 32) := by kernel_rfl

/-- the piece of a rectangle in the tile i columns and j rows behind its first one -/
def pc (r : Rc) (i j : Nat) : Rc := ⟨max (r.x0 - r.x0 % 16 + 16 * (i : Int)) r.x0, max (r.y0 - r.y0 % 16 + 16 * (j : Int)) r.y0, min (r.x0 - r.x0 % 16 + 16 * (i : Int) + 16 - 1) r.x1, min (r.y0 - r.y0 % 16 + 16 * (j : Int) + 16 - 1) r.y1⟩
/-- how many columns, how many rows of tiles it meets -/
def pcX (r : Rc) : Nat := (r.x1 / 16 - r.x0 / 16 + 1).toNat
def pcY (r : Rc) : Nat := (r.y1 / 16 - r.y0 / 16 + 1).toNat
def pcRow (r : Rc) (i j : Nat) : List Rc := (List.range i).map fun a => pc r a j
def pcRows (r : Rc) (j : Nat) : List Rc := (List.range j).flatMap fun b => pcRow r (pcX r) b
/-- all its pieces -/
def pcs (r : Rc) : List Rc := pcRows r (pcY r)
theorem pcRow_succ (r : Rc) (i j : Nat) : pcRow r (i + 1) j = pcRow r i j ++ [pc r i j] := by simp [pcRow, List.range_succ]
theorem pcRows_succ (r : Rc) (j : Nat) : pcRows r (j + 1) = pcRows r j ++ pcRow r (pcX r) j := by simp [pcRows, List.range_succ]
theorem pcRow_len (r : Rc) (i j : Nat) : (pcRow r i j).length = i := by simp [pcRow]
theorem pcRows_len (r : Rc) (j : Nat) : (pcRows r j).length = j * pcX r := by
  induction j with
  | zero => simp [pcRows]
  | succ j ih => rw [pcRows_succ, List.length_append, ih, pcRow_len, Nat.succ_mul]

/-- it returns rectangles in memory of its own -/
def GivesR (w : World) (l : List Rc) (e : Ending) (w' : World) : Prop :=
  ∃ A c, e = .returned (.slice A l.length c) ∧ w'.ownsRow w.heap.size 107 4 (.slice A l.length c) l.length (flt encR l) ∧ Below w.heap.size w w'
def RectsAt (w wr : World) (v : Value) (l : List Rc) : Prop :=
  ∃ A c, v = .slice A l.length c ∧ wr.ownsRow w.heap.size 107 4 (.slice A l.length c) l.length (flt encR l)

set_option maxHeartbeats 2000000 in
set_option maxRecDepth 100000 in
theorem Pieces_ok (r : Rc) (w : World) (hr : rightB r.x0 r.y0 r.x1 r.y1 = true) : Calls Tryz.prog 51 #[rectV r.x0 r.y0 r.x1 r.y1] w (GivesR w (pcs r)) := by
  obtain ⟨i0, hi0, hz0, hz1, hz2⟩ := info_parts info_rect
  obtain ⟨x0, y0, x1, y1⟩ := r
  simp only at hr ⊢
  have hR := fun W => Right_any x0 y0 x1 y1 W
  rw [hr] at hR
  have HR := Lib.hid hR
  obtain ⟨h1, h2, h3, h4, h5, h6⟩ := (right_iff _ _ _ _).1 hr
  obtain ⟨nx, hnx⟩ : ∃ m, pcX ⟨x0, y0, x1, y1⟩ = m := ⟨_, rfl⟩
  obtain ⟨ny, hny⟩ : ∃ m, pcY ⟨x0, y0, x1, y1⟩ = m := ⟨_, rfl⟩
  have ex : (nx : Int) = x1 / 16 - x0 / 16 + 1 := by rw [← hnx]; unfold pcX; simp only; omega
  have ey : (ny : Int) = y1 / 16 - y0 / 16 + 1 := by rw [← hny]; unfold pcY; simp only; omega
  have HNX := Lib.hid hnx
  have HNY := Lib.hid hny
  have EX := Lib.hid ex
  have EY := Lib.hid ey
  have lx : nx ≤ 64 := by omega
  have ly : ny ≤ 64 := by omega
  have FX := Lib.hid (fun W => floor_any x0 W h1 (by omega))
  have FY := Lib.hid (fun W => floor_any y0 W h4 (by omega))
  clear hr hR hnx hny ex ey
  go_enter Tryz.func51, Tryz.ntmps51
  go_wp2_with fail
  refine (HR.out _).mono ?_
  rintro e w1 ⟨rfl, hb1⟩
  obtain ⟨c0, c1, c2, c3⟩ := (box4_new w (.int .i64 x0) (.int .i64 y0) (.int .i64 x1) (.int .i64 y1) 107).bel hb1 (by simp)
  have hz : w.heap.size < w1.heap.size := by have := hb1.size; simp at this; omega
  have HB : Below w.heap.size w w1 := (new_bel w _).trans (hb1.mono (by simp))
  clear hb1 HR
  go_wp2_with fail
  refine (FY.out _).mono ?_
  rintro e w2 ⟨rfl, rfl⟩
  go_wp2_with fail
  go_loopw [3, 4] (fun v t wr => ∃ (j : Nat), j ≤ ny ∧ t = .int .i64 (y0 - y0 % 16 + 16 * (j : Int)) ∧ RectsAt w1 wr v (pcRows ⟨x0, y0, x1, y1⟩ j) ∧ Below w1.heap.size w1 wr) (fun _ t _ => (2000 - intOf t).toNat)
  case atStart => exact ⟨0, by omega, by simp, ⟨none, 0, by simp [pcRows], by simpa [pcRows, flt] using World.ownsRow_nil _ _ _ _⟩, Below.refl _ _⟩
  case round =>
    obtain ⟨j, hj, rfl, ⟨A, c, rfl, hown⟩, hbr⟩ := hrel
    have q0 := bel_cell hbr _ _ (by simpa using hz) c0
    have q1 := bel_cell hbr _ _ (by simpa using hz) c1
    have q2 := bel_cell hbr _ _ (by simpa using hz) c2
    have q3 := bel_cell hbr _ _ (by simpa using hz) c3
    have hy := EY.out
    by_cases hlt : j < ny
    · have t1 : y0 - y0 % 16 + 16 * (j : Int) ≤ y1 := by omega
      clear hy
      go_wp2_with fail
      refine (FX.out _).mono ?_
      rintro e w2 ⟨rfl, rfl⟩
      go_wp2_with fail
      go_loopw [3, 5] (fun v t wr2 => ∃ (i : Nat), i ≤ nx ∧ t = .int .i64 (x0 - x0 % 16 + 16 * (i : Int)) ∧ RectsAt w1 wr2 v (pcRows ⟨x0, y0, x1, y1⟩ j ++ pcRow ⟨x0, y0, x1, y1⟩ i j) ∧ Below w1.heap.size w1 wr2) (fun _ t _ => (2000 - intOf t).toNat)
      case atStart => exact ⟨0, by omega, by simp, ⟨A, c, by simp [pcRow], by simpa [pcRow] using hown⟩, hbr⟩
      case round =>
        obtain ⟨i, hi, rfl, ⟨A2, c2', rfl, hown2⟩, hbr2⟩ := hrel
        have p0 := bel_cell hbr2 _ _ (by simpa using hz) c0
        have p1 := bel_cell hbr2 _ _ (by simpa using hz) c1
        have p2 := bel_cell hbr2 _ _ (by simpa using hz) c2
        have p3 := bel_cell hbr2 _ _ (by simpa using hz) c3
        have hzr := hbr2.size
        clear q0 q1 q2 q3 hown hbr
        have len4 : (pcRows ⟨x0, y0, x1, y1⟩ j ++ pcRow ⟨x0, y0, x1, y1⟩ i j).length ≤ 8192 := by
          rw [List.length_append, pcRows_len, pcRow_len, HNX.out]
          have := Nat.mul_le_mul (show j ≤ 64 by omega) lx
          omega
        obtain ⟨L, hL⟩ : ∃ L, pcRows ⟨x0, y0, x1, y1⟩ j ++ pcRow ⟨x0, y0, x1, y1⟩ i j = L := ⟨_, rfl⟩
        rw [hL] at len4 hown2 ⊢
        have HL := Lib.hid hL
        clear hL
        have hx := EX.out
        by_cases hlt2 : i < nx
        · have t2 : x0 - x0 % 16 + 16 * (i : Int) ≤ x1 := by omega
          have hfit : Reads ((wr.alloc (.cells #[.int .i64 (max (x0 - x0 % 16 + 16 * (i : Int)) x0), .int .i64 (max (y0 - y0 % 16 + 16 * (j : Int)) y0), .int .i64 (min (x0 - x0 % 16 + 16 * (i : Int) + 16 - 1) x1), .int .i64 (min (y0 - y0 % 16 + 16 * (j : Int) + 16 - 1) y1)] 107)).alloc (.cells #[.int .i64 (max (x0 - x0 % 16 + 16 * (i : Int)) x0), .int .i64 (max (y0 - y0 % 16 + 16 * (j : Int)) y0), .int .i64 (min (x0 - x0 % 16 + 16 * (i : Int) + 16 - 1) x1), .int .i64 (min (y0 - y0 % 16 + 16 * (j : Int) + 16 - 1) y1)] 107)) (wr.heap.size + 1 + 1) 4 (some ⟨wr.heap.size + 1, 0, none⟩) 1 (encR (pc ⟨x0, y0, x1, y1⟩ i j)) := by
            have := reads_new (wr.alloc (.cells #[.int .i64 (max (x0 - x0 % 16 + 16 * (i : Int)) x0), .int .i64 (max (y0 - y0 % 16 + 16 * (j : Int)) y0), .int .i64 (min (x0 - x0 % 16 + 16 * (i : Int) + 16 - 1) x1), .int .i64 (min (y0 - y0 % 16 + 16 * (j : Int) + 16 - 1) y1)] 107)) (encR (pc ⟨x0, y0, x1, y1⟩ i j)) 107 #[.int .i64 (max (x0 - x0 % 16 + 16 * (i : Int)) x0), .int .i64 (max (y0 - y0 % 16 + 16 * (j : Int)) y0), .int .i64 (min (x0 - x0 % 16 + 16 * (i : Int) + 16 - 1) x1), .int .i64 (min (y0 - y0 % 16 + 16 * (j : Int) + 16 - 1) y1)] 4 1 rfl rfl
            rw [show (wr.alloc (.cells #[.int .i64 (max (x0 - x0 % 16 + 16 * (i : Int)) x0), .int .i64 (max (y0 - y0 % 16 + 16 * (j : Int)) y0), .int .i64 (min (x0 - x0 % 16 + 16 * (i : Int) + 16 - 1) x1), .int .i64 (min (y0 - y0 % 16 + 16 * (j : Int) + 16 - 1) y1)] 107)).heap.size = wr.heap.size + 1 by simp] at this
            exact this
          have HF := Lib.hid hfit
          clear hx hfit
          go_wp2_with (at_builtin; refine wpList_append_appl _ rfl (.tmp 49) (.tmp 51) _ rfl w1.heap.size 107 i0 _ 4 32 Tryz.underlying78 hi0 hz0 hz1 hz2 rfl (by omega) (.slice A2 L.length c2') _ _ rfl (.inl ((hown2.alloc _).alloc _)) (wr.heap.size + 1 + 1) (some ⟨wr.heap.size + 1, 0, none⟩) 1 1 (encR (pc ⟨x0, y0, x1, y1⟩ i j)) rfl HF.out (encR_plain _) (.inl (by omega)) (by simp only [maxLen]; omega) (by omega) (by simp; omega) ?_; intro v1 w3 hown3 hB3 hg3 hat3)
          go_roundw
          case rel =>
            obtain ⟨A3, c3, rfl, _⟩ := own_shape' hown3
            have e2 : pcRows ⟨x0, y0, x1, y1⟩ j ++ pcRow ⟨x0, y0, x1, y1⟩ (i + 1) j = L ++ [pc ⟨x0, y0, x1, y1⟩ i j] := by rw [pcRow_succ, ← List.append_assoc, HL.out]
            refine ⟨i + 1, by omega, by go_num, ⟨A3, c3, ?_, ?_⟩, ((hbr2.alloc hbr2.size _).alloc (by simp; omega) _).trans hB3⟩
            · rw [e2]; simp
            · rw [e2, flt_append, flt_one]; simpa using hown3
          case measure =>
            simp only [intOf]
            omega
        · have t2 : decide (x0 - x0 % 16 + 16 * (i : Int) ≤ x1) = false := by simp; omega
          have e : i = nx := by omega
          subst e
          clear hx
          go_wp2_with fail
          go_roundw
          case rel =>
            have e2 : pcRows ⟨x0, y0, x1, y1⟩ (j + 1) = L := by rw [pcRows_succ, HNX.out, HL.out]
            refine ⟨j + 1, by omega, by go_num, ⟨A2, c2', ?_, ?_⟩, hbr2⟩
            · rw [e2]
            · rw [e2]; exact hown2
          case measure =>
            simp only [intOf]
            omega
    · have t1 : decide (y0 - y0 % 16 + 16 * (j : Int) ≤ y1) = false := by simp; omega
      have e : j = ny := by omega
      subst e
      clear hy
      go_wp2_with fail
      go_ret
      have e2 : pcs ⟨x0, y0, x1, y1⟩ = pcRows ⟨x0, y0, x1, y1⟩ j := by unfold pcs; rw [HNY.out]
      rw [e2]
      exact ⟨A, c, rfl, ownsRow_low hown HB.size, HB.trans (hbr.mono HB.size)⟩
end Go.Proofs.YtojlgfkjnkjcmaaGreatDoor

/-
  Slabs: what they are in memory; slab.may, tile.Right, slab.New, check, spot, At.
-/
namespace Go.Proofs.YtojlgfkjnkjcmaaGreatDoor
open Go.RowKit
set_option linter.unusedVariables false
set_option linter.unusedSimpArgs false

/-- a row of int32 -/
def rowA (n : Nat) (g : Nat → Int) : Array Value := ((List.range n).map fun k => Value.int .i32 (g k)).toArray
theorem rowA_get (n : Nat) (g : Nat → Int) (i : Nat) (h : i < n) : (rowA n g)[i]? = some (.int .i32 (g i)) := by simp [rowA, h]
theorem rowA_size (n : Nat) (g : Nat → Int) : (rowA n g).size = n := by simp [rowA]
theorem rowA_congr {n : Nat} {g h : Nat → Int} (e : ∀ k, k < n → g k = h k) : rowA n g = rowA n h := by
  unfold rowA
  congr 1
  exact List.map_congr_left fun k hk => by rw [e k (by simpa using hk)]
theorem rowA_set (n : Nat) (g : Nat → Int) (i : Nat) (v : Int) : (rowA n g).setIfInBounds i (.int .i32 v) = rowA n (fun k => if k = i then v else g k) := by
  apply Array.ext_getElem?
  intro k
  rw [Array.getElem?_setIfInBounds]
  by_cases hk : k < n
  · rw [rowA_get _ _ _ hk, rowA_get _ _ _ hk, rowA_size]
    by_cases c : i = k
    · subst c; simp [hk]
    · rw [if_neg c, if_neg (fun e => c e.symm)]
  · rw [Array.getElem?_eq_none (by rw [rowA_size]; omega), Array.getElem?_eq_none (by rw [rowA_size]; omega), rowA_size]
    split
    · rw [if_neg (by omega)]
    · rfl

/-- a value that a cell may have -/
def MayV (v : Int) : Prop := -2147483648 ≤ v ∧ v ≤ 2147483647
instance (v : Int) : Decidable (MayV v) := by unfold MayV; infer_instance

/-- what a slab's cells are: one value, or a row of the block q -/
def Land (w : World) (n : Nat) (f : Nat → Int) : Option Nat → Value → Prop
  | none, v => ∃ z, v = .iface 149 (.int .i32 z) ∧ ∀ k, k < n → f k = z
  | some q, v => v = .iface 162 (.slice (some ⟨q, 0, none⟩) n n) ∧ Blk w q 21 (rowA n f)
/-- block b is a slab of sw columns and sh rows, whose cells are f, row by row -/
structure SlabIs (w : World) (b sw sh : Nat) (f : Nat → Int) (q : Option Nat) : Prop where
  w1 : 1 ≤ sw
  w2 : sw ≤ 16
  h1 : 1 ≤ sh
  h2 : sh ≤ 16
  may : ∀ k, k < sw * sh → MayV (f k)
  body : ∃ v, Blk w b 153 #[.int .i64 sw, .int .i64 sh, v] ∧ Land w (sw * sh) f q v

theorem may_any (v : Int) (w : World) : Calls Tryz.prog 79 #[.int .i64 v] w fun e w' => e = .returned (.bool (decide (MayV v))) ∧ w = w' := by
  rcases (show v < -2147483648 ∨ (-2147483648 ≤ v ∧ v ≤ 2147483647) ∨ (-2147483648 ≤ v ∧ 2147483647 < v) from by omega) with h | ⟨h1, h2⟩ | ⟨h1, h2⟩
  · have e : decide (MayV v) = false := decide_eq_false (by unfold MayV; omega)
    have t : decide (-2147483648 ≤ v) = false := decide_eq_false (by omega)
    rw [e]
    clear e
    go_enter Tryz.func79, Tryz.ntmps79
    go_wp2_with fail
    go_ret
    exact ⟨rfl, rfl⟩
  · have e : decide (MayV v) = true := decide_eq_true (by unfold MayV; omega)
    rw [e]
    clear e
    go_enter Tryz.func79, Tryz.ntmps79
    go_wp2_with fail
    go_ret
    exact ⟨rfl, rfl⟩
  · have e : decide (MayV v) = false := decide_eq_false (by unfold MayV; omega)
    have t : decide (v ≤ 2147483647) = false := decide_eq_false (by omega)
    rw [e]
    clear e
    go_enter Tryz.func79, Tryz.ntmps79
    go_wp2_with fail
    go_ret
    exact ⟨rfl, rfl⟩

theorem tRight_yes (a b : Int) (w : World) (h1 : 1 ≤ a) (h2 : a ≤ 16) (h3 : 1 ≤ b) (h4 : b ≤ 16) : Calls Tryz.prog 78 #[.int .i64 a, .int .i64 b] w fun e w' => e = .returned (.bool true) ∧ w = w' := by
  go_enter Tryz.func78, Tryz.ntmps78
  go_wp2_with fail
  go_ret
  exact ⟨rfl, rfl⟩

/-- it gives a new slab -/
def GivesSlab (w : World) (sw sh : Nat) (f : Nat → Int) (e : Ending) (w' : World) : Prop :=
  ∃ b, e = .returned (.tuple #[.pointer (some ⟨b, 0, none⟩), .int .i64 0]) ∧ w.heap.size ≤ b ∧ SlabIs w' b sw sh f none ∧ Below w.heap.size w w'

theorem i32_wrap (v : Int) (h : MayV v) : IntKind.i32.wrap v = v := by unfold MayV at h; rw [IntKind.wrap_i32]; omega

set_option maxHeartbeats 1000000 in
theorem sNew_ok (sw sh : Nat) (v : Int) (w : World) (h1 : 1 ≤ sw) (h2 : sw ≤ 16) (h3 : 1 ≤ sh) (h4 : sh ≤ 16) (hv : MayV v) :
    Calls Tryz.prog 52 #[.int .i64 sw, .int .i64 sh, .int .i64 v] w (GivesSlab w sw sh (fun _ => v)) := by
  have g1 : (1 : Int) ≤ sw := by omega
  have g2 : (sw : Int) ≤ 16 := by omega
  have g3 : (1 : Int) ≤ sh := by omega
  have g4 : (sh : Int) ≤ 16 := by omega
  have hm := fun W => may_any v W
  rw [show decide (MayV v) = true by simpa using hv] at hm
  have HM := Lib.hid hm
  have W1 := i32_wrap v hv
  clear hm
  go_enter Tryz.func52, Tryz.ntmps52
  go_wp2_with fail
  refine (tRight_yes _ _ _ g1 g2 g3 g4).mono ?_
  rintro e w1 ⟨rfl, rfl⟩
  go_wp2_with fail
  refine (HM.out _).mono ?_
  rintro e w1 ⟨rfl, rfl⟩
  go_wp2_with fail
  go_ret2
  exact ⟨w.heap.size, rfl, Nat.le_refl _, ⟨h1, h2, h3, h4, fun _ _ => hv, _, Blk.new w _ _, v, rfl, fun _ _ => rfl⟩, new_bel w _⟩

theorem sspot_any (x y : Int) (w : World) : Calls Tryz.prog 82 #[cellV x y] w (Ret (rectV x y x y) w) := by
  go_enter Tryz.func82, Tryz.ntmps82
  go_wp2_with fail
  exact bodyPost_ret (v := rectV x y x y) (by simp [results, Tryz.results82, go_sem]) rfl ⟨rfl, ((Below.refl _ _).alloc (Nat.le_refl _) _).alloc (by simp) _⟩

set_option maxHeartbeats 1000000 in
theorem scheck_any (b sw sh : Nat) (v : Value) (x0 y0 x1 y1 : Int) (w : World) (hb : Blk w b 153 #[.int .i64 sw, .int .i64 sh, v]) (h2 : sw ≤ 16) (h4 : sh ≤ 16) :
    Calls Tryz.prog 81 #[.pointer (some ⟨b, 0, none⟩), rectV x0 y0 x1 y1] w (Ret (.int .i64 (withinZ x0 y0 x1 y1 sw sh)) w) := by
  have hlt := hb.lt
  have C := (box4_new w (.int .i64 x0) (.int .i64 y0) (.int .i64 x1) (.int .i64 y1) 107)
  have D : Box3 (w.alloc (.cells #[.int .i64 x0, .int .i64 y0, .int .i64 x1, .int .i64 y1] 107)) b (.int .i64 sw) (.int .i64 sh) v := by
    have := hb.alloc (.cells #[.int .i64 x0, .int .i64 y0, .int .i64 x1, .int .i64 y1] 107)
    exact ⟨this.cell 0, this.cell 1, this.cell 2⟩
  have hw := fun W => Within_any x0 y0 x1 y1 sw sh W (by omega) (by omega) (by omega) (by omega)
  have HW := Lib.hid hw
  clear hw hb
  go_enter Tryz.func81, Tryz.ntmps81
  go_wp2_with fail
  have HX := Below.refl (w.alloc (.cells #[.int .i64 x0, .int .i64 y0, .int .i64 x1, .int .i64 y1] 107)).heap.size (w.alloc (.cells #[.int .i64 x0, .int .i64 y0, .int .i64 x1, .int .i64 y1] 107))
  go_region_held3 (fun W => (W.cell? ⟨w.heap.size, 0, none⟩ = some (.int .i64 x0) ∧ W.cell? ⟨w.heap.size, 1, none⟩ = some (.int .i64 y0) ∧ W.cell? ⟨w.heap.size, 2, none⟩ = some (.int .i64 x1) ∧ W.cell? ⟨w.heap.size, 3, none⟩ = some (.int .i64 y1)) ∧ W.cell? ⟨b, 0, none⟩ = some (.int .i64 sw) ∧ W.cell? ⟨b, 1, none⟩ = some (.int .i64 sh) ∧ W.cell? ⟨b, 2, none⟩ = some v)
    (first | exact ⟨C, D⟩ | exact ⟨C.bel HX (by simp), D.bel HX (by simp; omega)⟩)
    ((go_at_call 50; refine (HW.out _).mono ?_; rintro e w2 ⟨rfl, hb2⟩; replace HX := bel_trans_drew HX hb2 (Nat.le_refl _)))
  go_wp2_with fail
  go_ret
  exact ⟨rfl, (new_bel w _).trans (HX.mono (by simp))⟩
end Go.Proofs.YtojlgfkjnkjcmaaGreatDoor

/-
  slab.At: a cell's value.
-/
namespace Go.Proofs.YtojlgfkjnkjcmaaGreatDoor
open Go.RowKit
set_option linter.unusedVariables false
set_option linter.unusedSimpArgs false

theorem i64_may (v : Int) (h : MayV v) : IntKind.i64.wrap v = v := by unfold MayV at h; exact IntWalk.i64_in _ (by omega)

theorem flat_at (z i : Int) (w : World) (h : MayV z) : Calls Tryz.prog 150 #[.int .i32 z, .int .i64 i] w fun e w' => e = .returned (.int .i64 z) ∧ w = w' := by
  have W1 := i64_may z h
  go_enter Tryz.func150, Tryz.ntmps150
  go_wp2_with fail
  go_ret
  exact ⟨rfl, rfl⟩

theorem rough_at (q n : Nat) (f : Nat → Int) (i : Nat) (w : World) (hb : Blk w q 21 (rowA n f)) (hi : i < n) (h : MayV (f i)) :
    Calls Tryz.prog 151 #[.slice (some ⟨q, 0, none⟩) n n, .int .i64 i] w fun e w' => e = .returned (.int .i64 (f i)) ∧ w = w' := by
  have W1 := i64_may (f i) h
  have hc : w.cell? ⟨q, i, none⟩ = some (.int .i32 (f i)) := (hb.cell i).trans (rowA_get n f i hi)
  clear hb
  go_enter Tryz.func151, Tryz.ntmps151
  go_wp2_with fail
  go_ret
  exact ⟨rfl, rfl⟩

set_option maxHeartbeats 2000000 in
set_option maxRecDepth 100000 in
theorem sAt_flat (b sw sh x y m : Nat) (v : Value) (z : Int) (w : World) (hb : Blk w b 153 #[.int .i64 sw, .int .i64 sh, v]) (h2 : sw ≤ 16) (h4 : sh ≤ 16) (hx : x < sw) (hy : y < sh) (hm : y * sw + x = m)
    (zz : Int) (hv : v = .iface 149 (.int .i32 zz))
    (HC : Hid (∀ W, Below w.heap.size w W → Calls Tryz.prog 150 #[.int .i32 zz, .int .i64 m] W fun e w' => e = .returned (.int .i64 z) ∧ W = w')) :
    Calls Tryz.prog 58 #[.pointer (some ⟨b, 0, none⟩), cellV x y] w (Ret (.tuple #[.int .i64 z, .int .i64 0]) w) := by
  subst hv
  have hs := fun W hbW => scheck_any b sw sh (.iface 149 (.int .i32 zz)) x y x y W hbW h2 h4
  rw [show withinZ x y x y sw sh = 0 from within_of ⟨by omega, by omega, by omega, by omega⟩ (by omega) (by omega) (by omega) (by omega) (by omega) (by omega)] at hs
  have HS := Lib.hid hs
  have hlt := hb.lt
  have HBK := Lib.hid hb
  have HM := Lib.hid hm
  clear hs hm hb
  have hmeth : ∀ (W : World), (method 328 149 (.int .i32 zz) "hachure/slab.at").run Tryz.prog W = .ok (150, .int .i32 zz) W := fun _ => by kernel_rfl
  go_enter Tryz.func58, Tryz.ntmps58
  go_wp2_with fail
  refine (sspot_any x y _).mono ?_
  rintro e w1 ⟨rfl, hb1⟩
  go_wp2_with fail
  refine (HS.out _ ((HBK.out.alloc _).kept hb1)).mono ?_
  rintro e w2 ⟨rfl, hb2⟩
  have HB2 : Below (w.heap.size + 1) (w.alloc (.cells #[.int .i64 x, .int .i64 y] 52)) w2 := by
    have := bel_trans hb1 hb2 (Nat.le_refl _)
    simpa using this
  have C := (box2_new w (.int .i64 x) (.int .i64 y) 52).bel HB2 (by omega)
  have D : Box3 w2 b (.int .i64 sw) (.int .i64 sh) (.iface 149 (.int .i32 zz)) := by
    have := (HBK.out.alloc (.cells #[.int .i64 x, .int .i64 y] 52)).below HB2 (by omega)
    exact ⟨this.cell 0, this.cell 1, this.cell 2⟩
  have HB : Below w.heap.size w w2 := (new_bel w _).trans (HB2.mono (by omega))
  clear hb1 hb2 HS HB2
  go_wp2_with fail
  have n1 : y * sw ≤ 256 := by have := Nat.mul_le_mul (show y ≤ 16 by omega) h2; omega
  have W1 : IntKind.i64.wrap ((y : Int) * (sw : Int)) = (y : Int) * (sw : Int) := IntWalk.i64_in _ (by rw [show (y : Int) * (sw : Int) = ((y * sw : Nat) : Int) by simp]; omega)
  have W2 : IntKind.i64.wrap ((y : Int) * (sw : Int) + (x : Int)) = (m : Int) := by
    rw [← HM.out, show (y : Int) * (sw : Int) + (x : Int) = ((y * sw + x : Nat) : Int) by simp]
    exact IntWalk.i64_in _ (by omega)
  go_region_held3 (fun W => (W.cell? ⟨w.heap.size, 0, none⟩ = some (.int .i64 x) ∧ W.cell? ⟨w.heap.size, 1, none⟩ = some (.int .i64 y)) ∧ W.cell? ⟨b, 0, none⟩ = some (.int .i64 sw) ∧ W.cell? ⟨b, 1, none⟩ = some (.int .i64 sh) ∧ W.cell? ⟨b, 2, none⟩ = some (.iface 149 (.int .i32 zz)))
    (first | exact ⟨C, D⟩)
    ((go_at_call 150; refine (HC.out _ ?_).mono ?_; exact HB.drew; rintro e w3 ⟨rfl, rfl⟩))
  go_wp2_with fail
  go_ret2
  exact ⟨rfl, HB.drew⟩
set_option maxHeartbeats 2000000 in
set_option maxRecDepth 100000 in
theorem sAt_rough (b sw sh x y m : Nat) (v : Value) (z : Int) (w : World) (hb : Blk w b 153 #[.int .i64 sw, .int .i64 sh, v]) (h2 : sw ≤ 16) (h4 : sh ≤ 16) (hx : x < sw) (hy : y < sh) (hm : y * sw + x = m)
    (A : Option Addr) (n c : Nat) (hv : v = .iface 162 (.slice A n c))
    (HC : Hid (∀ W, Below w.heap.size w W → Calls Tryz.prog 151 #[.slice A n c, .int .i64 m] W fun e w' => e = .returned (.int .i64 z) ∧ W = w')) :
    Calls Tryz.prog 58 #[.pointer (some ⟨b, 0, none⟩), cellV x y] w (Ret (.tuple #[.int .i64 z, .int .i64 0]) w) := by
  subst hv
  have hs := fun W hbW => scheck_any b sw sh (.iface 162 (.slice A n c)) x y x y W hbW h2 h4
  rw [show withinZ x y x y sw sh = 0 from within_of ⟨by omega, by omega, by omega, by omega⟩ (by omega) (by omega) (by omega) (by omega) (by omega) (by omega)] at hs
  have HS := Lib.hid hs
  have hlt := hb.lt
  have HBK := Lib.hid hb
  have HM := Lib.hid hm
  clear hs hm hb
  have hmeth : ∀ (W : World), (method 328 162 (.slice A n c) "hachure/slab.at").run Tryz.prog W = .ok (151, .slice A n c) W := fun _ => by kernel_rfl
  go_enter Tryz.func58, Tryz.ntmps58
  go_wp2_with fail
  refine (sspot_any x y _).mono ?_
  rintro e w1 ⟨rfl, hb1⟩
  go_wp2_with fail
  refine (HS.out _ ((HBK.out.alloc _).kept hb1)).mono ?_
  rintro e w2 ⟨rfl, hb2⟩
  have HB2 : Below (w.heap.size + 1) (w.alloc (.cells #[.int .i64 x, .int .i64 y] 52)) w2 := by
    have := bel_trans hb1 hb2 (Nat.le_refl _)
    simpa using this
  have C := (box2_new w (.int .i64 x) (.int .i64 y) 52).bel HB2 (by omega)
  have D : Box3 w2 b (.int .i64 sw) (.int .i64 sh) (.iface 162 (.slice A n c)) := by
    have := (HBK.out.alloc (.cells #[.int .i64 x, .int .i64 y] 52)).below HB2 (by omega)
    exact ⟨this.cell 0, this.cell 1, this.cell 2⟩
  have HB : Below w.heap.size w w2 := (new_bel w _).trans (HB2.mono (by omega))
  clear hb1 hb2 HS HB2
  go_wp2_with fail
  have n1 : y * sw ≤ 256 := by have := Nat.mul_le_mul (show y ≤ 16 by omega) h2; omega
  have W1 : IntKind.i64.wrap ((y : Int) * (sw : Int)) = (y : Int) * (sw : Int) := IntWalk.i64_in _ (by rw [show (y : Int) * (sw : Int) = ((y * sw : Nat) : Int) by simp]; omega)
  have W2 : IntKind.i64.wrap ((y : Int) * (sw : Int) + (x : Int)) = (m : Int) := by
    rw [← HM.out, show (y : Int) * (sw : Int) + (x : Int) = ((y * sw + x : Nat) : Int) by simp]
    exact IntWalk.i64_in _ (by omega)
  go_region_held3 (fun W => (W.cell? ⟨w.heap.size, 0, none⟩ = some (.int .i64 x) ∧ W.cell? ⟨w.heap.size, 1, none⟩ = some (.int .i64 y)) ∧ W.cell? ⟨b, 0, none⟩ = some (.int .i64 sw) ∧ W.cell? ⟨b, 1, none⟩ = some (.int .i64 sh) ∧ W.cell? ⟨b, 2, none⟩ = some (.iface 162 (.slice A n c)))
    (first | exact ⟨C, D⟩)
    ((go_at_call 151; refine (HC.out _ ?_).mono ?_; exact HB.drew; rintro e w3 ⟨rfl, rfl⟩))
  go_wp2_with fail
  go_ret2
  exact ⟨rfl, HB.drew⟩

theorem cell_lt {sw sh x y : Nat} (hx : x < sw) (hy : y < sh) : y * sw + x < sw * sh := by
  have : (y + 1) * sw ≤ sh * sw := Nat.mul_le_mul_right _ hy
  rw [Nat.succ_mul] at this
  rw [Nat.mul_comm sw sh]
  omega
theorem sAt_ok {b sw sh : Nat} {f : Nat → Int} {q : Option Nat} {w : World} (hS : SlabIs w b sw sh f q) (x y : Nat) (hx : x < sw) (hy : y < sh) :
    Calls Tryz.prog 58 #[.pointer (some ⟨b, 0, none⟩), cellV x y] w (Ret (.tuple #[.int .i64 (f (y * sw + x)), .int .i64 0]) w) := by
  obtain ⟨v, hb, hl⟩ := hS.body
  have hlt := cell_lt hx hy
  have hmay := hS.may _ hlt
  rcases q with _ | q
  · obtain ⟨z, hv, hf⟩ := hl
    have e := hf _ hlt
    rw [e] at hmay ⊢
    exact sAt_flat b sw sh x y _ v z w hb hS.w2 hS.h2 hx hy rfl z hv (Lib.hid fun W _ => flat_at z _ W hmay)
  · obtain ⟨hv, hq⟩ := hl
    exact sAt_rough b sw sh x y _ v _ w hb hS.w2 hS.h2 hx hy rfl _ _ _ hv (Lib.hid fun W hW => rough_at q _ f _ W (hq.kept hW) hlt hmay)
end Go.Proofs.YtojlgfkjnkjcmaaGreatDoor

/-
  slices.Repeat of a row of int32 with one element.
-/
namespace Go.Proofs.YtojlgfkjnkjcmaaGreatDoor
open Go.RowKit
set_option linter.unusedVariables false
set_option linter.unusedSimpArgs false

theorem info_i32 : (Tryz.prog.info? 21).map (fun i => (i.zero, i.size, i.bytes)) = some (some (.int .i32 0), 1, 4) := by kernel_rfl
theorem size_i32 : (Tryz.prog.info? 21).map (·.size) = some 1 := by kernel_rfl
/-- the first m are v -/
def rep (n m : Nat) (v : Int) : List Value := (List.range n).map fun k => Value.int .i32 (if k < m then v else 0)
theorem rep_len (n m : Nat) (v : Int) : (rep n m v).length = n := by simp [rep]
theorem rep_at (n m : Nat) (v : Int) (k : Nat) (h : k < n) : (rep n m v)[k]? = some (.int .i32 (if k < m then v else 0)) := by simp [rep, h]
theorem rep_splice (n m c : Nat) (v : Int) (h : m + c ≤ n) : splice (rep n m v) m (List.replicate c (.int .i32 v)) = rep n (m + c) v := by
  apply List.ext_getElem?
  intro k
  unfold splice
  rcases Nat.lt_or_ge k m with h1 | h1
  · rw [List.getElem?_append_left (by simp [rep_len]; omega), List.getElem?_take, if_pos h1, rep_at _ _ _ _ (by omega), rep_at _ _ _ _ (by omega), if_pos h1, if_pos (by omega)]
  · rw [List.getElem?_append_right (by simp; omega), List.length_take, rep_len, Nat.min_eq_left (by omega)]
    rcases Nat.lt_or_ge k (m + c) with h2 | h2
    · rw [List.getElem?_append_left (by simp; omega), List.getElem?_replicate, if_pos (by omega), rep_at _ _ _ _ (by omega), if_pos h2]
    · rw [List.getElem?_append_right (by simp; omega), List.getElem?_drop, List.length_replicate, show m + c + (k - m - c) = k by omega]
      rcases Nat.lt_or_ge k n with h3 | h3
      · rw [rep_at _ _ _ _ h3, rep_at _ _ _ _ h3, if_neg (by omega), if_neg (by omega)]
      · rw [List.getElem?_eq_none (by rw [rep_len]; exact h3), List.getElem?_eq_none (by rw [rep_len]; exact h3)]
theorem rep_zero (n : Nat) (v : Int) : List.replicate n (Value.int .i32 0) = rep n 0 v := by
  apply List.ext_getElem?
  intro k
  rcases Nat.lt_or_ge k n with h | h
  · rw [rep_at _ _ _ _ h, List.getElem?_replicate, if_pos h, if_neg (by omega)]
  · rw [List.getElem?_eq_none (by simpa using h), List.getElem?_eq_none (by rw [rep_len]; exact h)]
theorem rep_all (n : Nat) (v : Int) : (rep n n v).toArray = rowA n (fun _ => v) := by
  unfold rep rowA
  congr 1
  exact List.map_congr_left fun k hk => by rw [if_pos (by simpa using hk)]

/-- it gives a new row -/
def GivesRow (w : World) (n : Nat) (f : Nat → Int) (e : Ending) (w' : World) : Prop :=
  ∃ g, e = .returned (.slice (some ⟨g, 0, none⟩) n n) ∧ w.heap.size ≤ g ∧ Blk w' g 21 (rowA n f) ∧ Below w.heap.size w w'

theorem made_rep (n : Nat) (v : Int) : madeCells (Value.cells (.int .i32 0)) (n * 1) = (rep n 0 v).toArray := by
  rw [← rep_zero, Nat.mul_one]
  apply Array.ext_getElem?
  intro k
  simp [madeCells, Value.cells]
  rcases Nat.lt_or_ge k n with h | h
  · simp [h, Nat.mod_one]
  · simp [Nat.not_lt.2 h]

theorem one_src {w : World} {p : Addr} {x : Value} (h : w.cell? p = some x) : ∀ j u, [x][j]? = some u → w.cell? (p.add j) = some u := by
  intro j u hj
  rcases j with _ | j
  · simp at hj; subst hj; simpa [Addr.add] using h
  · simp at hj

theorem rep_src {w : World} {g n m k : Nat} {v : Int} {t : TypeId} (h : Blk w g t (rep n m v).toArray) (hk : k ≤ m) (hm : m ≤ n) : ∀ j u, (List.replicate k (Value.int .i32 v))[j]? = some u → w.cell? ((⟨g, 0, none⟩ : Addr).add j) = some u := by
  intro j u hj
  rw [List.getElem?_replicate] at hj
  split at hj
  · rw [add_plain, Nat.zero_add, h.cell j]
    rw [← hj]
    have := rep_at n m v j (by omega)
    rw [if_pos (by omega)] at this
    simpa using this
  · cases hj

set_option maxHeartbeats 2000000 in
set_option maxRecDepth 100000 in
theorem Repeat_ok (p c n : Nat) (v : Int) (w : World) (hp : w.cell? ⟨p, 0, none⟩ = some (.int .i32 v)) (h1 : 1 ≤ n) (h2 : n ≤ 256) :
    Calls Tryz.prog 100 #[.slice (some ⟨p, 0, none⟩) 1 c, .int .i64 n] w (GivesRow w n (fun _ => v)) := by
  obtain ⟨i0, hi0, hz0, hz1, hz2⟩ := info_parts info_i32
  have hlt := World.block_lt_of_cell? w _ hp
  have hmk := run_make (P := Tryz.prog) w 162 21 i0 (.int .i32 0) Tryz.underlying162 hi0 hz0 .i64 .i64 n n (by omega) (Int.le_refl _) (by rw [hz2]; omega) (by omega)
  rw [hz1, Int.toNat_natCast, made_rep n v] at hmk
  have t1 : decide ((n : Int) < 0) = false := decide_eq_false (by omega)
  have t2 : decide ((9223372036854775807 : Int) < (n : Int)) = false := decide_eq_false (by omega)
  have HP : Hid ((w.alloc (.cells (rep n 0 v).toArray 21)).cell? ⟨p, 0, none⟩ = some (.int .i32 v)) := Lib.hid ((World.cell?_alloc_lt w _ _ hlt).trans hp)
  have HG0 : Hid ((w.alloc (.cells (rep n 0 v).toArray 21)).heap[w.heap.size]? = some (.cells (rep n 0 v).toArray 21 (0, 0))) := Lib.hid (Blk.new w 21 (rep n 0 v).toArray)
  have C1 : Hid ([Value.int .i32 v].length = Nat.min 1 n) := Lib.hid (Nat.min_eq_left h1).symm
  have C3 : Hid (0 + [Value.int .i32 v].length ≤ (rep n 0 v).length) := Lib.hid (by rw [rep_len]; simpa using h1)
  have C4 : Hid (∀ u ∈ [Value.int .i32 v], u.oneCell' = true) := Lib.hid (by intro u hu; simp at hu; subst hu; rfl)
  clear hz0 hz1 hz2 hi0 hp
  go_enter Tryz.func100, Tryz.ntmps100
  go_wp2_with fail
  refine (Mul_one n (by omega) _).mono ?_
  rintro e w1 ⟨rfl, rfl⟩
  go_wp2_with ((with_reducible refine wpList_copy_splice rfl (.tmp 31) (.tmp 32) _ _ rfl 21 Tryz.underlying162 size_i32 _ _ _ _ _ _ rfl rfl w.heap.size 0 (rep n 0 v) 21 HG0.out [.int .i32 v] ?_ ?_ ?_ ?_ w.heap.size w (new_bel w _) (Nat.le_refl _) ?_); (go_must (exact C1.out)); (go_must (exact fun _ => ⟨rfl, _, rfl, one_src HP.out⟩)); (go_must (exact C3.out)); (go_must (exact C4.out)); intro w2 HG2 hB2)
  have HG : Hid (Blk w2 w.heap.size 21 (rep n 1 v).toArray) := Lib.hid (by
    have := HG2.out
    have e := rep_splice n 0 1 v (by omega)
    simp only [List.replicate, Nat.zero_add] at e
    rw [e] at this
    exact this)
  clear HG0 HG2 C1 C3 C4 HP hmk t1 t2
  go_wp2_with fail
  go_loopw [8] (fun t wr => ∃ m : Nat, 1 ≤ m ∧ m ≤ n ∧ t = .int .i64 m ∧ Hid (Blk wr w.heap.size 21 (rep n m v).toArray) ∧ Below w.heap.size w wr) (fun t _ => n - (intOf t).toNat)
  case atStart => exact ⟨1, by omega, by omega, rfl, HG, hB2⟩
  case round =>
    obtain ⟨m, m1, m2, rfl, HGm, hbr⟩ := hrel
    by_cases hlt : m < n
    · have q1 : (0 : Int) ≤ (m : Int) := by omega
      have q2 : (m : Int) ≤ (n : Int) := by omega
      obtain ⟨k, hk⟩ : ∃ k, Nat.min m (n - m) = k := ⟨_, rfl⟩
      have hk1 : 1 ≤ k ∧ k ≤ m ∧ m + k ≤ n := by rw [← hk]; simp only [Nat.min_def]; split <;> omega
      have C1 : Hid ((List.replicate k (Value.int .i32 v)).length = Nat.min m (n - m)) := Lib.hid (by rw [hk]; simp)
      have C3 : Hid (m + (List.replicate k (Value.int .i32 v)).length ≤ (rep n m v).length) := Lib.hid (by rw [rep_len]; simp; omega)
      have C4 : Hid (∀ u ∈ List.replicate k (Value.int .i32 v), u.oneCell' = true) := Lib.hid (by intro u hu; rw [List.eq_of_mem_replicate hu]; rfl)
      have hne : ¬ n = m := by omega
      have W1 : IntKind.i64.wrap ((m : Int) + (k : Int)) = (m : Int) + (k : Int) := IntWalk.i64_in _ (by omega)
      clear hk
      go_wp2_with fail
      go_region_held3 (fun _ => True) (trivial)
        ((refine step_copy_splice rfl (.tmp 41) (.tmp 44) _ _ rfl 21 Tryz.underlying162 size_i32 _ _ _ _ _ _ rfl rfl w.heap.size m (rep n m v) 21 HGm.out (List.replicate k (.int .i32 v)) ?_ ?_ C3.out C4.out w.heap.size w hbr.drew (Nat.le_refl _) ?_; (go_must (exact C1.out)); (go_must (exact fun _ => ⟨rfl, _, rfl, rep_src HGm.out (by omega) (by omega)⟩)); intro w3 HG3 hB3))
      go_wp2_with fail
      clear W1
      refine ⟨⟨m + k, by omega, by omega, by go_num, Lib.hid ?_, hB3⟩, ?_⟩
      · have := HG3.out
        rw [rep_splice n m k v (by omega)] at this
        exact this
      · simp only [intOf]
        omega
    · have e : m = n := by omega
      subst e
      go_wp2_with fail
      go_ret
      exact ⟨w.heap.size, rfl, Nat.le_refl _, by rw [← rep_all]; exact HGm.out, hbr⟩
end Go.Proofs.YtojlgfkjnkjcmaaGreatDoor

/-
  (*Slab).rough: cells that may be written one by one.
-/
namespace Go.Proofs.YtojlgfkjnkjcmaaGreatDoor
open Go.RowKit
set_option linter.unusedVariables false
set_option linter.unusedSimpArgs false

theorem ta_flat_rough (z : Int) (W : World) : (Instr.typeAssert (.iface 149 (.int .i32 z)) 151 162 true).run Tryz.prog W = .ok (.tuple #[.slice none 0 0, .bool false]) W := by kernel_rfl
theorem ta_rough_rough (A : Option Addr) (n c : Nat) (W : World) : (Instr.typeAssert (.iface 162 (.slice A n c)) 151 162 true).run Tryz.prog W = .ok (.tuple #[.slice A n c, .bool true]) W := by kernel_rfl
theorem ta_flat (z : Int) (W : World) : (Instr.typeAssert (.iface 149 (.int .i32 z)) 151 149 false).run Tryz.prog W = .ok (.int .i32 z) W := by kernel_rfl
theorem ta_flat_flat (z : Int) (W : World) : (Instr.typeAssert (.iface 149 (.int .i32 z)) 151 149 true).run Tryz.prog W = .ok (.tuple #[.int .i32 z, .bool true]) W := by kernel_rfl
theorem ta_rough_flat (A : Option Addr) (n c : Nat) (W : World) : (Instr.typeAssert (.iface 162 (.slice A n c)) 151 149 true).run Tryz.prog W = .ok (.tuple #[.int .i32 0, .bool false]) W := by kernel_rfl

/-- it hands out the row of a slab, that it may have made -/
def GivesRough (w : World) (b sw sh : Nat) (f : Nat → Int) (q : Option Nat) (e : Ending) (w' : World) : Prop :=
  ∃ g, e = .returned (.slice (some ⟨g, 0, none⟩) (sw * sh) (sw * sh)) ∧ SlabIs w' b sw sh f (some g) ∧ Touch (fun i => i = b) w w' ∧ (q = some g ∨ w.heap.size ≤ g)

set_option maxHeartbeats 2000000 in
set_option maxRecDepth 100000 in
theorem srough_some (b sw sh g : Nat) (f : Nat → Int) (w : World) (hS : SlabIs w b sw sh f (some g)) : Calls Tryz.prog 90 #[.pointer (some ⟨b, 0, none⟩)] w (GivesRough w b sw sh f (some g)) := by
  obtain ⟨v, hb, hv, hq⟩ := hS.body
  subst hv
  obtain ⟨n, hn⟩ : ∃ n, sw * sh = n := ⟨_, rfl⟩
  rw [hn] at hb
  have c2 := hb.cell 2
  simp at c2
  have HS := Lib.hid hS
  have HN := Lib.hid hn
  clear hS hb hq hn
  have ta := ta_rough_rough
  go_enter Tryz.func90, Tryz.ntmps90
  go_wp2_with fail
  go_ret
  exact ⟨g, by rw [HN.out]; rfl, HS.out, Touch.refl _ _, .inl rfl⟩

set_option maxHeartbeats 2000000 in
set_option maxRecDepth 100000 in
theorem srough_none (b sw sh : Nat) (f : Nat → Int) (w : World) (hS : SlabIs w b sw sh f none) : Calls Tryz.prog 90 #[.pointer (some ⟨b, 0, none⟩)] w (GivesRough w b sw sh f none) := by
  obtain ⟨v, hb, z, hv, hf⟩ := hS.body
  subst hv
  obtain ⟨n, hn⟩ : ∃ n, sw * sh = n := ⟨_, rfl⟩
  have D : Box3 w b (.int .i64 sw) (.int .i64 sh) (.iface 149 (.int .i32 z)) := ⟨hb.cell 0, hb.cell 1, hb.cell 2⟩
  have fz := hb.frozen 2
  have hlt := hb.lt
  have h1 : 1 ≤ n := by rw [← hn]; exact Nat.mul_pos hS.w1 hS.h1
  have h2 : n ≤ 256 := by rw [← hn]; exact Nat.mul_le_mul hS.w2 hS.h2
  have W1 : IntKind.i64.wrap ((sw : Int) * (sh : Int)) = (n : Int) := by
    rw [show (sw : Int) * (sh : Int) = ((sw * sh : Nat) : Int) by simp, hn]
    exact IntWalk.i64_in _ (by omega)
  have HS := Lib.hid hS
  have HF := Lib.hid hf
  have HBK := Lib.hid hb
  have HN := Lib.hid hn
  have D' := D
  obtain ⟨d0, d1, d2⟩ := D'
  clear hS hb hf hn
  have ta := ta_flat_rough
  have tb := ta_flat
  go_enter Tryz.func90, Tryz.ntmps90
  go_wp2_with fail
  have HX := Below.refl w.heap.size w
  have hc1 : ((w.alloc (.cells #[.int .i32 z] 21)).drew).cell? ⟨w.heap.size, 0, none⟩ = some (.int .i32 z) := by simp
  have hs1 : w.heap.size ≤ ((w.alloc (.cells #[.int .i32 z] 21)).drew).heap.size := by simp
  have DX : Box3 ((w.alloc (.cells #[.int .i32 z] 21)).drew) b (.int .i64 sw) (.int .i64 sh) (.iface 149 (.int .i32 z)) := D.bel (new_bel w (.cells #[.int .i32 z] 21)).drew hlt
  go_region_held3 (fun W => W.cell? ⟨b, 0, none⟩ = some (.int .i64 sw) ∧ W.cell? ⟨b, 1, none⟩ = some (.int .i64 sh) ∧ W.cell? ⟨b, 2, none⟩ = some (.iface 149 (.int .i32 z)))
    (first | exact D | exact DX | exact D.bel HX hlt)
    ((go_at_call 100; refine (Repeat_ok w.heap.size 1 n z _ hc1 h1 h2).mono ?_; rintro e w2 ⟨g, rfl, hg, hgb, hb2⟩; replace HX := (new_bel w (.cells #[.int .i32 z] 21)).drew.trans (hb2.mono hs1)))
  obtain ⟨e0, e1, e2⟩ := D.bel HX hlt
  have fz2 := bel_froz HX _ hlt fz
  have hgb' : w.heap.size ≤ g := by simp at hg; omega
  clear d0 d1 d2 fz
  go_wp2_with fail
  go_ret
  have hne : g ≠ b := by omega
  refine ⟨g, by rw [HN.out]; rfl, ⟨HS.out.w1, HS.out.w2, HS.out.h1, HS.out.h2, HS.out.may, _, (HBK.out.below HX hlt).set_ 2 _, ?_, ?_⟩, (Touch.of_kept (S := fun i => i = b) HX).setCell (p := ⟨b, 2, none⟩) (.inl rfl) _, .inr hgb'⟩
  · rw [HN.out]
  · have h := hgb.far (p := ⟨b, 2, none⟩) hne (.iface 162 (.slice (some ⟨g, 0, none⟩) n n))
    rw [HN.out, rowA_congr (h := fun _ => z) (fun k hk => HF.out k (by rw [HN.out]; exact hk))]
    exact h

theorem srough_ok {w : World} {b sw sh : Nat} {f : Nat → Int} {q : Option Nat} (hS : SlabIs w b sw sh f q) : Calls Tryz.prog 90 #[.pointer (some ⟨b, 0, none⟩)] w (GivesRough w b sw sh f q) := by
  rcases q with _ | q
  · exact srough_none b sw sh f w hS
  · exact srough_some b sw sh q f w hS
end Go.Proofs.YtojlgfkjnkjcmaaGreatDoor

/-
  What became the same again: slices.ContainsFunc with the closure of (*Slab).Fill.
-/
namespace Go.Proofs.YtojlgfkjnkjcmaaGreatDoor
open Go.RowKit
set_option linter.unusedVariables false
set_option linter.unusedSimpArgs false

theorem Fill1_any (x y : Int) (p g n c : Nat) (w : World) (hp : w.cell? ⟨p, 0, none⟩ = some (.slice (some ⟨g, 0, none⟩) n c)) (hn : 0 < n) (hg : w.cell? ⟨g, 0, none⟩ = some (.int .i32 y)) :
    Calls Tryz.prog 92 #[.int .i32 x, .pointer (some ⟨p, 0, none⟩)] w fun e w' => e = .returned (.bool (x != y)) ∧ w = w' := by
  go_enter Tryz.func92, Tryz.ntmps92
  go_wp2_with fail
  go_ret
  exact ⟨rfl, rfl⟩

/-- a value of a row that isn't the first one's is found, or there is none -/
def FoundI (n : Nat) (f : Nat → Int) (w : World) (e : Ending) (w' : World) : Prop :=
  ∃ i : Int, e = .returned (.int .i64 i) ∧ -1 ≤ i ∧ (0 ≤ i ↔ ∃ k, k < n ∧ f k ≠ f 0) ∧ w = w'
def FoundB (n : Nat) (f : Nat → Int) (w : World) (e : Ending) (w' : World) : Prop :=
  ∃ z : Bool, e = .returned (.bool z) ∧ (z = true ↔ ∃ k, k < n ∧ f k ≠ f 0) ∧ w = w'

set_option maxHeartbeats 1000000 in
theorem IndexRough (p g n : Nat) (f : Nat → Int) (w : World) (hp : w.cell? ⟨p, 0, none⟩ = some (.slice (some ⟨g, 0, none⟩) n n)) (hn : 0 < n) (hn' : n ≤ 256) (hg : Blk w g 21 (rowA n f)) :
    Calls Tryz.prog 101 #[.slice (some ⟨g, 0, none⟩) n n, .func (.func 92) #[] #[.pointer (some ⟨p, 0, none⟩)]] w (FoundI n f w) := by
  have h0 : w.cell? ⟨g, 0, none⟩ = some (.int .i32 (f 0)) := (hg.cell 0).trans (rowA_get n f 0 hn)
  have HK := Lib.hid fun k (hk : k < n) => (hg.cell k).trans (rowA_get n f k hk)
  clear hg
  go_enter Tryz.func101, Tryz.ntmps101
  go_wp2_with fail
  go_loop [5, 8] (fun _ t => ∃ k : Nat, k ≤ n ∧ t = .int .i64 k ∧ Hid (∀ j, j < k → f j = f 0)) (fun _ t => n - (intOf t).toNat)
  case atStart => exact ⟨0, by omega, rfl, Lib.hid fun j hj => by omega⟩
  case round =>
    obtain ⟨k, hk, rfl, HJ⟩ := hrel
    by_cases hlt : k < n
    · have hc := HK.out k hlt
      by_cases he : f k = f 0
      · have ht : (f k != f 0) = false := by rw [he]; simp
        have HE := Lib.hid he
        clear he
        go_wp2_with fail
        refine (Fill1_any (f k) (f 0) p g n n _ hp hn h0).mono ?_
        rintro e w2 ⟨rfl, rfl⟩
        rw [ht]
        go_wp2_with fail
        go_round
        case rel => exact ⟨k + 1, by omega, by go_num, Lib.hid fun j hj => by
          rcases Nat.lt_or_ge j k with c | c
          · exact HJ.out j c
          · rw [show j = k by omega]; exact HE.out⟩
        case measure => simp only [intOf]; omega
      · have ht : (f k != f 0) = true := by rw [bne_iff_ne]; exact he
        go_wp2_with fail
        refine (Fill1_any (f k) (f 0) p g n n _ hp hn h0).mono ?_
        rintro e w2 ⟨rfl, rfl⟩
        rw [ht]
        go_wp2_with fail
        go_ret
        exact ⟨k, rfl, by omega, ⟨fun _ => ⟨k, hlt, he⟩, fun _ => by omega⟩, rfl⟩
    · go_wp2_with fail
      go_ret
      exact ⟨-1, rfl, by omega, ⟨fun h => by omega, fun ⟨j, hj, hne⟩ => absurd (HJ.out j (by omega)) hne⟩, rfl⟩

theorem ContainsRough (p g n : Nat) (f : Nat → Int) (w : World) (hp : w.cell? ⟨p, 0, none⟩ = some (.slice (some ⟨g, 0, none⟩) n n)) (hn : 0 < n) (hn' : n ≤ 256) (hg : Blk w g 21 (rowA n f)) :
    Calls Tryz.prog 91 #[.slice (some ⟨g, 0, none⟩) n n, .func (.func 92) #[] #[.pointer (some ⟨p, 0, none⟩)]] w (FoundB n f w) := by
  have HI := Lib.hid (IndexRough p g n f w hp hn hn' hg)
  clear hp hg
  go_enter Tryz.func91, Tryz.ntmps91
  go_wp2_with fail
  refine HI.out.mono ?_
  rintro e w2 ⟨i, rfl, h1, h2, rfl⟩
  have H2 := Lib.hid h2
  clear h2
  by_cases h : 0 ≤ i
  · go_wp2_with fail
    go_ret
    exact ⟨_, rfl, by simpa [h] using H2.out, rfl⟩
  · have hd : decide (0 ≤ i) = false := decide_eq_false h
    go_wp2_with fail
    go_ret
    exact ⟨false, rfl, ⟨fun e => (by cases e), fun e => absurd (H2.out.2 e) (by omega)⟩, rfl⟩
end Go.Proofs.YtojlgfkjnkjcmaaGreatDoor

