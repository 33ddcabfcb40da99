/-
  rect.Pieces: a rectangle by tiles.
-/
import Derived.Test.YtccpgalpahfpaaaRectMore
namespace Go.Proofs.Ytccpgalpahfpaaa
open Go.RowKit
set_option linter.unusedVariables false
set_option linter.unusedSimpArgs false

/-- a rectangle -/
structure Rc where
  x0 : Int
  y0 : Int
  x1 : Int
  y1 : Int
def encR (r : Rc) : List Value := [.int .i64 r.x0, .int .i64 r.y0, .int .i64 r.x1, .int .i64 r.y1]
theorem encR_len (r : Rc) : (encR r).length = 4 := rfl
theorem encR_plain (r : Rc) : ∀ u ∈ encR r, u.oneCell' = true := by intro u hu; simp [encR] at hu; rcases hu with rfl | rfl | rfl | rfl <;> rfl
theorem info_rect : (Try.prog.info? 45).map (fun i => (i.zero, i.size, i.bytes)) = some (some (rectV 0 0 0 0), 4, 32) := by kernel_rfl

/-- the piece of a rectangle in the tile i columns and j rows behind its first one -/
def pc (r : Rc) (i j : Nat) : Rc := ⟨max (r.x0 - r.x0 % 16 + 16 * (i : Int)) r.x0, max (r.y0 - r.y0 % 16 + 16 * (j : Int)) r.y0, min (r.x0 - r.x0 % 16 + 16 * (i : Int) + 16 - 1) r.x1, min (r.y0 - r.y0 % 16 + 16 * (j : Int) + 16 - 1) r.y1⟩
/-- how many columns, how many rows of tiles it meets -/
def pcX (r : Rc) : Nat := (r.x1 / 16 - r.x0 / 16 + 1).toNat
def pcY (r : Rc) : Nat := (r.y1 / 16 - r.y0 / 16 + 1).toNat
def pcRow (r : Rc) (i j : Nat) : List Rc := (List.range i).map fun a => pc r a j
def pcRows (r : Rc) (j : Nat) : List Rc := (List.range j).flatMap fun b => pcRow r (pcX r) b
/-- all its pieces -/
def pcs (r : Rc) : List Rc := pcRows r (pcY r)
theorem pcRow_succ (r : Rc) (i j : Nat) : pcRow r (i + 1) j = pcRow r i j ++ [pc r i j] := by simp [pcRow, List.range_succ]
theorem pcRows_succ (r : Rc) (j : Nat) : pcRows r (j + 1) = pcRows r j ++ pcRow r (pcX r) j := by simp [pcRows, List.range_succ]
theorem pcRow_len (r : Rc) (i j : Nat) : (pcRow r i j).length = i := by simp [pcRow]
theorem pcRows_len (r : Rc) (j : Nat) : (pcRows r j).length = j * pcX r := by
  induction j with
  | zero => simp [pcRows]
  | succ j ih => rw [pcRows_succ, List.length_append, ih, pcRow_len, Nat.succ_mul]

/-- it returns rectangles in memory of its own -/
def GivesR (w : World) (l : List Rc) (e : Ending) (w' : World) : Prop :=
  ∃ A c, e = .returned (.slice A l.length c) ∧ w'.ownsRow w.heap.size 45 4 (.slice A l.length c) l.length (flt encR l) ∧ Below w.heap.size w w'
def RectsAt (w wr : World) (v : Value) (l : List Rc) : Prop :=
  ∃ A c, v = .slice A l.length c ∧ wr.ownsRow w.heap.size 45 4 (.slice A l.length c) l.length (flt encR l)

set_option maxHeartbeats 2000000 in
set_option maxRecDepth 100000 in
theorem Pieces_ok (r : Rc) (w : World) (hr : rightB r.x0 r.y0 r.x1 r.y1 = true) : Calls Try.prog 46 #[rectV r.x0 r.y0 r.x1 r.y1] w (GivesR w (pcs r)) := by
  obtain ⟨i0, hi0, hz0, hz1, hz2⟩ := info_parts info_rect
  obtain ⟨x0, y0, x1, y1⟩ := r
  simp only at hr ⊢
  have hR := fun W => Right_any x0 y0 x1 y1 W
  rw [hr] at hR
  have HR := Lib.hid hR
  obtain ⟨h1, h2, h3, h4, h5, h6⟩ := (right_iff _ _ _ _).1 hr
  obtain ⟨nx, hnx⟩ : ∃ m, pcX ⟨x0, y0, x1, y1⟩ = m := ⟨_, rfl⟩
  obtain ⟨ny, hny⟩ : ∃ m, pcY ⟨x0, y0, x1, y1⟩ = m := ⟨_, rfl⟩
  have ex : (nx : Int) = x1 / 16 - x0 / 16 + 1 := by rw [← hnx]; unfold pcX; simp only; omega
  have ey : (ny : Int) = y1 / 16 - y0 / 16 + 1 := by rw [← hny]; unfold pcY; simp only; omega
  have HNX := Lib.hid hnx
  have HNY := Lib.hid hny
  have EX := Lib.hid ex
  have EY := Lib.hid ey
  have lx : nx ≤ 64 := by omega
  have ly : ny ≤ 64 := by omega
  have FX := Lib.hid (fun W => floor_any x0 W h1 (by omega))
  have FY := Lib.hid (fun W => floor_any y0 W h4 (by omega))
  clear hr hR hnx hny ex ey
  go_enter Try.func46, Try.ntmps46
  go_wp2_with fail
  refine (HR.out _).mono ?_
  rintro e w1 ⟨rfl, hb1⟩
  obtain ⟨c0, c1, c2, c3⟩ := (box4_new w (.int .i64 x0) (.int .i64 y0) (.int .i64 x1) (.int .i64 y1) 45).bel hb1 (by simp)
  have hz : w.heap.size < w1.heap.size := by have := hb1.size; simp at this; omega
  have HB : Below w.heap.size w w1 := (new_bel w _).trans (hb1.mono (by simp))
  clear hb1 HR
  go_wp2_with fail
  refine (FY.out _).mono ?_
  rintro e w2 ⟨rfl, rfl⟩
  go_wp2_with fail
  go_loopw [3, 4] (fun v t wr => ∃ (j : Nat), j ≤ ny ∧ t = .int .i64 (y0 - y0 % 16 + 16 * (j : Int)) ∧ RectsAt w1 wr v (pcRows ⟨x0, y0, x1, y1⟩ j) ∧ Below w1.heap.size w1 wr) (fun _ t _ => (2000 - intOf t).toNat)
  case atStart => exact ⟨0, by omega, by simp, ⟨none, 0, by simp [pcRows], by simpa [pcRows, flt] using World.ownsRow_nil _ _ _ _⟩, Below.refl _ _⟩
  case round =>
    obtain ⟨j, hj, rfl, ⟨A, c, rfl, hown⟩, hbr⟩ := hrel
    have q0 := bel_cell hbr _ _ (by simpa using hz) c0
    have q1 := bel_cell hbr _ _ (by simpa using hz) c1
    have q2 := bel_cell hbr _ _ (by simpa using hz) c2
    have q3 := bel_cell hbr _ _ (by simpa using hz) c3
    have hy := EY.out
    by_cases hlt : j < ny
    · have t1 : y0 - y0 % 16 + 16 * (j : Int) ≤ y1 := by omega
      clear hy
      go_wp2_with fail
      refine (FX.out _).mono ?_
      rintro e w2 ⟨rfl, rfl⟩
      go_wp2_with fail
      go_loopw [3, 5] (fun v t wr2 => ∃ (i : Nat), i ≤ nx ∧ t = .int .i64 (x0 - x0 % 16 + 16 * (i : Int)) ∧ RectsAt w1 wr2 v (pcRows ⟨x0, y0, x1, y1⟩ j ++ pcRow ⟨x0, y0, x1, y1⟩ i j) ∧ Below w1.heap.size w1 wr2) (fun _ t _ => (2000 - intOf t).toNat)
      case atStart => exact ⟨0, by omega, by simp, ⟨A, c, by simp [pcRow], by simpa [pcRow] using hown⟩, hbr⟩
      case round =>
        obtain ⟨i, hi, rfl, ⟨A2, c2', rfl, hown2⟩, hbr2⟩ := hrel
        have p0 := bel_cell hbr2 _ _ (by simpa using hz) c0
        have p1 := bel_cell hbr2 _ _ (by simpa using hz) c1
        have p2 := bel_cell hbr2 _ _ (by simpa using hz) c2
        have p3 := bel_cell hbr2 _ _ (by simpa using hz) c3
        have hzr := hbr2.size
        clear q0 q1 q2 q3 hown hbr
        have len4 : (pcRows ⟨x0, y0, x1, y1⟩ j ++ pcRow ⟨x0, y0, x1, y1⟩ i j).length ≤ 8192 := by
          rw [List.length_append, pcRows_len, pcRow_len, HNX.out]
          have := Nat.mul_le_mul (show j ≤ 64 by omega) lx
          omega
        obtain ⟨L, hL⟩ : ∃ L, pcRows ⟨x0, y0, x1, y1⟩ j ++ pcRow ⟨x0, y0, x1, y1⟩ i j = L := ⟨_, rfl⟩
        rw [hL] at len4 hown2 ⊢
        have HL := Lib.hid hL
        clear hL
        have hx := EX.out
        by_cases hlt2 : i < nx
        · have t2 : x0 - x0 % 16 + 16 * (i : Int) ≤ x1 := by omega
          have hfit : Reads ((wr.alloc (.cells #[.int .i64 (max (x0 - x0 % 16 + 16 * (i : Int)) x0), .int .i64 (max (y0 - y0 % 16 + 16 * (j : Int)) y0), .int .i64 (min (x0 - x0 % 16 + 16 * (i : Int) + 16 - 1) x1), .int .i64 (min (y0 - y0 % 16 + 16 * (j : Int) + 16 - 1) y1)] 45)).alloc (.cells #[.int .i64 (max (x0 - x0 % 16 + 16 * (i : Int)) x0), .int .i64 (max (y0 - y0 % 16 + 16 * (j : Int)) y0), .int .i64 (min (x0 - x0 % 16 + 16 * (i : Int) + 16 - 1) x1), .int .i64 (min (y0 - y0 % 16 + 16 * (j : Int) + 16 - 1) y1)] 45)) (wr.heap.size + 1 + 1) 4 (some ⟨wr.heap.size + 1, 0, none⟩) 1 (encR (pc ⟨x0, y0, x1, y1⟩ i j)) := by
            have := reads_new (wr.alloc (.cells #[.int .i64 (max (x0 - x0 % 16 + 16 * (i : Int)) x0), .int .i64 (max (y0 - y0 % 16 + 16 * (j : Int)) y0), .int .i64 (min (x0 - x0 % 16 + 16 * (i : Int) + 16 - 1) x1), .int .i64 (min (y0 - y0 % 16 + 16 * (j : Int) + 16 - 1) y1)] 45)) (encR (pc ⟨x0, y0, x1, y1⟩ i j)) 45 #[.int .i64 (max (x0 - x0 % 16 + 16 * (i : Int)) x0), .int .i64 (max (y0 - y0 % 16 + 16 * (j : Int)) y0), .int .i64 (min (x0 - x0 % 16 + 16 * (i : Int) + 16 - 1) x1), .int .i64 (min (y0 - y0 % 16 + 16 * (j : Int) + 16 - 1) y1)] 4 1 rfl rfl
            rw [show (wr.alloc (.cells #[.int .i64 (max (x0 - x0 % 16 + 16 * (i : Int)) x0), .int .i64 (max (y0 - y0 % 16 + 16 * (j : Int)) y0), .int .i64 (min (x0 - x0 % 16 + 16 * (i : Int) + 16 - 1) x1), .int .i64 (min (y0 - y0 % 16 + 16 * (j : Int) + 16 - 1) y1)] 45)).heap.size = wr.heap.size + 1 by simp] at this
            exact this
          have HF := Lib.hid hfit
          clear hx hfit
          go_wp2_with (at_builtin; refine wpList_append_appl _ rfl (.tmp 49) (.tmp 51) _ rfl w1.heap.size 45 i0 _ 4 32 Try.underlying93 hi0 hz0 hz1 hz2 rfl (by omega) (.slice A2 L.length c2') _ _ rfl (.inl ((hown2.alloc _).alloc _)) (wr.heap.size + 1 + 1) (some ⟨wr.heap.size + 1, 0, none⟩) 1 1 (encR (pc ⟨x0, y0, x1, y1⟩ i j)) rfl HF.out (encR_plain _) (.inl (by omega)) (by simp only [maxLen]; omega) (by omega) (by simp; omega) ?_; intro v1 w3 hown3 hB3 hg3 hat3)
          go_roundw
          case rel =>
            obtain ⟨A3, c3, rfl, _⟩ := own_shape' hown3
            have e2 : pcRows ⟨x0, y0, x1, y1⟩ j ++ pcRow ⟨x0, y0, x1, y1⟩ (i + 1) j = L ++ [pc ⟨x0, y0, x1, y1⟩ i j] := by rw [pcRow_succ, ← List.append_assoc, HL.out]
            refine ⟨i + 1, by omega, by go_num, ⟨A3, c3, ?_, ?_⟩, ((hbr2.alloc hbr2.size _).alloc (by simp; omega) _).trans hB3⟩
            · rw [e2]; simp
            · rw [e2, flt_append, flt_one]; simpa using hown3
          case measure =>
            simp only [intOf]
            omega
        · have t2 : decide (x0 - x0 % 16 + 16 * (i : Int) ≤ x1) = false := by simp; omega
          have e : i = nx := by omega
          subst e
          clear hx
          go_wp2_with fail
          go_roundw
          case rel =>
            have e2 : pcRows ⟨x0, y0, x1, y1⟩ (j + 1) = L := by rw [pcRows_succ, HNX.out, HL.out]
            refine ⟨j + 1, by omega, by go_num, ⟨A2, c2', ?_, ?_⟩, hbr2⟩
            · rw [e2]
            · rw [e2]; exact hown2
          case measure =>
            simp only [intOf]
            omega
    · have t1 : decide (y0 - y0 % 16 + 16 * (j : Int) ≤ y1) = false := by simp; omega
      have e : j = ny := by omega
      subst e
      clear hy
      go_wp2_with fail
      go_ret
      have e2 : pcs ⟨x0, y0, x1, y1⟩ = pcRows ⟨x0, y0, x1, y1⟩ j := by unfold pcs; rw [HNY.out]
      rw [e2]
      exact ⟨A, c, rfl, ownsRow_low hown HB.size, HB.trans (hbr.mono HB.size)⟩
end Go.Proofs.Ytccpgalpahfpaaa
