/-
  Texts of the proofs, one behind the other: SlabFill.
-/
import Derived.Test.YtojlgfkjnkjcmaaGreatDoorPartC
/-
  (*Slab).Fill: a rectangle of a slab gets one value.
-/
namespace Go.Proofs.YtojlgfkjnkjcmaaGreatDoor
open Go.RowKit
set_option linter.unusedVariables false
set_option linter.unusedSimpArgs false

/-- a slab's cells behind a fill -/
def fillK (sw x0 y0 x1 y1 : Nat) (v : Int) (f : Nat → Int) (k : Nat) : Int := if x0 ≤ k % sw ∧ k % sw ≤ x1 ∧ y0 ≤ k / sw ∧ k / sw ≤ y1 then v else f k
/-- and on the way there: the rows ahead of y, and of row y the columns ahead of x -/
def fillT (sw x0 y0 x1 : Nat) (v : Int) (f : Nat → Int) (y x k : Nat) : Int := if (x0 ≤ k % sw ∧ k % sw ≤ x1 ∧ y0 ≤ k / sw ∧ k / sw < y) ∨ (k / sw = y ∧ x0 ≤ k % sw ∧ k % sw < x) then v else f k
section
variable {sw x0 y0 x1 y1 : Nat} {v : Int} {f : Nat → Int}
theorem fillT_start (k : Nat) : fillT sw x0 y0 x1 v f y0 x0 k = f k := by unfold fillT; rw [if_neg (by omega)]
theorem fillT_row {y : Nat} (hy : y0 ≤ y) (k : Nat) : fillT sw x0 y0 x1 v f y (x1 + 1) k = fillT sw x0 y0 x1 v f (y + 1) x0 k := by
  unfold fillT
  by_cases c : (x0 ≤ k % sw ∧ k % sw ≤ x1 ∧ y0 ≤ k / sw ∧ k / sw < y) ∨ (k / sw = y ∧ x0 ≤ k % sw ∧ k % sw < x1 + 1)
  · rw [if_pos c, if_pos (by omega)]
  · rw [if_neg c, if_neg (by omega)]
theorem fillT_end (k : Nat) : fillT sw x0 y0 x1 v f (y1 + 1) x0 k = fillK sw x0 y0 x1 y1 v f k := by
  unfold fillT fillK
  by_cases c : x0 ≤ k % sw ∧ k % sw ≤ x1 ∧ y0 ≤ k / sw ∧ k / sw ≤ y1
  · rw [if_pos c, if_pos (by omega)]
  · rw [if_neg c, if_neg (by omega)]
theorem at_iff {k x y : Nat} (hx : x < sw) : k = y * sw + x ↔ (k / sw = y ∧ k % sw = x) := by
  constructor
  · rintro rfl
    rw [Nat.mul_comm y sw, Nat.mul_add_div (by omega), Nat.mul_add_mod, Nat.div_eq_of_lt hx, Nat.mod_eq_of_lt hx]
    exact ⟨rfl, rfl⟩
  · rintro ⟨rfl, rfl⟩
    have := Nat.div_add_mod k sw
    rw [Nat.mul_comm] at this
    omega
theorem fillT_step {y x : Nat} (hx : x < sw) (h0 : x0 ≤ x) (k : Nat) : (if k = y * sw + x then v else fillT sw x0 y0 x1 v f y x k) = fillT sw x0 y0 x1 v f y (x + 1) k := by
  by_cases c : k = y * sw + x
  · rw [if_pos c]
    obtain ⟨c1, c2⟩ := (at_iff hx).1 c
    unfold fillT
    rw [if_pos (by omega)]
  · rw [if_neg c]
    have hn : ¬ (k / sw = y ∧ k % sw = x) := fun e => c ((at_iff hx).2 e)
    unfold fillT
    by_cases d : (x0 ≤ k % sw ∧ k % sw ≤ x1 ∧ y0 ≤ k / sw ∧ k / sw < y) ∨ (k / sw = y ∧ x0 ≤ k % sw ∧ k % sw < x)
    · rw [if_pos d, if_pos (by omega)]
    · rw [if_neg d, if_neg (by omega)]
theorem fillK_may {n : Nat} (hv : MayV v) (h : ∀ k, k < n → MayV (f k)) : ∀ k, k < n → MayV (fillK sw x0 y0 x1 y1 v f k) := by
  intro k hk; unfold fillK; split
  · exact hv
  · exact h k hk
end
/-- all cells of a slab are in a rectangle that has as many -/
theorem whole_all {sw sh x0 y0 x1 y1 : Nat} (h1 : x0 ≤ x1) (h2 : x1 < sw) (h3 : y0 ≤ y1) (h4 : y1 < sh) (ha : (x1 - x0 + 1) * (y1 - y0 + 1) = sw * sh) : x0 = 0 ∧ x1 = sw - 1 ∧ y0 = 0 ∧ y1 = sh - 1 := by
  have e1 : x1 - x0 + 1 = sw := by
    rcases Nat.lt_or_ge (x1 - x0 + 1) sw with c | c
    · have a1 : (x1 - x0 + 1) * (y1 - y0 + 1) ≤ (x1 - x0 + 1) * sh := Nat.mul_le_mul_left _ (by omega)
      have a2 : (x1 - x0 + 1) * sh < sw * sh := Nat.mul_lt_mul_of_pos_right c (by omega)
      omega
    · omega
  have e2 : y1 - y0 + 1 = sh := by
    rw [e1] at ha
    exact Nat.eq_of_mul_eq_mul_left (by omega) ha
  omega

theorem SlabIs.kept {w w' : World} {b sw sh : Nat} {f : Nat → Int} {q : Option Nat} (h : SlabIs w b sw sh f q) (hb : Below w.heap.size w w') : SlabIs w' b sw sh f q := by
  obtain ⟨v, h1, h2⟩ := h.body
  refine ⟨h.w1, h.w2, h.h1, h.h2, h.may, v, h1.kept hb, ?_⟩
  rcases q with _ | q
  · exact h2
  · exact ⟨h2.1, h2.2.kept hb⟩
theorem SlabIs.congr {w : World} {b sw sh : Nat} {f g : Nat → Int} {q : Option Nat} (h : SlabIs w b sw sh f q) (e : ∀ k, k < sw * sh → f k = g k) : SlabIs w b sw sh g q := by
  obtain ⟨v, h1, h2⟩ := h.body
  refine ⟨h.w1, h.w2, h.h1, h.h2, fun k hk => by rw [← e k hk]; exact h.may k hk, v, h1, ?_⟩
  rcases q with _ | q
  · obtain ⟨z, hz, hf⟩ := h2
    exact ⟨z, hz, fun k hk => by rw [← e k hk]; exact hf k hk⟩
  · exact ⟨h2.1, by rw [← rowA_congr e]; exact h2.2⟩

theorem slab_rough {w : World} {b sw sh n g : Nat} {f : Nat → Int} (hn : sw * sh = n) (s1 : 1 ≤ sw) (s2 : sw ≤ 16) (s3 : 1 ≤ sh) (s4 : sh ≤ 16) (hm : ∀ k, k < n → MayV (f k))
    (hb : Blk w b 153 #[.int .i64 sw, .int .i64 sh, .iface 162 (.slice (some ⟨g, 0, none⟩) n n)]) (hg : Blk w g 21 (rowA n f)) : SlabIs w b sw sh f (some g) := by
  subst hn; exact ⟨s1, s2, s3, s4, hm, _, hb, rfl, hg⟩
theorem slab_flat {w : World} {b sw sh n : Nat} {f : Nat → Int} {z : Int} (hn : sw * sh = n) (s1 : 1 ≤ sw) (s2 : sw ≤ 16) (s3 : 1 ≤ sh) (s4 : sh ≤ 16) (hm : ∀ k, k < n → MayV (f k)) (hf : ∀ k, k < n → f k = z)
    (hb : Blk w b 153 #[.int .i64 sw, .int .i64 sh, .iface 149 (.int .i32 z)]) : SlabIs w b sw sh f none := by
  subst hn; exact ⟨s1, s2, s3, s4, hm, _, hb, z, rfl, hf⟩

/-- a slab has been filled -/
def GivesFilled (w : World) (b sw sh : Nat) (f : Nat → Int) (q : Option Nat) (e : Ending) (w' : World) : Prop :=
  ∃ q', e = .returned (.int .i64 0) ∧ SlabIs w' b sw sh f q' ∧ Touch (fun i => i = b ∨ some i = q) w w' ∧ (∀ g, q' = some g → q = some g ∨ w.heap.size ≤ g)

set_option maxHeartbeats 4000000 in
set_option maxRecDepth 100000 in
theorem sFill_same (b sw sh x0 y0 x1 y1 n : Nat) (v one : Int) (V : Value) (w : World) (hb : Blk w b 153 #[.int .i64 sw, .int .i64 sh, V]) (s1 : 1 ≤ sw) (s2 : sw ≤ 16) (s3 : 1 ≤ sh) (s4 : sh ≤ 16) (hn : sw * sh = n)
    (hx : x0 ≤ x1) (hx' : x1 < sw) (hy : y0 ≤ y1) (hy' : y1 < sh) (hv : MayV v) (ta : ∀ W : World, (Instr.typeAssert V 151 149 true).run Tryz.prog W = .ok (.tuple #[.int .i32 one, .bool true]) W) (hone : (one == v) = true)
       :
    Calls Tryz.prog 80 #[.pointer (some ⟨b, 0, none⟩), rectV x0 y0 x1 y1, .int .i64 v] w (fun e w' => e = .returned (.int .i64 0) ∧ ∃ w1, Below w.heap.size w w1 ∧ w' = w1.setCell ⟨b, 2, none⟩ (.iface 149 (.int .i32 v))) := by
  have hs := fun W hbW => scheck_any b sw sh V x0 y0 x1 y1 W hbW s2 s4
  rw [show withinZ x0 y0 x1 y1 sw sh = 0 from within_of ⟨by omega, by omega, by omega, by omega⟩ (by omega) (by omega) (by omega) (by omega) (by omega) (by omega)] at hs
  have HS := Lib.hid hs
  have hm := fun W => may_any v W
  rw [show decide (MayV v) = true from decide_eq_true hv] at hm
  have HM := Lib.hid hm
  have hA := fun W => Area_any x0 y0 x1 y1 W
  rw [show areaZ x0 y0 x1 y1 = ((x1 : Int) - x0 + 1) * ((y1 : Int) - y0 + 1) by
    unfold areaZ; rw [if_pos ((right_iff _ _ _ _).2 ⟨by omega, by omega, by omega, by omega, by omega, by omega⟩)]] at hA
  have HA := Lib.hid hA
  have hlt := hb.lt
  have HBK := Lib.hid hb
  have HN := Lib.hid hn
  have n1 : 1 ≤ n := by rw [← hn]; exact Nat.mul_pos s1 s3
  have n2 : n ≤ 256 := by rw [← hn]; exact Nat.mul_le_mul s2 s4
  have W1 : IntKind.i64.wrap ((sw : Int) * (sh : Int)) = (n : Int) := by
    rw [show (sw : Int) * (sh : Int) = ((sw * sh : Nat) : Int) by simp, hn]
    exact IntWalk.i64_in _ (by omega)
  have W2 := i32_wrap v hv
  have HV := Lib.hid hv
  obtain ⟨ar, har⟩ : ∃ ar, ((x1 : Int) - x0 + 1) * ((y1 : Int) - y0 + 1) = ar := ⟨_, rfl⟩
  rw [har] at HA 
  clear hs hm hA hb hn har hv
  go_enter Tryz.func80, Tryz.ntmps80
  go_wp2_with fail
  refine (HS.out _ (HBK.out.alloc _)).mono ?_
  rintro e w1 ⟨rfl, hb1⟩
  have HB1 : Below (w.heap.size + 1) (w.alloc (.cells #[.int .i64 x0, .int .i64 y0, .int .i64 x1, .int .i64 y1] 107)) w1 := by simpa using hb1
  have hz1 : w.heap.size + 1 ≤ w1.heap.size := by have := HB1.size; simpa using this
  have BB := (HBK.out.alloc (.cells #[.int .i64 x0, .int .i64 y0, .int .i64 x1, .int .i64 y1] 107)).below HB1 (by omega)
  have BC := (Blk.new w 107 #[.int .i64 x0, .int .i64 y0, .int .i64 x1, .int .i64 y1]).below HB1 (by omega)
  have D : Box3 w1 b (.int .i64 sw) (.int .i64 sh) V := ⟨BB.cell 0, BB.cell 1, BB.cell 2⟩
  have C : Box4 w1 w.heap.size (.int .i64 x0) (.int .i64 y0) (.int .i64 x1) (.int .i64 y1) := ⟨BC.cell 0, BC.cell 1, BC.cell 2, BC.cell 3⟩
  have HB : Below w.heap.size w w1 := (new_bel w _).trans (HB1.mono (by omega))
  clear hb1 HS HB1
  go_wp2_with fail
  refine (HM.out _).mono ?_
  rintro e w2 ⟨rfl, rfl⟩
  obtain ⟨d0, d1, d2⟩ := id D
  have fz := BB.frozen 2
  go_wp2_with fail
  refine wp_region_noPanic ?_
  refine wp_region_held_drew (S := (fun W => (W.cell? ⟨w.heap.size, 0, none⟩ = some (.int .i64 x0) ∧ W.cell? ⟨w.heap.size, 1, none⟩ = some (.int .i64 y0) ∧ W.cell? ⟨w.heap.size, 2, none⟩ = some (.int .i64 x1) ∧ W.cell? ⟨w.heap.size, 3, none⟩ = some (.int .i64 y1)) ∧ (W.cell? ⟨b, 0, none⟩ = some (.int .i64 sw) ∧ W.cell? ⟨b, 1, none⟩ = some (.int .i64 sh) ∧ W.cell? ⟨b, 2, none⟩ = some V))) (by kernel_rfl) ?_ (fun hHeld => ?_)
  · exact ⟨C, D⟩
  refine wpAnyH_take (i := 0) (oi := _) (v := ?_) rfl (by kernel_rfl) (by kernel_rfl) (by kernel_rfl) (fun _ _ _ h => h) (Or.inl ⟨by rfl, ?_⟩) (by assumption) ?_
  rotate_left
  · (intro w hSw; (try dsimp only at hSw); go_simp; try with_reducible rfl)
  try simp only [List.getElem_toArray, List.getElem_cons_zero, List.getElem_cons_succ, Act.put, List.setIfInBounds_toArray, List.set_cons_zero, List.set_cons_succ]
  refine wpAnyH_take (i := 1) (oi := _) (v := ?_) rfl (by kernel_rfl) (by kernel_rfl) (by kernel_rfl) (fun _ _ _ h => h) (Or.inl ⟨by rfl, ?_⟩) (by assumption) ?_
  rotate_left
  · (intro w hSw; (try dsimp only at hSw); go_simp; try with_reducible rfl)
  try simp only [List.getElem_toArray, List.getElem_cons_zero, List.getElem_cons_succ, Act.put, List.setIfInBounds_toArray, List.set_cons_zero, List.set_cons_succ]
  refine wpAnyH_take (i := 2) (oi := _) (v := ?_) rfl (by kernel_rfl) (by kernel_rfl) (by kernel_rfl) (fun _ _ _ h => h) (Or.inl ⟨by rfl, ?_⟩) (by assumption) ?_
  rotate_left
  · (intro w hSw; (try dsimp only at hSw); go_simp; try with_reducible rfl)
  try simp only [List.getElem_toArray, List.getElem_cons_zero, List.getElem_cons_succ, Act.put, List.setIfInBounds_toArray, List.set_cons_zero, List.set_cons_succ]
  refine wpAnyH_take (i := 3) (oi := _) (v := ?_) rfl (by kernel_rfl) (by kernel_rfl) (by kernel_rfl) (fun _ _ _ h => h) (Or.inl ⟨by rfl, ?_⟩) (by assumption) ?_
  rotate_left
  · (intro w hSw; (try dsimp only at hSw); go_simp; try with_reducible rfl)
  try simp only [List.getElem_toArray, List.getElem_cons_zero, List.getElem_cons_succ, Act.put, List.setIfInBounds_toArray, List.set_cons_zero, List.set_cons_succ]
  refine wpAnyH_take (i := 4) (oi := _) (v := ?_) rfl (by kernel_rfl) (by kernel_rfl) (by kernel_rfl) (fun _ _ _ h => h) (Or.inl ⟨by rfl, ?_⟩) (by assumption) ?_
  rotate_left
  · (intro w hSw; (try dsimp only at hSw); go_simp; try with_reducible rfl)
  try simp only [List.getElem_toArray, List.getElem_cons_zero, List.getElem_cons_succ, Act.put, List.setIfInBounds_toArray, List.set_cons_zero, List.set_cons_succ]
  refine wpAnyH_take (i := 5) (oi := _) (v := ?_) rfl (by kernel_rfl) (by kernel_rfl) (by kernel_rfl) (fun _ _ _ h => h) (Or.inl ⟨by rfl, ?_⟩) (by assumption) ?_
  rotate_left
  · (intro w hSw; (try dsimp only at hSw); go_simp; try with_reducible rfl)
  try simp only [List.getElem_toArray, List.getElem_cons_zero, List.getElem_cons_succ, Act.put, List.setIfInBounds_toArray, List.set_cons_zero, List.set_cons_succ]
  refine wpAnyH_take (i := 6) (oi := _) (v := ?_) rfl (by kernel_rfl) (by kernel_rfl) (by kernel_rfl) (fun _ _ _ h => h) (Or.inl ⟨by rfl, ?_⟩) (by assumption) ?_
  rotate_left
  · (intro w hSw; (try dsimp only at hSw); go_simp; try with_reducible rfl)
  try simp only [List.getElem_toArray, List.getElem_cons_zero, List.getElem_cons_succ, Act.put, List.setIfInBounds_toArray, List.set_cons_zero, List.set_cons_succ]
  refine wpAnyH_take (i := 7) (oi := _) (v := ?_) rfl (by kernel_rfl) (by kernel_rfl) (by kernel_rfl) (fun _ _ _ h => h) (Or.inl ⟨by rfl, ?_⟩) (by assumption) ?_
  rotate_left
  · (intro w hSw; (try dsimp only at hSw); go_simp; try with_reducible rfl)
  try simp only [List.getElem_toArray, List.getElem_cons_zero, List.getElem_cons_succ, Act.put, List.setIfInBounds_toArray, List.set_cons_zero, List.set_cons_succ]
  refine wpAnyH_take (i := 8) (oi := _) (v := undef) rfl (by kernel_rfl) (by kernel_rfl) (by kernel_rfl) (fun _ _ _ h => h) (Or.inr ⟨by rfl, rfl⟩) (by assumption) ?_
  try simp only [List.getElem_toArray, List.getElem_cons_zero, List.getElem_cons_succ, Act.put, List.setIfInBounds_toArray, List.set_cons_zero, List.set_cons_succ]
  refine wpAnyH_take (i := 9) (oi := _) (v := undef) rfl (by kernel_rfl) (by kernel_rfl) (by kernel_rfl) (fun _ _ _ h => h) (Or.inr ⟨by rfl, rfl⟩) (by assumption) ?_
  try simp only [List.getElem_toArray, List.getElem_cons_zero, List.getElem_cons_succ, Act.put, List.setIfInBounds_toArray, List.set_cons_zero, List.set_cons_succ]
  refine wpAnyH_take (i := 10) (oi := _) (v := undef) rfl (by kernel_rfl) (by kernel_rfl) (by kernel_rfl) (fun _ _ _ h => h) (Or.inr ⟨by rfl, rfl⟩) (by assumption) ?_
  try simp only [List.getElem_toArray, List.getElem_cons_zero, List.getElem_cons_succ, Act.put, List.setIfInBounds_toArray, List.set_cons_zero, List.set_cons_succ]
  refine wpAnyH_take (i := 11) (oi := _) (v := undef) rfl (by kernel_rfl) (by kernel_rfl) (by kernel_rfl) (fun _ _ _ h => h) (Or.inr ⟨by rfl, rfl⟩) (by assumption) ?_
  try simp only [List.getElem_toArray, List.getElem_cons_zero, List.getElem_cons_succ, Act.put, List.setIfInBounds_toArray, List.set_cons_zero, List.set_cons_succ]
  refine wpAnyH_take (i := 12) (oi := _) (v := undef) rfl (by kernel_rfl) (by kernel_rfl) (by kernel_rfl) (fun _ _ _ h => h) (Or.inr ⟨by rfl, rfl⟩) (by assumption) ?_
  try simp only [List.getElem_toArray, List.getElem_cons_zero, List.getElem_cons_succ, Act.put, List.setIfInBounds_toArray, List.set_cons_zero, List.set_cons_succ]
  refine wpAnyH_take (i := 13) (oi := _) (v := undef) rfl (by kernel_rfl) (by kernel_rfl) (by kernel_rfl) (fun _ _ _ h => h) (Or.inr ⟨by rfl, rfl⟩) (by assumption) ?_
  try simp only [List.getElem_toArray, List.getElem_cons_zero, List.getElem_cons_succ, Act.put, List.setIfInBounds_toArray, List.set_cons_zero, List.set_cons_succ]
  refine wpAnyH_take (i := 14) (oi := _) (v := undef) rfl (by kernel_rfl) (by kernel_rfl) (by kernel_rfl) (fun _ _ _ h => h) (Or.inr ⟨by rfl, rfl⟩) (by assumption) ?_
  try simp only [List.getElem_toArray, List.getElem_cons_zero, List.getElem_cons_succ, Act.put, List.setIfInBounds_toArray, List.set_cons_zero, List.set_cons_succ]
  refine wpAnyH_take (i := 15) (oi := _) (v := undef) rfl (by kernel_rfl) (by kernel_rfl) (by kernel_rfl) (fun _ _ _ h => h) (Or.inr ⟨by rfl, rfl⟩) (by assumption) ?_
  try simp only [List.getElem_toArray, List.getElem_cons_zero, List.getElem_cons_succ, Act.put, List.setIfInBounds_toArray, List.set_cons_zero, List.set_cons_succ]
  refine wpAnyH_take (i := 16) (oi := _) (v := undef) rfl (by kernel_rfl) (by kernel_rfl) (by kernel_rfl) (fun _ _ _ h => h) (Or.inr ⟨by rfl, rfl⟩) (by assumption) ?_
  try simp only [List.getElem_toArray, List.getElem_cons_zero, List.getElem_cons_succ, Act.put, List.setIfInBounds_toArray, List.set_cons_zero, List.set_cons_succ]
  refine wpAnyH_take (i := 17) (oi := _) (v := undef) rfl (by kernel_rfl) (by kernel_rfl) (by kernel_rfl) (fun _ _ _ h => h) (Or.inr ⟨by rfl, rfl⟩) (by assumption) ?_
  try simp only [List.getElem_toArray, List.getElem_cons_zero, List.getElem_cons_succ, Act.put, List.setIfInBounds_toArray, List.set_cons_zero, List.set_cons_succ]
  refine wpAnyH_take (i := 18) (oi := _) (v := undef) rfl (by kernel_rfl) (by kernel_rfl) (by kernel_rfl) (fun _ _ _ h => h) (Or.inr ⟨by rfl, rfl⟩) (by assumption) ?_
  try simp only [List.getElem_toArray, List.getElem_cons_zero, List.getElem_cons_succ, Act.put, List.setIfInBounds_toArray, List.set_cons_zero, List.set_cons_succ]
  refine wpAnyH_take (i := 19) (oi := _) (v := undef) rfl (by kernel_rfl) (by kernel_rfl) (by kernel_rfl) (fun _ _ _ h => h) (Or.inr ⟨by rfl, rfl⟩) (by assumption) ?_
  try simp only [List.getElem_toArray, List.getElem_cons_zero, List.getElem_cons_succ, Act.put, List.setIfInBounds_toArray, List.set_cons_zero, List.set_cons_succ]
  refine wpAnyH_take (i := 20) (oi := _) (v := ?_) rfl (by kernel_rfl) (by kernel_rfl) (by kernel_rfl) (fun _ _ _ h => h) (Or.inl ⟨by rfl, ?_⟩) (by assumption) ?_
  rotate_left
  · (intro w hSw; (try dsimp only at hSw); go_simp; try with_reducible rfl)
  try simp only [List.getElem_toArray, List.getElem_cons_zero, List.getElem_cons_succ, Act.put, List.setIfInBounds_toArray, List.set_cons_zero, List.set_cons_succ]
  refine wpAnyH_done (by kernel_rfl) ?_ _
  refine NoPanic.normal ?_
  go_wp2_with fail
  go_ret
  exact ⟨rfl, w1.drew, HB.drew, rfl⟩

set_option maxHeartbeats 4000000 in
set_option maxRecDepth 100000 in
theorem sFill_whole_t (b sw sh x0 y0 x1 y1 n : Nat) (v one : Int) (V : Value) (w : World) (hb : Blk w b 153 #[.int .i64 sw, .int .i64 sh, V]) (s1 : 1 ≤ sw) (s2 : sw ≤ 16) (s3 : 1 ≤ sh) (s4 : sh ≤ 16) (hn : sw * sh = n)
    (hx : x0 ≤ x1) (hx' : x1 < sw) (hy : y0 ≤ y1) (hy' : y1 < sh) (hv : MayV v) (ta : ∀ W : World, (Instr.typeAssert V 151 149 true).run Tryz.prog W = .ok (.tuple #[.int .i32 one, .bool true]) W) (hone : (one == v) = false)
    (harea : ((((x1 : Int) - x0 + 1) * ((y1 : Int) - y0 + 1)) == (n : Int)) = true)   :
    Calls Tryz.prog 80 #[.pointer (some ⟨b, 0, none⟩), rectV x0 y0 x1 y1, .int .i64 v] w (fun e w' => e = .returned (.int .i64 0) ∧ ∃ w1, Below w.heap.size w w1 ∧ w' = w1.setCell ⟨b, 2, none⟩ (.iface 149 (.int .i32 v))) := by
  have hs := fun W hbW => scheck_any b sw sh V x0 y0 x1 y1 W hbW s2 s4
  rw [show withinZ x0 y0 x1 y1 sw sh = 0 from within_of ⟨by omega, by omega, by omega, by omega⟩ (by omega) (by omega) (by omega) (by omega) (by omega) (by omega)] at hs
  have HS := Lib.hid hs
  have hm := fun W => may_any v W
  rw [show decide (MayV v) = true from decide_eq_true hv] at hm
  have HM := Lib.hid hm
  have hA := fun W => Area_any x0 y0 x1 y1 W
  rw [show areaZ x0 y0 x1 y1 = ((x1 : Int) - x0 + 1) * ((y1 : Int) - y0 + 1) by
    unfold areaZ; rw [if_pos ((right_iff _ _ _ _).2 ⟨by omega, by omega, by omega, by omega, by omega, by omega⟩)]] at hA
  have HA := Lib.hid hA
  have hlt := hb.lt
  have HBK := Lib.hid hb
  have HN := Lib.hid hn
  have n1 : 1 ≤ n := by rw [← hn]; exact Nat.mul_pos s1 s3
  have n2 : n ≤ 256 := by rw [← hn]; exact Nat.mul_le_mul s2 s4
  have W1 : IntKind.i64.wrap ((sw : Int) * (sh : Int)) = (n : Int) := by
    rw [show (sw : Int) * (sh : Int) = ((sw * sh : Nat) : Int) by simp, hn]
    exact IntWalk.i64_in _ (by omega)
  have W2 := i32_wrap v hv
  have HV := Lib.hid hv
  obtain ⟨ar, har⟩ : ∃ ar, ((x1 : Int) - x0 + 1) * ((y1 : Int) - y0 + 1) = ar := ⟨_, rfl⟩
  rw [har] at HA harea
  clear hs hm hA hb hn har hv
  go_enter Tryz.func80, Tryz.ntmps80
  go_wp2_with fail
  refine (HS.out _ (HBK.out.alloc _)).mono ?_
  rintro e w1 ⟨rfl, hb1⟩
  have HB1 : Below (w.heap.size + 1) (w.alloc (.cells #[.int .i64 x0, .int .i64 y0, .int .i64 x1, .int .i64 y1] 107)) w1 := by simpa using hb1
  have hz1 : w.heap.size + 1 ≤ w1.heap.size := by have := HB1.size; simpa using this
  have BB := (HBK.out.alloc (.cells #[.int .i64 x0, .int .i64 y0, .int .i64 x1, .int .i64 y1] 107)).below HB1 (by omega)
  have BC := (Blk.new w 107 #[.int .i64 x0, .int .i64 y0, .int .i64 x1, .int .i64 y1]).below HB1 (by omega)
  have D : Box3 w1 b (.int .i64 sw) (.int .i64 sh) V := ⟨BB.cell 0, BB.cell 1, BB.cell 2⟩
  have C : Box4 w1 w.heap.size (.int .i64 x0) (.int .i64 y0) (.int .i64 x1) (.int .i64 y1) := ⟨BC.cell 0, BC.cell 1, BC.cell 2, BC.cell 3⟩
  have HB : Below w.heap.size w w1 := (new_bel w _).trans (HB1.mono (by omega))
  clear hb1 HS HB1
  go_wp2_with fail
  refine (HM.out _).mono ?_
  rintro e w2 ⟨rfl, rfl⟩
  obtain ⟨d0, d1, d2⟩ := id D
  have fz := BB.frozen 2
  go_wp2_with fail
  refine wp_region_noPanic ?_
  refine wp_region_held_drew (S := (fun W => (W.cell? ⟨w.heap.size, 0, none⟩ = some (.int .i64 x0) ∧ W.cell? ⟨w.heap.size, 1, none⟩ = some (.int .i64 y0) ∧ W.cell? ⟨w.heap.size, 2, none⟩ = some (.int .i64 x1) ∧ W.cell? ⟨w.heap.size, 3, none⟩ = some (.int .i64 y1)) ∧ (W.cell? ⟨b, 0, none⟩ = some (.int .i64 sw) ∧ W.cell? ⟨b, 1, none⟩ = some (.int .i64 sh) ∧ W.cell? ⟨b, 2, none⟩ = some V))) (by kernel_rfl) ?_ (fun hHeld => ?_)
  · exact ⟨C, D⟩
  refine wpAnyH_take (i := 0) (oi := _) (v := ?_) rfl (by kernel_rfl) (by kernel_rfl) (by kernel_rfl) (fun _ _ _ h => h) (Or.inl ⟨by rfl, ?_⟩) (by assumption) ?_
  rotate_left
  · (intro w hSw; (try dsimp only at hSw); go_simp; try with_reducible rfl)
  try simp only [List.getElem_toArray, List.getElem_cons_zero, List.getElem_cons_succ, Act.put, List.setIfInBounds_toArray, List.set_cons_zero, List.set_cons_succ]
  refine wpAnyH_take (i := 1) (oi := _) (v := ?_) rfl (by kernel_rfl) (by kernel_rfl) (by kernel_rfl) (fun _ _ _ h => h) (Or.inl ⟨by rfl, ?_⟩) (by assumption) ?_
  rotate_left
  · (intro w hSw; (try dsimp only at hSw); go_simp; try with_reducible rfl)
  try simp only [List.getElem_toArray, List.getElem_cons_zero, List.getElem_cons_succ, Act.put, List.setIfInBounds_toArray, List.set_cons_zero, List.set_cons_succ]
  refine wpAnyH_take (i := 2) (oi := _) (v := ?_) rfl (by kernel_rfl) (by kernel_rfl) (by kernel_rfl) (fun _ _ _ h => h) (Or.inl ⟨by rfl, ?_⟩) (by assumption) ?_
  rotate_left
  · (intro w hSw; (try dsimp only at hSw); go_simp; try with_reducible rfl)
  try simp only [List.getElem_toArray, List.getElem_cons_zero, List.getElem_cons_succ, Act.put, List.setIfInBounds_toArray, List.set_cons_zero, List.set_cons_succ]
  refine wpAnyH_take (i := 3) (oi := _) (v := ?_) rfl (by kernel_rfl) (by kernel_rfl) (by kernel_rfl) (fun _ _ _ h => h) (Or.inl ⟨by rfl, ?_⟩) (by assumption) ?_
  rotate_left
  · (intro w hSw; (try dsimp only at hSw); go_simp; try with_reducible rfl)
  try simp only [List.getElem_toArray, List.getElem_cons_zero, List.getElem_cons_succ, Act.put, List.setIfInBounds_toArray, List.set_cons_zero, List.set_cons_succ]
  refine wpAnyH_take (i := 4) (oi := _) (v := ?_) rfl (by kernel_rfl) (by kernel_rfl) (by kernel_rfl) (fun _ _ _ h => h) (Or.inl ⟨by rfl, ?_⟩) (by assumption) ?_
  rotate_left
  · (intro w hSw; (try dsimp only at hSw); go_simp; try with_reducible rfl)
  try simp only [List.getElem_toArray, List.getElem_cons_zero, List.getElem_cons_succ, Act.put, List.setIfInBounds_toArray, List.set_cons_zero, List.set_cons_succ]
  refine wpAnyH_take (i := 5) (oi := _) (v := ?_) rfl (by kernel_rfl) (by kernel_rfl) (by kernel_rfl) (fun _ _ _ h => h) (Or.inl ⟨by rfl, ?_⟩) (by assumption) ?_
  rotate_left
  · (intro w hSw; (try dsimp only at hSw); go_simp; try with_reducible rfl)
  try simp only [List.getElem_toArray, List.getElem_cons_zero, List.getElem_cons_succ, Act.put, List.setIfInBounds_toArray, List.set_cons_zero, List.set_cons_succ]
  refine wpAnyH_take (i := 6) (oi := _) (v := ?_) rfl (by kernel_rfl) (by kernel_rfl) (by kernel_rfl) (fun _ _ _ h => h) (Or.inl ⟨by rfl, ?_⟩) (by assumption) ?_
  rotate_left
  · (intro w hSw; (try dsimp only at hSw); go_simp; try with_reducible rfl)
  try simp only [List.getElem_toArray, List.getElem_cons_zero, List.getElem_cons_succ, Act.put, List.setIfInBounds_toArray, List.set_cons_zero, List.set_cons_succ]
  refine wpAnyH_take (i := 7) (oi := _) (v := ?_) rfl (by kernel_rfl) (by kernel_rfl) (by kernel_rfl) (fun _ _ _ h => h) (Or.inl ⟨by rfl, ?_⟩) (by assumption) ?_
  rotate_left
  · (intro w hSw; (try dsimp only at hSw); go_simp; try with_reducible rfl)
  try simp only [List.getElem_toArray, List.getElem_cons_zero, List.getElem_cons_succ, Act.put, List.setIfInBounds_toArray, List.set_cons_zero, List.set_cons_succ]
  refine wpAnyH_take (i := 8) (oi := _) (v := ?_) rfl (by kernel_rfl) (by kernel_rfl) (by kernel_rfl) (fun _ _ _ h => h) (Or.inl ⟨by rfl, ?_⟩) (by assumption) ?_
  rotate_left
  · (intro w hSw; (try dsimp only at hSw); go_simp; try with_reducible rfl)
  try simp only [List.getElem_toArray, List.getElem_cons_zero, List.getElem_cons_succ, Act.put, List.setIfInBounds_toArray, List.set_cons_zero, List.set_cons_succ]
  refine wpAnyH_take (i := 10) (oi := _) (v := ?_) rfl (by kernel_rfl) (by kernel_rfl) (by kernel_rfl) (fun _ _ _ h => h) (Or.inl ⟨by rfl, ?_⟩) (by assumption) ?_
  rotate_left
  · (intro w hSw; (try dsimp only at hSw); go_simp; try with_reducible rfl)
  try simp only [List.getElem_toArray, List.getElem_cons_zero, List.getElem_cons_succ, Act.put, List.setIfInBounds_toArray, List.set_cons_zero, List.set_cons_succ]
  refine wpAnyH_take (i := 11) (oi := _) (v := ?_) rfl (by kernel_rfl) (by kernel_rfl) (by kernel_rfl) (fun _ _ _ h => h) (Or.inl ⟨by rfl, ?_⟩) (by assumption) ?_
  rotate_left
  · (intro w hSw; (try dsimp only at hSw); go_simp; try with_reducible rfl)
  try simp only [List.getElem_toArray, List.getElem_cons_zero, List.getElem_cons_succ, Act.put, List.setIfInBounds_toArray, List.set_cons_zero, List.set_cons_succ]
  refine wpAnyH_take (i := 12) (oi := _) (v := ?_) rfl (by kernel_rfl) (by kernel_rfl) (by kernel_rfl) (fun _ _ _ h => h) (Or.inl ⟨by rfl, ?_⟩) (by assumption) ?_
  rotate_left
  · (intro w hSw; (try dsimp only at hSw); go_simp; try with_reducible rfl)
  try simp only [List.getElem_toArray, List.getElem_cons_zero, List.getElem_cons_succ, Act.put, List.setIfInBounds_toArray, List.set_cons_zero, List.set_cons_succ]
  refine wpAnyH_take (i := 13) (oi := _) (v := ?_) rfl (by kernel_rfl) (by kernel_rfl) (by kernel_rfl) (fun _ _ _ h => h) (Or.inl ⟨by rfl, ?_⟩) (by assumption) ?_
  rotate_left
  · (intro w hSw; (try dsimp only at hSw); go_simp; try with_reducible rfl)
  try simp only [List.getElem_toArray, List.getElem_cons_zero, List.getElem_cons_succ, Act.put, List.setIfInBounds_toArray, List.set_cons_zero, List.set_cons_succ]
  refine wpAnyH_take (i := 14) (oi := _) (v := ?_) rfl (by kernel_rfl) (by kernel_rfl) (by kernel_rfl) (fun _ _ _ h => h) (Or.inl ⟨by rfl, ?_⟩) (by assumption) ?_
  rotate_left
  · (intro w hSw; (try dsimp only at hSw); go_simp; try with_reducible rfl)
  try simp only [List.getElem_toArray, List.getElem_cons_zero, List.getElem_cons_succ, Act.put, List.setIfInBounds_toArray, List.set_cons_zero, List.set_cons_succ]
  refine wpAnyH_take (i := 15) (oi := _) (v := ?_) rfl (by kernel_rfl) (by kernel_rfl) (by kernel_rfl) (fun _ _ _ h => h) (Or.inl ⟨by rfl, ?_⟩) (by assumption) ?_
  rotate_left
  · (intro w hSw; (try dsimp only at hSw); go_simp; try with_reducible rfl)
  try simp only [List.getElem_toArray, List.getElem_cons_zero, List.getElem_cons_succ, Act.put, List.setIfInBounds_toArray, List.set_cons_zero, List.set_cons_succ]
  refine wpAnyH_take (i := 16) (oi := _) (v := ?_) rfl (by kernel_rfl) (by kernel_rfl) (by kernel_rfl) (fun _ _ _ h => h) (Or.inl ⟨by rfl, ?_⟩) (by assumption) ?_
  rotate_left
  · (intro w hSw; (try dsimp only at hSw); go_simp; try with_reducible rfl)
  try simp only [List.getElem_toArray, List.getElem_cons_zero, List.getElem_cons_succ, Act.put, List.setIfInBounds_toArray, List.set_cons_zero, List.set_cons_succ]
  refine wpAnyH_take (i := 17) (oi := _) (v := ?_) rfl (by kernel_rfl) (by kernel_rfl) (by kernel_rfl) (fun _ _ _ h => h) (Or.inl ⟨by rfl, ?_⟩) (by assumption) ?_
  rotate_left
  · (intro w hSw; (try dsimp only at hSw); go_simp; try with_reducible rfl)
  try simp only [List.getElem_toArray, List.getElem_cons_zero, List.getElem_cons_succ, Act.put, List.setIfInBounds_toArray, List.set_cons_zero, List.set_cons_succ]
  refine wpAnyH_take (i := 18) (oi := _) (v := ?_) rfl (by kernel_rfl) (by kernel_rfl) (by kernel_rfl) (fun _ _ _ h => h) (Or.inl ⟨by rfl, ?_⟩) (by assumption) ?_
  rotate_left
  · (intro w hSw; (try dsimp only at hSw); go_simp; try with_reducible rfl)
  try simp only [List.getElem_toArray, List.getElem_cons_zero, List.getElem_cons_succ, Act.put, List.setIfInBounds_toArray, List.set_cons_zero, List.set_cons_succ]
  refine wpAnyH_ready (rs := [9]) (by kernel_rfl) (by simp) ?_
  refine AllReadyH.cons (o := _) rfl (fun K hK => ?_) AllReadyH.nil
  go_simp
  refine (HA.out _).mono ?_
  rintro e w2 ⟨rfl, hb2⟩
  have HX : Below w1.heap.size w1 w2 := bel_trans_drew (Below.refl w1.heap.size w1) hb2 (Nat.le_refl _)
  refine hK.out _ _ ?_ (fun hHeld => ?_)
  · exact ⟨C.bel HX (by omega), D.bel HX (by omega)⟩
  clear hK K
  try simp only [List.getElem_toArray, List.getElem_cons_zero, List.getElem_cons_succ, Act.put, List.setIfInBounds_toArray, List.set_cons_zero, List.set_cons_succ]
  refine wpAnyH_take (i := 19) (oi := _) (v := ?_) rfl (by kernel_rfl) (by kernel_rfl) (by kernel_rfl) (fun _ _ _ h => h) (Or.inl ⟨by rfl, ?_⟩) (by assumption) ?_
  rotate_left
  · (intro w hSw; (try dsimp only at hSw); go_simp; try with_reducible rfl)
  try simp only [List.getElem_toArray, List.getElem_cons_zero, List.getElem_cons_succ, Act.put, List.setIfInBounds_toArray, List.set_cons_zero, List.set_cons_succ]
  refine wpAnyH_take (i := 20) (oi := _) (v := ?_) rfl (by kernel_rfl) (by kernel_rfl) (by kernel_rfl) (fun _ _ _ h => h) (Or.inl ⟨by rfl, ?_⟩) (by assumption) ?_
  rotate_left
  · (intro w hSw; (try dsimp only at hSw); go_simp; try with_reducible rfl)
  try simp only [List.getElem_toArray, List.getElem_cons_zero, List.getElem_cons_succ, Act.put, List.setIfInBounds_toArray, List.set_cons_zero, List.set_cons_succ]
  refine wpAnyH_done (by kernel_rfl) ?_ _
  refine NoPanic.normal ?_
  obtain ⟨e0, e1, e2⟩ := D.bel HX (by omega)
  have fz2 := bel_froz HX _ (by simp; omega) fz
  clear d0 d1 d2 fz
  go_wp2_with fail
  go_ret
  exact ⟨rfl, w2, bel_trans HB (HX.mono (Nat.le_refl _)) (Nat.le_refl _), rfl⟩

set_option maxHeartbeats 4000000 in
set_option maxRecDepth 100000 in
theorem sFill_whole_f (b sw sh x0 y0 x1 y1 n : Nat) (v one : Int) (V : Value) (w : World) (hb : Blk w b 153 #[.int .i64 sw, .int .i64 sh, V]) (s1 : 1 ≤ sw) (s2 : sw ≤ 16) (s3 : 1 ≤ sh) (s4 : sh ≤ 16) (hn : sw * sh = n)
    (hx : x0 ≤ x1) (hx' : x1 < sw) (hy : y0 ≤ y1) (hy' : y1 < sh) (hv : MayV v) (ta : ∀ W : World, (Instr.typeAssert V 151 149 true).run Tryz.prog W = .ok (.tuple #[.int .i32 one, .bool false]) W) 
    (harea : ((((x1 : Int) - x0 + 1) * ((y1 : Int) - y0 + 1)) == (n : Int)) = true)   :
    Calls Tryz.prog 80 #[.pointer (some ⟨b, 0, none⟩), rectV x0 y0 x1 y1, .int .i64 v] w (fun e w' => e = .returned (.int .i64 0) ∧ ∃ w1, Below w.heap.size w w1 ∧ w' = w1.setCell ⟨b, 2, none⟩ (.iface 149 (.int .i32 v))) := by
  have hs := fun W hbW => scheck_any b sw sh V x0 y0 x1 y1 W hbW s2 s4
  rw [show withinZ x0 y0 x1 y1 sw sh = 0 from within_of ⟨by omega, by omega, by omega, by omega⟩ (by omega) (by omega) (by omega) (by omega) (by omega) (by omega)] at hs
  have HS := Lib.hid hs
  have hm := fun W => may_any v W
  rw [show decide (MayV v) = true from decide_eq_true hv] at hm
  have HM := Lib.hid hm
  have hA := fun W => Area_any x0 y0 x1 y1 W
  rw [show areaZ x0 y0 x1 y1 = ((x1 : Int) - x0 + 1) * ((y1 : Int) - y0 + 1) by
    unfold areaZ; rw [if_pos ((right_iff _ _ _ _).2 ⟨by omega, by omega, by omega, by omega, by omega, by omega⟩)]] at hA
  have HA := Lib.hid hA
  have hlt := hb.lt
  have HBK := Lib.hid hb
  have HN := Lib.hid hn
  have n1 : 1 ≤ n := by rw [← hn]; exact Nat.mul_pos s1 s3
  have n2 : n ≤ 256 := by rw [← hn]; exact Nat.mul_le_mul s2 s4
  have W1 : IntKind.i64.wrap ((sw : Int) * (sh : Int)) = (n : Int) := by
    rw [show (sw : Int) * (sh : Int) = ((sw * sh : Nat) : Int) by simp, hn]
    exact IntWalk.i64_in _ (by omega)
  have W2 := i32_wrap v hv
  have HV := Lib.hid hv
  obtain ⟨ar, har⟩ : ∃ ar, ((x1 : Int) - x0 + 1) * ((y1 : Int) - y0 + 1) = ar := ⟨_, rfl⟩
  rw [har] at HA harea
  clear hs hm hA hb hn har hv
  go_enter Tryz.func80, Tryz.ntmps80
  go_wp2_with fail
  refine (HS.out _ (HBK.out.alloc _)).mono ?_
  rintro e w1 ⟨rfl, hb1⟩
  have HB1 : Below (w.heap.size + 1) (w.alloc (.cells #[.int .i64 x0, .int .i64 y0, .int .i64 x1, .int .i64 y1] 107)) w1 := by simpa using hb1
  have hz1 : w.heap.size + 1 ≤ w1.heap.size := by have := HB1.size; simpa using this
  have BB := (HBK.out.alloc (.cells #[.int .i64 x0, .int .i64 y0, .int .i64 x1, .int .i64 y1] 107)).below HB1 (by omega)
  have BC := (Blk.new w 107 #[.int .i64 x0, .int .i64 y0, .int .i64 x1, .int .i64 y1]).below HB1 (by omega)
  have D : Box3 w1 b (.int .i64 sw) (.int .i64 sh) V := ⟨BB.cell 0, BB.cell 1, BB.cell 2⟩
  have C : Box4 w1 w.heap.size (.int .i64 x0) (.int .i64 y0) (.int .i64 x1) (.int .i64 y1) := ⟨BC.cell 0, BC.cell 1, BC.cell 2, BC.cell 3⟩
  have HB : Below w.heap.size w w1 := (new_bel w _).trans (HB1.mono (by omega))
  clear hb1 HS HB1
  go_wp2_with fail
  refine (HM.out _).mono ?_
  rintro e w2 ⟨rfl, rfl⟩
  obtain ⟨d0, d1, d2⟩ := id D
  have fz := BB.frozen 2
  go_wp2_with fail
  refine wp_region_noPanic ?_
  refine wp_region_held_drew (S := (fun W => (W.cell? ⟨w.heap.size, 0, none⟩ = some (.int .i64 x0) ∧ W.cell? ⟨w.heap.size, 1, none⟩ = some (.int .i64 y0) ∧ W.cell? ⟨w.heap.size, 2, none⟩ = some (.int .i64 x1) ∧ W.cell? ⟨w.heap.size, 3, none⟩ = some (.int .i64 y1)) ∧ (W.cell? ⟨b, 0, none⟩ = some (.int .i64 sw) ∧ W.cell? ⟨b, 1, none⟩ = some (.int .i64 sh) ∧ W.cell? ⟨b, 2, none⟩ = some V))) (by kernel_rfl) ?_ (fun hHeld => ?_)
  · exact ⟨C, D⟩
  refine wpAnyH_take (i := 0) (oi := _) (v := ?_) rfl (by kernel_rfl) (by kernel_rfl) (by kernel_rfl) (fun _ _ _ h => h) (Or.inl ⟨by rfl, ?_⟩) (by assumption) ?_
  rotate_left
  · (intro w hSw; (try dsimp only at hSw); go_simp; try with_reducible rfl)
  try simp only [List.getElem_toArray, List.getElem_cons_zero, List.getElem_cons_succ, Act.put, List.setIfInBounds_toArray, List.set_cons_zero, List.set_cons_succ]
  refine wpAnyH_take (i := 1) (oi := _) (v := ?_) rfl (by kernel_rfl) (by kernel_rfl) (by kernel_rfl) (fun _ _ _ h => h) (Or.inl ⟨by rfl, ?_⟩) (by assumption) ?_
  rotate_left
  · (intro w hSw; (try dsimp only at hSw); go_simp; try with_reducible rfl)
  try simp only [List.getElem_toArray, List.getElem_cons_zero, List.getElem_cons_succ, Act.put, List.setIfInBounds_toArray, List.set_cons_zero, List.set_cons_succ]
  refine wpAnyH_take (i := 2) (oi := _) (v := undef) rfl (by kernel_rfl) (by kernel_rfl) (by kernel_rfl) (fun _ _ _ h => h) (Or.inr ⟨by rfl, rfl⟩) (by assumption) ?_
  try simp only [List.getElem_toArray, List.getElem_cons_zero, List.getElem_cons_succ, Act.put, List.setIfInBounds_toArray, List.set_cons_zero, List.set_cons_succ]
  refine wpAnyH_take (i := 3) (oi := _) (v := undef) rfl (by kernel_rfl) (by kernel_rfl) (by kernel_rfl) (fun _ _ _ h => h) (Or.inr ⟨by rfl, rfl⟩) (by assumption) ?_
  try simp only [List.getElem_toArray, List.getElem_cons_zero, List.getElem_cons_succ, Act.put, List.setIfInBounds_toArray, List.set_cons_zero, List.set_cons_succ]
  refine wpAnyH_take (i := 4) (oi := _) (v := undef) rfl (by kernel_rfl) (by kernel_rfl) (by kernel_rfl) (fun _ _ _ h => h) (Or.inr ⟨by rfl, rfl⟩) (by assumption) ?_
  try simp only [List.getElem_toArray, List.getElem_cons_zero, List.getElem_cons_succ, Act.put, List.setIfInBounds_toArray, List.set_cons_zero, List.set_cons_succ]
  refine wpAnyH_take (i := 5) (oi := _) (v := undef) rfl (by kernel_rfl) (by kernel_rfl) (by kernel_rfl) (fun _ _ _ h => h) (Or.inr ⟨by rfl, rfl⟩) (by assumption) ?_
  try simp only [List.getElem_toArray, List.getElem_cons_zero, List.getElem_cons_succ, Act.put, List.setIfInBounds_toArray, List.set_cons_zero, List.set_cons_succ]
  refine wpAnyH_take (i := 6) (oi := _) (v := ?_) rfl (by kernel_rfl) (by kernel_rfl) (by kernel_rfl) (fun _ _ _ h => h) (Or.inl ⟨by rfl, ?_⟩) (by assumption) ?_
  rotate_left
  · (intro w hSw; (try dsimp only at hSw); go_simp; try with_reducible rfl)
  try simp only [List.getElem_toArray, List.getElem_cons_zero, List.getElem_cons_succ, Act.put, List.setIfInBounds_toArray, List.set_cons_zero, List.set_cons_succ]
  refine wpAnyH_take (i := 7) (oi := _) (v := ?_) rfl (by kernel_rfl) (by kernel_rfl) (by kernel_rfl) (fun _ _ _ h => h) (Or.inl ⟨by rfl, ?_⟩) (by assumption) ?_
  rotate_left
  · (intro w hSw; (try dsimp only at hSw); go_simp; try with_reducible rfl)
  try simp only [List.getElem_toArray, List.getElem_cons_zero, List.getElem_cons_succ, Act.put, List.setIfInBounds_toArray, List.set_cons_zero, List.set_cons_succ]
  refine wpAnyH_take (i := 8) (oi := _) (v := ?_) rfl (by kernel_rfl) (by kernel_rfl) (by kernel_rfl) (fun _ _ _ h => h) (Or.inl ⟨by rfl, ?_⟩) (by assumption) ?_
  rotate_left
  · (intro w hSw; (try dsimp only at hSw); go_simp; try with_reducible rfl)
  try simp only [List.getElem_toArray, List.getElem_cons_zero, List.getElem_cons_succ, Act.put, List.setIfInBounds_toArray, List.set_cons_zero, List.set_cons_succ]
  refine wpAnyH_take (i := 10) (oi := _) (v := ?_) rfl (by kernel_rfl) (by kernel_rfl) (by kernel_rfl) (fun _ _ _ h => h) (Or.inl ⟨by rfl, ?_⟩) (by assumption) ?_
  rotate_left
  · (intro w hSw; (try dsimp only at hSw); go_simp; try with_reducible rfl)
  try simp only [List.getElem_toArray, List.getElem_cons_zero, List.getElem_cons_succ, Act.put, List.setIfInBounds_toArray, List.set_cons_zero, List.set_cons_succ]
  refine wpAnyH_take (i := 11) (oi := _) (v := ?_) rfl (by kernel_rfl) (by kernel_rfl) (by kernel_rfl) (fun _ _ _ h => h) (Or.inl ⟨by rfl, ?_⟩) (by assumption) ?_
  rotate_left
  · (intro w hSw; (try dsimp only at hSw); go_simp; try with_reducible rfl)
  try simp only [List.getElem_toArray, List.getElem_cons_zero, List.getElem_cons_succ, Act.put, List.setIfInBounds_toArray, List.set_cons_zero, List.set_cons_succ]
  refine wpAnyH_take (i := 12) (oi := _) (v := ?_) rfl (by kernel_rfl) (by kernel_rfl) (by kernel_rfl) (fun _ _ _ h => h) (Or.inl ⟨by rfl, ?_⟩) (by assumption) ?_
  rotate_left
  · (intro w hSw; (try dsimp only at hSw); go_simp; try with_reducible rfl)
  try simp only [List.getElem_toArray, List.getElem_cons_zero, List.getElem_cons_succ, Act.put, List.setIfInBounds_toArray, List.set_cons_zero, List.set_cons_succ]
  refine wpAnyH_take (i := 13) (oi := _) (v := ?_) rfl (by kernel_rfl) (by kernel_rfl) (by kernel_rfl) (fun _ _ _ h => h) (Or.inl ⟨by rfl, ?_⟩) (by assumption) ?_
  rotate_left
  · (intro w hSw; (try dsimp only at hSw); go_simp; try with_reducible rfl)
  try simp only [List.getElem_toArray, List.getElem_cons_zero, List.getElem_cons_succ, Act.put, List.setIfInBounds_toArray, List.set_cons_zero, List.set_cons_succ]
  refine wpAnyH_take (i := 14) (oi := _) (v := ?_) rfl (by kernel_rfl) (by kernel_rfl) (by kernel_rfl) (fun _ _ _ h => h) (Or.inl ⟨by rfl, ?_⟩) (by assumption) ?_
  rotate_left
  · (intro w hSw; (try dsimp only at hSw); go_simp; try with_reducible rfl)
  try simp only [List.getElem_toArray, List.getElem_cons_zero, List.getElem_cons_succ, Act.put, List.setIfInBounds_toArray, List.set_cons_zero, List.set_cons_succ]
  refine wpAnyH_take (i := 15) (oi := _) (v := ?_) rfl (by kernel_rfl) (by kernel_rfl) (by kernel_rfl) (fun _ _ _ h => h) (Or.inl ⟨by rfl, ?_⟩) (by assumption) ?_
  rotate_left
  · (intro w hSw; (try dsimp only at hSw); go_simp; try with_reducible rfl)
  try simp only [List.getElem_toArray, List.getElem_cons_zero, List.getElem_cons_succ, Act.put, List.setIfInBounds_toArray, List.set_cons_zero, List.set_cons_succ]
  refine wpAnyH_take (i := 16) (oi := _) (v := ?_) rfl (by kernel_rfl) (by kernel_rfl) (by kernel_rfl) (fun _ _ _ h => h) (Or.inl ⟨by rfl, ?_⟩) (by assumption) ?_
  rotate_left
  · (intro w hSw; (try dsimp only at hSw); go_simp; try with_reducible rfl)
  try simp only [List.getElem_toArray, List.getElem_cons_zero, List.getElem_cons_succ, Act.put, List.setIfInBounds_toArray, List.set_cons_zero, List.set_cons_succ]
  refine wpAnyH_take (i := 17) (oi := _) (v := ?_) rfl (by kernel_rfl) (by kernel_rfl) (by kernel_rfl) (fun _ _ _ h => h) (Or.inl ⟨by rfl, ?_⟩) (by assumption) ?_
  rotate_left
  · (intro w hSw; (try dsimp only at hSw); go_simp; try with_reducible rfl)
  try simp only [List.getElem_toArray, List.getElem_cons_zero, List.getElem_cons_succ, Act.put, List.setIfInBounds_toArray, List.set_cons_zero, List.set_cons_succ]
  refine wpAnyH_take (i := 18) (oi := _) (v := ?_) rfl (by kernel_rfl) (by kernel_rfl) (by kernel_rfl) (fun _ _ _ h => h) (Or.inl ⟨by rfl, ?_⟩) (by assumption) ?_
  rotate_left
  · (intro w hSw; (try dsimp only at hSw); go_simp; try with_reducible rfl)
  try simp only [List.getElem_toArray, List.getElem_cons_zero, List.getElem_cons_succ, Act.put, List.setIfInBounds_toArray, List.set_cons_zero, List.set_cons_succ]
  refine wpAnyH_ready (rs := [9]) (by kernel_rfl) (by simp) ?_
  refine AllReadyH.cons (o := _) rfl (fun K hK => ?_) AllReadyH.nil
  go_simp
  refine (HA.out _).mono ?_
  rintro e w2 ⟨rfl, hb2⟩
  have HX : Below w1.heap.size w1 w2 := bel_trans_drew (Below.refl w1.heap.size w1) hb2 (Nat.le_refl _)
  refine hK.out _ _ ?_ (fun hHeld => ?_)
  · exact ⟨C.bel HX (by omega), D.bel HX (by omega)⟩
  clear hK K
  try simp only [List.getElem_toArray, List.getElem_cons_zero, List.getElem_cons_succ, Act.put, List.setIfInBounds_toArray, List.set_cons_zero, List.set_cons_succ]
  refine wpAnyH_take (i := 19) (oi := _) (v := ?_) rfl (by kernel_rfl) (by kernel_rfl) (by kernel_rfl) (fun _ _ _ h => h) (Or.inl ⟨by rfl, ?_⟩) (by assumption) ?_
  rotate_left
  · (intro w hSw; (try dsimp only at hSw); go_simp; try with_reducible rfl)
  try simp only [List.getElem_toArray, List.getElem_cons_zero, List.getElem_cons_succ, Act.put, List.setIfInBounds_toArray, List.set_cons_zero, List.set_cons_succ]
  refine wpAnyH_take (i := 20) (oi := _) (v := ?_) rfl (by kernel_rfl) (by kernel_rfl) (by kernel_rfl) (fun _ _ _ h => h) (Or.inl ⟨by rfl, ?_⟩) (by assumption) ?_
  rotate_left
  · (intro w hSw; (try dsimp only at hSw); go_simp; try with_reducible rfl)
  try simp only [List.getElem_toArray, List.getElem_cons_zero, List.getElem_cons_succ, Act.put, List.setIfInBounds_toArray, List.set_cons_zero, List.set_cons_succ]
  refine wpAnyH_done (by kernel_rfl) ?_ _
  refine NoPanic.normal ?_
  obtain ⟨e0, e1, e2⟩ := D.bel HX (by omega)
  have fz2 := bel_froz HX _ (by simp; omega) fz
  clear d0 d1 d2 fz
  go_wp2_with fail
  go_ret
  exact ⟨rfl, w2, bel_trans HB (HX.mono (Nat.le_refl _)) (Nat.le_refl _), rfl⟩
end Go.Proofs.YtojlgfkjnkjcmaaGreatDoor

