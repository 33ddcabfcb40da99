/-
  hachurelaw15.TierSpans: the walk, from what the calls return.
-/
import Derived.Test.YtgelgkgmgjhmnaaTierAwake
import Derived.Test.YtgelgkgmgjhmnaaBlk
import Derived.Test.YtgelgkgmgjhmnaaSameCells
import Derived.Deep.QuietTactic
import Derived.BigQuiet
import Derived.Deep.RegionHeld3
import Derived.Deep.DrawnRows
namespace Go.Proofs.Ytgelgkgmgjhmnaa
open Go.RowKit
set_option linter.unusedVariables false
set_option linter.unusedSimpArgs false

theorem cel_own {w : World} {base g : Nat} {e : TypeId} {c n : Nat} {l : List (Int × Int)} (h : w.ownsRow base e 2 (.slice (some ⟨g, 0, none⟩) n c) n (cel l)) (i : Nat) (hi : i < l.length) :
    w.cell? ⟨g, i * 2, none⟩ = some (.int .i64 l[i].1) ∧ w.cell? ⟨g, i * 2 + 1, none⟩ = some (.int .i64 l[i].2) := by
  have hat := cel_at l i hi
  have h1 := h.cells (g := g) rfl _ _ hat.1
  have h2 := h.cells (g := g) rfl _ _ hat.2
  rw [add_plain, Nat.zero_add] at h1 h2
  exact ⟨h1, h2⟩

set_option maxHeartbeats 8000000 in
set_option maxRecDepth 100000 in
theorem spans_core (a b k x y dx dy r0 r1 r2 r3 z kz u a0 a1 : Int) (L : List (Int × Int)) (N p : Nat) (hb0 : Bool) (w : World) (hk : -9223372036854775808 ≤ k) (hk' : k ≤ 9223372036854775807) (hN : N ≤ 11) (hL : L.length ≤ 8)
    (HP : Hid (max 0 (min k ((N : Int) - 1)) = (p : Int)))
    (HS : Hid (∀ W, Calls Try.prog 25 #[.int .i64 a, .int .i64 b, .int .i64 k, .agg #[.int .i64 x, .int .i64 y]] W fun e w' => e = .returned (.tuple #[.agg #[.int .i64 r0, .int .i64 r1, .int .i64 r2, .int .i64 r3], .int .i64 z]) ∧ Below W.heap.size W w'))
    (HK : Hid (∀ W, Calls Try.prog 24 #[.int .i64 a, .int .i64 b, .int .i64 k, .agg #[.int .i64 x, .int .i64 y]] W fun e w' => ∃ A c, e = .returned (.tuple #[.slice A L.length c, .int .i64 kz]) ∧ w'.ownsRow W.heap.size 44 2 (.slice A L.length c) L.length (cel L) ∧ Below W.heap.size W w'))
    (HA : Hid (∀ W, Calls Try.prog 28 #[.int .i64 a, .int .i64 b, .int .i64 k, .agg #[.int .i64 dx, .int .i64 dy]] W fun e w' => e = .returned (.tuple #[.agg #[.int .i64 a0, .int .i64 a1], .int .i64 u]) ∧ Below W.heap.size W w'))
    (HZ : Hid (∀ W, Calls Try.prog 23 #[.int .i64 a, .int .i64 b] W fun e w' => ∃ A c, e = .returned (.slice A N c) ∧ Below W.heap.size W w'))
    (HM : Hid (∀ W, Calls Try.prog 29 #[.int .i64 a, .int .i64 b, .int .i64 k, .int .i64 p, .agg #[.int .i64 x, .int .i64 y]] W fun e w' => e = .returned (.int .i64 z) ∧ Below W.heap.size W w'))
    (HU : Hid (∀ W, Calls Try.prog 29 #[.int .i64 a, .int .i64 b, .int .i64 k, .int .i64 0, .agg #[.int .i64 dx, .int .i64 dy]] W fun e w' => e = .returned (.int .i64 u) ∧ Below W.heap.size W w'))
    (hz : z = 0 ∨ ((z == 0) = false ∧ r0 = 0 ∧ r1 = 0 ∧ r2 = 0 ∧ r3 = 0))
    (hu : u = 0 ∨ ((u == 0) = false ∧ a0 = 0 ∧ a1 = 0))
    (hkz : (kz = 0 ∧ z = 0 ∧ 1 ≤ k ∧ 0 < L.length) ∨ ((kz == 0) = false ∧ L = [] ∧ 1 ≤ k ∧ kz = z) ∨ (L = [] ∧ k < 1 ∧ z = 3 ∧ kz = 3) ∨ (L = [] ∧ k < 1 ∧ (z == 3) = false ∧ kz = 11))
    (HKK : Hid (kz = 0 → ∀ W, Calls Try.prog 31 #[.int .i64 a, .int .i64 b, .int .i64 k, .agg #[.int .i64 x, .int .i64 y]] W fun e w' => ∃ A c, e = .returned (.slice A L.length c) ∧ w'.ownsRow W.heap.size 44 2 (.slice A L.length c) L.length (cel L) ∧ Below W.heap.size W w'))
    (HAA : Hid (u = 0 → ∀ W, Calls Try.prog 32 #[.int .i64 k, .agg #[.int .i64 dx, .int .i64 dy]] W fun e w' => e = .returned (.agg #[.int .i64 a0, .int .i64 a1]) ∧ Below W.heap.size W w'))
    (HWI : Hid (z = 0 → u = 0 → ∀ W, Calls Try.prog 33 #[.agg #[.int .i64 r0, .int .i64 r1, .int .i64 r2, .int .i64 r3], .int .i64 a, .int .i64 b] W fun e w' => e = .returned (.int .i64 0) ∧ Below W.heap.size W w'))
    (HHA : Hid (z = 0 → u = 0 → ∀ W, Calls Try.prog 34 #[.agg #[.int .i64 r0, .int .i64 r1, .int .i64 r2, .int .i64 r3], .agg #[.int .i64 dx, .int .i64 dy]] W fun e w' => e = .returned (.bool hb0) ∧ Below W.heap.size W w'))
    (HHB : Hid (z = 0 → u = 0 → (hb0 = true ↔ (a0 = x ∧ a1 = y)))) :
    Calls Try.prog 9 #[.int .i64 a, .int .i64 b, .int .i64 k, .agg #[.int .i64 x, .int .i64 y], .agg #[.int .i64 dx, .int .i64 dy]] w fun e w' => e = .returned (.bool true) ∧ Below w.heap.size w w' := by
  go_enter Try.func9, Try.ntmps9
  go_wp2_with fail
  obtain ⟨W0, hW0⟩ : ∃ W, (w.alloc (.cells #[.int .i64 x, .int .i64 y] 44)).alloc (.cells #[.int .i64 dx, .int .i64 dy] 44) = W := ⟨_, rfl⟩
  rw [hW0]
  have kx0 : Blk W0 w.heap.size 44 #[Value.int .i64 x, Value.int .i64 y] := by rw [← hW0]; exact (Blk.new w 44 _).alloc _
  have kd0 : Blk W0 (w.heap.size + 1) 44 #[Value.int .i64 dx, Value.int .i64 dy] := by rw [← hW0]; exact Blk.new' _ 44 _ (by simp)
  have HB0 : Below w.heap.size w W0 := by rw [← hW0]; exact ((Below.refl _ _).alloc (Nat.le_refl _) _).alloc (by simp) _
  clear hW0
  obtain ⟨B0, e0⟩ : ∃ g, w.heap.size = g := ⟨_, rfl⟩
  rw [e0] at kx0 kd0 ⊢
  clear e0
  obtain ⟨B1, e1⟩ : ∃ g, B0 + 1 = g := ⟨_, rfl⟩
  rw [e1] at kd0 ⊢
  clear e1
  refine (tierAwake _).mono ?_
  rintro e w1 ⟨rfl, hb1⟩
  have kx1 := kx0.kept hb1
  have kd1 := kd0.kept hb1
  have HB1 : Below w.heap.size w w1 := HB0.trans (hb1.mono HB0.size)
  clear kx0 kd0 hb1 HB0
  have cx := kx1.cell
  have cd := kd1.cell
  go_wp2_with fail
  refine (HS.out _).mono ?_
  rintro e w2 ⟨rfl, hb2⟩
  have kx2 := kx1.kept hb2
  have kd2 := kd1.kept hb2
  have HB2 : Below w.heap.size w w2 := HB1.trans (hb2.mono HB1.size)
  clear kx1 kd1 hb2 HB1 cx cd
  have cx := kx2.alloc (.cells #[Value.int .i64 r0, Value.int .i64 r1, Value.int .i64 r2, Value.int .i64 r3] 49) |>.cell
  have cd := kd2.alloc (.cells #[Value.int .i64 r0, Value.int .i64 r1, Value.int .i64 r2, Value.int .i64 r3] 49) |>.cell
  go_wp2_with fail
  obtain ⟨W2, hW2⟩ : ∃ W, w2.alloc (.cells #[Value.int .i64 r0, Value.int .i64 r1, Value.int .i64 r2, Value.int .i64 r3] 49) = W := ⟨_, rfl⟩
  rw [hW2]
  have kx3 : Blk W2 B0 44 #[Value.int .i64 x, Value.int .i64 y] := by rw [← hW2]; exact kx2.alloc _
  have kd3 : Blk W2 B1 44 #[Value.int .i64 dx, Value.int .i64 dy] := by rw [← hW2]; exact kd2.alloc _
  have kr3 : Blk W2 w2.heap.size 49 #[Value.int .i64 r0, Value.int .i64 r1, Value.int .i64 r2, Value.int .i64 r3] := by rw [← hW2]; exact Blk.new _ _ _
  have HB3 : Below w.heap.size w W2 := by rw [← hW2]; exact HB2.alloc HB2.size _
  clear hW2 kx2 kd2 HB2 cx cd
  obtain ⟨B2, e2⟩ : ∃ g, w2.heap.size = g := ⟨_, rfl⟩
  rw [e2] at kr3 ⊢
  clear e2
  refine (HK.out _).mono ?_
  rintro e w3 ⟨A, c, rfl, hown3, hb3⟩
  have kx4 := kx3.kept hb3
  have kd4 := kd3.kept hb3
  have kr4 := kr3.kept hb3
  have HB4 : Below w.heap.size w w3 := HB3.trans (hb3.mono HB3.size)
  clear kx3 kd3 kr3 hb3 
  have cd := kd4.cell
  go_wp2_with fail
  refine (HA.out _).mono ?_
  rintro e w4 ⟨rfl, hb4⟩
  have hown4 := ownsRow_below hown3 hb4 (Nat.le_refl _)
  have kx5 := kx4.kept hb4
  have kd5 := kd4.kept hb4
  have kr5 := kr4.kept hb4
  have HB5 : Below w.heap.size w w4 := HB4.trans (hb4.mono HB4.size)
  clear kx4 kd4 kr4 hb4 hown3 HB4 cd
  go_wp2_with fail
  obtain ⟨W4, hW4⟩ : ∃ W, w4.alloc (.cells #[Value.int .i64 a0, Value.int .i64 a1] 44) = W := ⟨_, rfl⟩
  rw [hW4]
  have kx6 : Blk W4 B0 44 #[Value.int .i64 x, Value.int .i64 y] := by rw [← hW4]; exact kx5.alloc _
  have kd6 : Blk W4 B1 44 #[Value.int .i64 dx, Value.int .i64 dy] := by rw [← hW4]; exact kd5.alloc _
  have kr6 : Blk W4 B2 49 #[Value.int .i64 r0, Value.int .i64 r1, Value.int .i64 r2, Value.int .i64 r3] := by rw [← hW4]; exact kr5.alloc _
  have kq6 : Blk W4 w4.heap.size 44 #[Value.int .i64 a0, Value.int .i64 a1] := by rw [← hW4]; exact Blk.new _ _ _
  have HB6 : Below w.heap.size w W4 := by rw [← hW4]; exact HB5.alloc HB5.size _
  have hown6 : W4.ownsRow W2.heap.size 44 2 (.slice A L.length c) L.length (cel L) := by rw [← hW4]; exact hown4.alloc _
  clear hW4 kx5 kd5 kr5 HB5 hown4
  obtain ⟨B3, e3⟩ : ∃ g, w4.heap.size = g := ⟨_, rfl⟩
  rw [e3] at kq6 ⊢
  clear e3
  have HB6d : Below w.heap.size w W4.drew := HB6.drew
  refine wp_region_noPanic ?_
  refine wp_region_held_drew (S := fun W : World => (∀ i, W.cell? ⟨B0, i, none⟩ = (#[Value.int .i64 x, Value.int .i64 y] : Array Value)[i]?)) (by kernel_rfl) ?_ (fun hHeld => ?_)
  · exact kx6.cell
  refine wpAnyH_take (i := 0) (oi := _) (v := ?_) rfl (by kernel_rfl) (by kernel_rfl) (by kernel_rfl) (fun _ _ _ h => h) (Or.inl ⟨by rfl, ?_⟩) (by assumption) ?_
  rotate_left
  · (intro w hSw; (try dsimp only at hSw); go_simp; try with_reducible rfl)
  try simp only [List.getElem_toArray, List.getElem_cons_zero, List.getElem_cons_succ, Act.put, List.setIfInBounds_toArray, List.set_cons_zero, List.set_cons_succ]
  refine wpAnyH_take (i := 1) (oi := _) (v := ?_) rfl (by kernel_rfl) (by kernel_rfl) (by kernel_rfl) (fun _ _ _ h => h) (Or.inl ⟨by rfl, ?_⟩) (by assumption) ?_
  rotate_left
  · (intro w hSw; (try dsimp only at hSw); go_simp; try with_reducible rfl)
  try simp only [List.getElem_toArray, List.getElem_cons_zero, List.getElem_cons_succ, Act.put, List.setIfInBounds_toArray, List.set_cons_zero, List.set_cons_succ]
  refine wpAnyH_take (i := 2) (oi := _) (v := ?_) rfl (by kernel_rfl) (by kernel_rfl) (by kernel_rfl) (fun _ _ _ h => h) (Or.inl ⟨by rfl, ?_⟩) (by assumption) ?_
  rotate_left
  · (intro w hSw; (try dsimp only at hSw); go_simp; try with_reducible rfl)
  try simp only [List.getElem_toArray, List.getElem_cons_zero, List.getElem_cons_succ, Act.put, List.setIfInBounds_toArray, List.set_cons_zero, List.set_cons_succ]
  refine wpAnyH_take (i := 3) (oi := _) (v := ?_) rfl (by kernel_rfl) (by kernel_rfl) (by kernel_rfl) (fun _ _ _ h => h) (Or.inl ⟨by rfl, ?_⟩) (by assumption) ?_
  rotate_left
  · (intro w hSw; (try dsimp only at hSw); go_simp; try with_reducible rfl)
  try simp only [List.getElem_toArray, List.getElem_cons_zero, List.getElem_cons_succ, Act.put, List.setIfInBounds_toArray, List.set_cons_zero, List.set_cons_succ]
  refine wpAnyH_take (i := 4) (oi := _) (v := ?_) rfl (by kernel_rfl) (by kernel_rfl) (by kernel_rfl) (fun _ _ _ h => h) (Or.inl ⟨by rfl, ?_⟩) (by assumption) ?_
  rotate_left
  · (intro w hSw; (try dsimp only at hSw); go_simp; try with_reducible rfl)
  try simp only [List.getElem_toArray, List.getElem_cons_zero, List.getElem_cons_succ, Act.put, List.setIfInBounds_toArray, List.set_cons_zero, List.set_cons_succ]
  refine wpAnyH_take (i := 5) (oi := _) (v := ?_) rfl (by kernel_rfl) (by kernel_rfl) (by kernel_rfl) (fun _ _ _ h => h) (Or.inl ⟨by rfl, ?_⟩) (by assumption) ?_
  rotate_left
  · (intro w hSw; (try dsimp only at hSw); go_simp; try with_reducible rfl)
  try simp only [List.getElem_toArray, List.getElem_cons_zero, List.getElem_cons_succ, Act.put, List.setIfInBounds_toArray, List.set_cons_zero, List.set_cons_succ]
  refine wpAnyH_take (i := 11) (oi := _) (v := ?_) rfl (by kernel_rfl) (by kernel_rfl) (by kernel_rfl) (fun _ _ _ h => h) (Or.inl ⟨by rfl, ?_⟩) (by assumption) ?_
  rotate_left
  · (intro w hSw; (try dsimp only at hSw); go_simp; try with_reducible rfl)
  try simp only [List.getElem_toArray, List.getElem_cons_zero, List.getElem_cons_succ, Act.put, List.setIfInBounds_toArray, List.set_cons_zero, List.set_cons_succ]
  refine wpAnyH_ready (rs := [6]) (by kernel_rfl) (by simp) ?_
  refine AllReadyH.cons (o := _) rfl (fun K hK => ?_) AllReadyH.nil
  go_simp
  refine (HZ.out _).mono ?_
  rintro e6 w6 ⟨A6, c6, rfl, hb6⟩
  have kx7 := (kx6.drew).kept hb6
  go_wp2_with fail
  refine hK.out _ _ ?_ (fun hHeld => ?_)
  · exact kx7.cell
  clear hK K
  try simp only [List.getElem_toArray, List.getElem_cons_zero, List.getElem_cons_succ, Act.put, List.setIfInBounds_toArray, List.set_cons_zero, List.set_cons_succ]
  refine wpAnyH_ready (rs := [7]) (by kernel_rfl) (by simp) ?_
  refine AllReadyH.cons (o := _) rfl (fun K hK => ?_) AllReadyH.nil
  go_simp
  go_wp2_with fail
  refine hK.out _ _ ?_ (fun hHeld => ?_)
  · exact kx7.cell
  clear hK K
  try simp only [List.getElem_toArray, List.getElem_cons_zero, List.getElem_cons_succ, Act.put, List.setIfInBounds_toArray, List.set_cons_zero, List.set_cons_succ]
  refine wpAnyH_take (i := 8) (oi := _) (v := ?_) rfl (by kernel_rfl) (by kernel_rfl) (by kernel_rfl) (fun _ _ _ h => h) (Or.inl ⟨by rfl, ?_⟩) (by assumption) ?_
  rotate_left
  · (intro w hSw; (try dsimp only at hSw); go_simp; try with_reducible rfl)
  try simp only [List.getElem_toArray, List.getElem_cons_zero, List.getElem_cons_succ, Act.put, List.setIfInBounds_toArray, List.set_cons_zero, List.set_cons_succ]
  refine wpAnyH_ready (rs := [9]) (by kernel_rfl) (by simp) ?_
  refine AllReadyH.cons (o := _) rfl (fun K hK => ?_) AllReadyH.nil
  go_simp
  go_wp2_with fail
  refine hK.out _ _ ?_ (fun hHeld => ?_)
  · exact kx7.cell
  clear hK K
  try simp only [List.getElem_toArray, List.getElem_cons_zero, List.getElem_cons_succ, Act.put, List.setIfInBounds_toArray, List.set_cons_zero, List.set_cons_succ]
  refine wpAnyH_ready (rs := [10]) (by kernel_rfl) (by simp) ?_
  refine AllReadyH.cons (o := _) rfl (fun K hK => ?_) AllReadyH.nil
  go_simp
  go_wp2_with fail
  refine hK.out _ _ ?_ (fun hHeld => ?_)
  · exact kx7.cell
  clear hK K
  try simp only [List.getElem_toArray, List.getElem_cons_zero, List.getElem_cons_succ, Act.put, List.setIfInBounds_toArray, List.set_cons_zero, List.set_cons_succ]
  refine wpAnyH_ready (rs := [12]) (by kernel_rfl) (by simp) ?_
  refine AllReadyH.cons (o := _) rfl (fun K hK => ?_) AllReadyH.nil
  go_simp
  rw [IntWalk.i64_in ((N : Int) - 1) (by omega), HP.out]
  refine (HM.out _).mono ?_
  rintro e7 w7 ⟨rfl, hb7⟩
  have kx8 := kx7.kept hb7
  go_wp2_with fail
  refine hK.out _ _ ?_ (fun hHeld => ?_)
  · exact kx8.cell
  clear hK K
  try simp only [List.getElem_toArray, List.getElem_cons_zero, List.getElem_cons_succ, Act.put, List.setIfInBounds_toArray, List.set_cons_zero, List.set_cons_succ]
  refine wpAnyH_take (i := 13) (oi := _) (v := ?_) rfl (by kernel_rfl) (by kernel_rfl) (by kernel_rfl) (fun _ _ _ h => h) (Or.inl ⟨by rfl, ?_⟩) (by assumption) ?_
  rotate_left
  · (intro w hSw; (try dsimp only at hSw); go_simp; try with_reducible rfl)
  try simp only [List.getElem_toArray, List.getElem_cons_zero, List.getElem_cons_succ, Act.put, List.setIfInBounds_toArray, List.set_cons_zero, List.set_cons_succ]
  refine wpAnyH_done (by kernel_rfl) ?_ _
  refine NoPanic.normal ?_
  have hb67 : Below W4.drew.heap.size W4.drew w7 := hb6.trans (hb7.mono hb6.size)
  have kd8 := kd6.drew.kept hb67
  have kr8 := kr6.drew.kept hb67
  have kq8 := kq6.drew.kept hb67
  have HB8 : Below w.heap.size w w7 := HB6d.trans (hb67.mono HB6d.size)
  have hown8 := ownsRow_below (show W4.drew.ownsRow _ _ _ _ _ _ from hown6) hb67 (Nat.le_refl _)
  clear kx6 kd6 kr6 kq6 kx7 hb6 hb7 hb67 HB6 HB6d hHeld hown6 HB3
  rcases hkz with ⟨k1, k2, k3, hLp⟩ | ⟨k1, k2, k3, k4⟩ | ⟨k1, k2, k3, k4⟩ | ⟨k1, k2, k3, k4⟩
  · subst k1 k2
    clear hz
    have HKK1 := Lib.hid (HKK.out rfl); clear HKK
    rcases hu with rfl | ⟨u0, rfl, rfl⟩
    · have HAA1 := Lib.hid (HAA.out rfl); clear HAA
      have HWI1 := Lib.hid (HWI.out rfl rfl); clear HWI
      have HHA1 := Lib.hid (HHA.out rfl rfl); clear HHA
      have HHB1 := Lib.hid (HHB.out rfl rfl); clear HHB
      have cd := kd8.cell
      have d8 : decide (k < 1) = false := by rw [decide_eq_false_iff_not]; omega
      go_wp2_with fail
      clear cd
      refine (HU.out _).mono ?_
      rintro e w9 ⟨rfl, hb9⟩
      have kx9 := kx8.kept hb9
      have kd9 := kd8.kept hb9
      have kr9 := kr8.kept hb9
      have kq9 := kq8.kept hb9
      have hown9 := ownsRow_below hown8 hb9 (Nat.le_refl _)
      have HB9 : Below w.heap.size w w9 := HB8.trans (hb9.mono HB8.size)
      clear kx8 kd8 kr8 kq8 hb9 HB8 hown8 d8
      have cx := kx9.cell
      have cd := kd9.cell
      have cr := kr9.cell
      have cq := kq9.cell
      go_wp2_with fail
      refine (HKK1.out _).mono ?_
      rintro e w10 ⟨A10, c10, rfl, hown10, hb10⟩
      have kx10 := kx9.kept hb10
      have kd10 := kd9.kept hb10
      have kr10 := kr9.kept hb10
      have kq10 := kq9.kept hb10
      have hownA := ownsRow_below hown9 hb10 (Nat.le_refl _)
      have HB10 : Below w.heap.size w w10 := HB9.trans (hb10.mono HB9.size)
      clear kx9 kd9 kr9 kq9 HB9 hb10 cx cd cr cq
      obtain ⟨g1, cap1, hv1, _⟩ := hownA.form hLp
      obtain rfl : A = some ⟨g1, 0, none⟩ := by injection hv1
      obtain ⟨g2, cap2, hv2, _⟩ := hown10.form hLp
      obtain rfl : A10 = some ⟨g2, 0, none⟩ := by injection hv2
      clear hv1 hv2
      go_wp2_with fail
      refine (SameCells_yes g1 g2 c c10 L _ (by omega) (cel_own hownA) (cel_own hown10)).mono ?_
      rintro e w11 ⟨rfl, n11, rfl⟩
      clear hownA hown10 hown9
      have kx11 := kx10.drewN n11
      have kd11 := kd10.drewN n11
      have kr11 := kr10.drewN n11
      have kq11 := kq10.drewN n11
      have HB11 : Below w.heap.size w (w10.drewN n11) := bel_drewN HB10 _
      obtain ⟨w12, hw12⟩ : ∃ W, w10.drewN n11 = W := ⟨_, rfl⟩
      rw [hw12] at kx11 kd11 kr11 kq11 HB11 ⊢
      clear hw12 kx10 kd10 kr10 kq10 HB10
      have cx := kx11.cell
      have cd := kd11.cell
      have cr := kr11.cell
      have cq := kq11.cell
      go_wp2_with fail
      clear cx cd cr cq
      refine wp_region_noPanic ?_
      refine wp_region_held_drew (S := fun W : World => (∀ i, W.cell? ⟨B1, i, none⟩ = (#[Value.int .i64 dx, Value.int .i64 dy] : Array Value)[i]?) ∧ (∀ i, W.cell? ⟨B3, i, none⟩ = (#[Value.int .i64 a0, Value.int .i64 a1] : Array Value)[i]?)) (by kernel_rfl) ?_ (fun hHeld => ?_)
      · exact ⟨kd11.cell, kq11.cell⟩
      refine wpAnyH_take (i := 0) (oi := _) (v := ?_) rfl (by kernel_rfl) (by kernel_rfl) (by kernel_rfl) (fun _ _ _ h => h) (Or.inl ⟨by rfl, ?_⟩) (by assumption) ?_
      rotate_left
      · (intro w hSw; (try dsimp only at hSw); go_simp; try with_reducible rfl)
      try simp only [List.getElem_toArray, List.getElem_cons_zero, List.getElem_cons_succ, Act.put, List.setIfInBounds_toArray, List.set_cons_zero, List.set_cons_succ]
      refine wpAnyH_take (i := 1) (oi := _) (v := ?_) rfl (by kernel_rfl) (by kernel_rfl) (by kernel_rfl) (fun _ _ _ h => h) (Or.inl ⟨by rfl, ?_⟩) (by assumption) ?_
      rotate_left
      · (intro w hSw; (try dsimp only at hSw); go_simp; try with_reducible rfl)
      try simp only [List.getElem_toArray, List.getElem_cons_zero, List.getElem_cons_succ, Act.put, List.setIfInBounds_toArray, List.set_cons_zero, List.set_cons_succ]
      refine wpAnyH_take (i := 2) (oi := _) (v := ?_) rfl (by kernel_rfl) (by kernel_rfl) (by kernel_rfl) (fun _ _ _ h => h) (Or.inl ⟨by rfl, ?_⟩) (by assumption) ?_
      rotate_left
      · (intro w hSw; (try dsimp only at hSw); go_simp; try with_reducible rfl)
      try simp only [List.getElem_toArray, List.getElem_cons_zero, List.getElem_cons_succ, Act.put, List.setIfInBounds_toArray, List.set_cons_zero, List.set_cons_succ]
      refine wpAnyH_take (i := 3) (oi := _) (v := ?_) rfl (by kernel_rfl) (by kernel_rfl) (by kernel_rfl) (fun _ _ _ h => h) (Or.inl ⟨by rfl, ?_⟩) (by assumption) ?_
      rotate_left
      · (intro w hSw; (try dsimp only at hSw); go_simp; try with_reducible rfl)
      try simp only [List.getElem_toArray, List.getElem_cons_zero, List.getElem_cons_succ, Act.put, List.setIfInBounds_toArray, List.set_cons_zero, List.set_cons_succ]
      refine wpAnyH_take (i := 4) (oi := _) (v := ?_) rfl (by kernel_rfl) (by kernel_rfl) (by kernel_rfl) (fun _ _ _ h => h) (Or.inl ⟨by rfl, ?_⟩) (by assumption) ?_
      rotate_left
      · (intro w hSw; (try dsimp only at hSw); go_simp; try with_reducible rfl)
      try simp only [List.getElem_toArray, List.getElem_cons_zero, List.getElem_cons_succ, Act.put, List.setIfInBounds_toArray, List.set_cons_zero, List.set_cons_succ]
      refine wpAnyH_take (i := 5) (oi := _) (v := ?_) rfl (by kernel_rfl) (by kernel_rfl) (by kernel_rfl) (fun _ _ _ h => h) (Or.inl ⟨by rfl, ?_⟩) (by assumption) ?_
      rotate_left
      · (intro w hSw; (try dsimp only at hSw); go_simp; try with_reducible rfl)
      try simp only [List.getElem_toArray, List.getElem_cons_zero, List.getElem_cons_succ, Act.put, List.setIfInBounds_toArray, List.set_cons_zero, List.set_cons_succ]
      refine wpAnyH_ready (rs := [6]) (by kernel_rfl) (by simp) ?_
      refine AllReadyH.cons (o := _) rfl (fun K hK => ?_) AllReadyH.nil
      go_simp
      refine (HAA1.out _).mono ?_
      rintro e12 w13 ⟨rfl, hb13⟩
      have kq13 := (kq11.drew).kept hb13
      have kd13 := (kd11.drew).kept hb13
      go_wp2_with fail
      refine hK.out _ _ ?_ (fun hHeld => ?_)
      · exact ⟨kd13.cell, kq13.cell⟩
      clear hK K
      try simp only [List.getElem_toArray, List.getElem_cons_zero, List.getElem_cons_succ, Act.put, List.setIfInBounds_toArray, List.set_cons_zero, List.set_cons_succ]
      refine wpAnyH_take (i := 7) (oi := _) (v := ?_) rfl (by kernel_rfl) (by kernel_rfl) (by kernel_rfl) (fun _ _ _ h => h) (Or.inl ⟨by rfl, ?_⟩) (by assumption) ?_
      rotate_left
      · (intro w hSw; (try dsimp only at hSw); go_simp; try with_reducible rfl)
      try simp only [List.getElem_toArray, List.getElem_cons_zero, List.getElem_cons_succ, Act.put, List.setIfInBounds_toArray, List.set_cons_zero, List.set_cons_succ]
      refine wpAnyH_take (i := 8) (oi := _) (v := ?_) rfl (by kernel_rfl) (by kernel_rfl) (by kernel_rfl) (fun _ _ _ h => h) (Or.inl ⟨by rfl, ?_⟩) (by assumption) ?_
      rotate_left
      · (intro w hSw; (try dsimp only at hSw); go_simp; try with_reducible rfl)
      try simp only [List.getElem_toArray, List.getElem_cons_zero, List.getElem_cons_succ, Act.put, List.setIfInBounds_toArray, List.set_cons_zero, List.set_cons_succ]
      refine wpAnyH_done (by kernel_rfl) ?_ _
      refine NoPanic.normal ?_
      have kx13 := (kx11.drew).kept hb13
      have kr13 := (kr11.drew).kept hb13
      have HB13 : Below w.heap.size w w13 := (HB11.drew).trans (hb13.mono HB11.drew.size)
      clear kx11 kd11 kr11 kq11 HB11 hb13 hHeld
      have cx := kx13.cell
      have cd := kd13.cell
      have cr := kr13.cell
      have cq := kq13.cell
      go_wp2_with fail
      clear cx cd cr cq
      have H3 : (a0 = x ∧ a1 = y ∧ hb0 = true) ∨ (a0 = x ∧ ¬ a1 = y ∧ hb0 = false) ∨ (¬ a0 = x ∧ hb0 = false) := by
        have hq := HHB1.out
        by_cases q0 : a0 = x
        · by_cases q1 : a1 = y
          · exact .inl ⟨q0, q1, hq.2 ⟨q0, q1⟩⟩
          · exact .inr (.inl ⟨q0, q1, by rw [Bool.eq_false_iff]; exact fun h => q1 (hq.1 h).2⟩)
        · exact .inr (.inr ⟨q0, by rw [Bool.eq_false_iff]; exact fun h => q0 (hq.1 h).1⟩)
      clear HHB1
      rcases H3 with ⟨q0, q1, rfl⟩ | ⟨q0, q1, rfl⟩ | ⟨q0, rfl⟩
      · refine wp_region_noPanic ?_
        refine wp_region_held_drew (S := fun W : World => (∀ i, W.cell? ⟨B0, i, none⟩ = (#[Value.int .i64 x, Value.int .i64 y] : Array Value)[i]?) ∧ (∀ i, W.cell? ⟨B1, i, none⟩ = (#[Value.int .i64 dx, Value.int .i64 dy] : Array Value)[i]?) ∧ (∀ i, W.cell? ⟨B2, i, none⟩ = (#[Value.int .i64 r0, Value.int .i64 r1, Value.int .i64 r2, Value.int .i64 r3] : Array Value)[i]?) ∧ (∀ i, W.cell? ⟨B3, i, none⟩ = (#[Value.int .i64 a0, Value.int .i64 a1] : Array Value)[i]?)) (by kernel_rfl) ?_ (fun hHeld => ?_)
        · exact ⟨kx13.cell, kd13.cell, kr13.cell, kq13.cell⟩
        refine wpAnyH_take (i := 0) (oi := _) (v := ?_) rfl (by kernel_rfl) (by kernel_rfl) (by kernel_rfl) (fun _ _ _ h => h) (Or.inl ⟨by rfl, ?_⟩) (by assumption) ?_
        rotate_left
        · (intro w hSw; (try dsimp only at hSw); go_simp; try with_reducible rfl)
        try simp only [List.getElem_toArray, List.getElem_cons_zero, List.getElem_cons_succ, Act.put, List.setIfInBounds_toArray, List.set_cons_zero, List.set_cons_succ]
        refine wpAnyH_take (i := 1) (oi := _) (v := ?_) rfl (by kernel_rfl) (by kernel_rfl) (by kernel_rfl) (fun _ _ _ h => h) (Or.inl ⟨by rfl, ?_⟩) (by assumption) ?_
        rotate_left
        · (intro w hSw; (try dsimp only at hSw); go_simp; try with_reducible rfl)
        try simp only [List.getElem_toArray, List.getElem_cons_zero, List.getElem_cons_succ, Act.put, List.setIfInBounds_toArray, List.set_cons_zero, List.set_cons_succ]
        refine wpAnyH_take (i := 2) (oi := _) (v := ?_) rfl (by kernel_rfl) (by kernel_rfl) (by kernel_rfl) (fun _ _ _ h => h) (Or.inl ⟨by rfl, ?_⟩) (by assumption) ?_
        rotate_left
        · (intro w hSw; (try dsimp only at hSw); go_simp; try with_reducible rfl)
        try simp only [List.getElem_toArray, List.getElem_cons_zero, List.getElem_cons_succ, Act.put, List.setIfInBounds_toArray, List.set_cons_zero, List.set_cons_succ]
        refine wpAnyH_ready (rs := [3]) (by kernel_rfl) (by simp) ?_
        refine AllReadyH.cons (o := _) rfl (fun K hK => ?_) AllReadyH.nil
        go_simp
        refine (HWI1.out _).mono ?_
        rintro e14 w14 ⟨rfl, hb14⟩
        have kx14 := (kx13.drew).kept hb14
        have kd14 := (kd13.drew).kept hb14
        have kr14 := (kr13.drew).kept hb14
        have kq14 := (kq13.drew).kept hb14
        go_wp2_with fail
        refine hK.out _ _ ?_ (fun hHeld => ?_)
        · exact ⟨kx14.cell, kd14.cell, kr14.cell, kq14.cell⟩
        clear hK K
        try simp only [List.getElem_toArray, List.getElem_cons_zero, List.getElem_cons_succ, Act.put, List.setIfInBounds_toArray, List.set_cons_zero, List.set_cons_succ]
        refine wpAnyH_take (i := 4) (oi := _) (v := ?_) rfl (by kernel_rfl) (by kernel_rfl) (by kernel_rfl) (fun _ _ _ h => h) (Or.inl ⟨by rfl, ?_⟩) (by assumption) ?_
        rotate_left
        · (intro w hSw; (try dsimp only at hSw); go_simp; try with_reducible rfl)
        try simp only [List.getElem_toArray, List.getElem_cons_zero, List.getElem_cons_succ, Act.put, List.setIfInBounds_toArray, List.set_cons_zero, List.set_cons_succ]
        refine wpAnyH_take (i := 5) (oi := _) (v := ?_) rfl (by kernel_rfl) (by kernel_rfl) (by kernel_rfl) (fun _ _ _ h => h) (Or.inl ⟨by rfl, ?_⟩) (by assumption) ?_
        rotate_left
        · (intro w hSw; (try dsimp only at hSw); go_simp; try with_reducible rfl)
        try simp only [List.getElem_toArray, List.getElem_cons_zero, List.getElem_cons_succ, Act.put, List.setIfInBounds_toArray, List.set_cons_zero, List.set_cons_succ]
        refine wpAnyH_take (i := 6) (oi := _) (v := ?_) rfl (by kernel_rfl) (by kernel_rfl) (by kernel_rfl) (fun _ _ _ h => h) (Or.inl ⟨by rfl, ?_⟩) (by assumption) ?_
        rotate_left
        · (intro w hSw; (try dsimp only at hSw); go_simp; try with_reducible rfl)
        try simp only [List.getElem_toArray, List.getElem_cons_zero, List.getElem_cons_succ, Act.put, List.setIfInBounds_toArray, List.set_cons_zero, List.set_cons_succ]
        refine wpAnyH_take (i := 7) (oi := _) (v := ?_) rfl (by kernel_rfl) (by kernel_rfl) (by kernel_rfl) (fun _ _ _ h => h) (Or.inl ⟨by rfl, ?_⟩) (by assumption) ?_
        rotate_left
        · (intro w hSw; (try dsimp only at hSw); go_simp; try with_reducible rfl)
        try simp only [List.getElem_toArray, List.getElem_cons_zero, List.getElem_cons_succ, Act.put, List.setIfInBounds_toArray, List.set_cons_zero, List.set_cons_succ]
        refine wpAnyH_take (i := 9) (oi := _) (v := ?_) rfl (by kernel_rfl) (by kernel_rfl) (by kernel_rfl) (fun _ _ _ h => h) (Or.inl ⟨by rfl, ?_⟩) (by assumption) ?_
        rotate_left
        · (intro w hSw; (try dsimp only at hSw); go_simp; try with_reducible rfl)
        try simp only [List.getElem_toArray, List.getElem_cons_zero, List.getElem_cons_succ, Act.put, List.setIfInBounds_toArray, List.set_cons_zero, List.set_cons_succ]
        refine wpAnyH_take (i := 10) (oi := _) (v := ?_) rfl (by kernel_rfl) (by kernel_rfl) (by kernel_rfl) (fun _ _ _ h => h) (Or.inl ⟨by rfl, ?_⟩) (by assumption) ?_
        rotate_left
        · (intro w hSw; (try dsimp only at hSw); go_simp; try with_reducible rfl)
        try simp only [List.getElem_toArray, List.getElem_cons_zero, List.getElem_cons_succ, Act.put, List.setIfInBounds_toArray, List.set_cons_zero, List.set_cons_succ]
        refine wpAnyH_take (i := 11) (oi := _) (v := ?_) rfl (by kernel_rfl) (by kernel_rfl) (by kernel_rfl) (fun _ _ _ h => h) (Or.inl ⟨by rfl, ?_⟩) (by assumption) ?_
        rotate_left
        · (intro w hSw; (try dsimp only at hSw); go_simp; try with_reducible rfl)
        try simp only [List.getElem_toArray, List.getElem_cons_zero, List.getElem_cons_succ, Act.put, List.setIfInBounds_toArray, List.set_cons_zero, List.set_cons_succ]
        refine wpAnyH_ready (rs := [8]) (by kernel_rfl) (by simp) ?_
        refine AllReadyH.cons (o := _) rfl (fun K hK => ?_) AllReadyH.nil
        go_simp
        refine (HHA1.out _).mono ?_
        rintro e15 w15 ⟨rfl, hb15⟩
        have kx15 := kx14.kept hb15
        have kd15 := kd14.kept hb15
        have kr15 := kr14.kept hb15
        have kq15 := kq14.kept hb15
        go_wp2_with fail
        refine hK.out _ _ ?_ (fun hHeld => ?_)
        · exact ⟨kx15.cell, kd15.cell, kr15.cell, kq15.cell⟩
        clear hK K
        try simp only [List.getElem_toArray, List.getElem_cons_zero, List.getElem_cons_succ, Act.put, List.setIfInBounds_toArray, List.set_cons_zero, List.set_cons_succ]
        refine wpAnyH_take (i := 12) (oi := _) (v := ?_) rfl (by kernel_rfl) (by kernel_rfl) (by kernel_rfl) (fun _ _ _ h => h) (Or.inl ⟨by rfl, ?_⟩) (by assumption) ?_
        rotate_left
        · (intro w hSw; (try dsimp only at hSw); go_simp; try with_reducible rfl)
        try simp only [List.getElem_toArray, List.getElem_cons_zero, List.getElem_cons_succ, Act.put, List.setIfInBounds_toArray, List.set_cons_zero, List.set_cons_succ]
        refine wpAnyH_take (i := 13) (oi := _) (v := ?_) rfl (by kernel_rfl) (by kernel_rfl) (by kernel_rfl) (fun _ _ _ h => h) (Or.inl ⟨by rfl, ?_⟩) (by assumption) ?_
        rotate_left
        · (intro w hSw; (try dsimp only at hSw); go_simp; try with_reducible rfl)
        try simp only [List.getElem_toArray, List.getElem_cons_zero, List.getElem_cons_succ, Act.put, List.setIfInBounds_toArray, List.set_cons_zero, List.set_cons_succ]
        refine wpAnyH_take (i := 14) (oi := _) (v := ?_) rfl (by kernel_rfl) (by kernel_rfl) (by kernel_rfl) (fun _ _ _ h => h) (Or.inl ⟨by rfl, ?_⟩) (by assumption) ?_
        rotate_left
        · (intro w hSw; (try dsimp only at hSw); go_simp; try with_reducible rfl)
        try simp only [List.getElem_toArray, List.getElem_cons_zero, List.getElem_cons_succ, Act.put, List.setIfInBounds_toArray, List.set_cons_zero, List.set_cons_succ]
        refine wpAnyH_done (by kernel_rfl) ?_ _
        refine NoPanic.normal ?_
        have HB15 : Below w.heap.size w w15 := ((HB13.drew).trans (hb14.mono HB13.drew.size)).trans (hb15.mono (Nat.le_trans HB13.drew.size hb14.size))
        go_wp2_with fail
        go_ret
        exact ⟨rfl, HB15⟩
      · refine wp_region_noPanic ?_
        refine wp_region_held_drew (S := fun W : World => (∀ i, W.cell? ⟨B0, i, none⟩ = (#[Value.int .i64 x, Value.int .i64 y] : Array Value)[i]?) ∧ (∀ i, W.cell? ⟨B1, i, none⟩ = (#[Value.int .i64 dx, Value.int .i64 dy] : Array Value)[i]?) ∧ (∀ i, W.cell? ⟨B2, i, none⟩ = (#[Value.int .i64 r0, Value.int .i64 r1, Value.int .i64 r2, Value.int .i64 r3] : Array Value)[i]?) ∧ (∀ i, W.cell? ⟨B3, i, none⟩ = (#[Value.int .i64 a0, Value.int .i64 a1] : Array Value)[i]?)) (by kernel_rfl) ?_ (fun hHeld => ?_)
        · exact ⟨kx13.cell, kd13.cell, kr13.cell, kq13.cell⟩
        refine wpAnyH_take (i := 0) (oi := _) (v := ?_) rfl (by kernel_rfl) (by kernel_rfl) (by kernel_rfl) (fun _ _ _ h => h) (Or.inl ⟨by rfl, ?_⟩) (by assumption) ?_
        rotate_left
        · (intro w hSw; (try dsimp only at hSw); go_simp; try with_reducible rfl)
        try simp only [List.getElem_toArray, List.getElem_cons_zero, List.getElem_cons_succ, Act.put, List.setIfInBounds_toArray, List.set_cons_zero, List.set_cons_succ]
        refine wpAnyH_take (i := 1) (oi := _) (v := ?_) rfl (by kernel_rfl) (by kernel_rfl) (by kernel_rfl) (fun _ _ _ h => h) (Or.inl ⟨by rfl, ?_⟩) (by assumption) ?_
        rotate_left
        · (intro w hSw; (try dsimp only at hSw); go_simp; try with_reducible rfl)
        try simp only [List.getElem_toArray, List.getElem_cons_zero, List.getElem_cons_succ, Act.put, List.setIfInBounds_toArray, List.set_cons_zero, List.set_cons_succ]
        refine wpAnyH_take (i := 2) (oi := _) (v := ?_) rfl (by kernel_rfl) (by kernel_rfl) (by kernel_rfl) (fun _ _ _ h => h) (Or.inl ⟨by rfl, ?_⟩) (by assumption) ?_
        rotate_left
        · (intro w hSw; (try dsimp only at hSw); go_simp; try with_reducible rfl)
        try simp only [List.getElem_toArray, List.getElem_cons_zero, List.getElem_cons_succ, Act.put, List.setIfInBounds_toArray, List.set_cons_zero, List.set_cons_succ]
        refine wpAnyH_ready (rs := [3]) (by kernel_rfl) (by simp) ?_
        refine AllReadyH.cons (o := _) rfl (fun K hK => ?_) AllReadyH.nil
        go_simp
        refine (HWI1.out _).mono ?_
        rintro e14 w14 ⟨rfl, hb14⟩
        have kx14 := (kx13.drew).kept hb14
        have kd14 := (kd13.drew).kept hb14
        have kr14 := (kr13.drew).kept hb14
        have kq14 := (kq13.drew).kept hb14
        go_wp2_with fail
        refine hK.out _ _ ?_ (fun hHeld => ?_)
        · exact ⟨kx14.cell, kd14.cell, kr14.cell, kq14.cell⟩
        clear hK K
        try simp only [List.getElem_toArray, List.getElem_cons_zero, List.getElem_cons_succ, Act.put, List.setIfInBounds_toArray, List.set_cons_zero, List.set_cons_succ]
        refine wpAnyH_take (i := 4) (oi := _) (v := ?_) rfl (by kernel_rfl) (by kernel_rfl) (by kernel_rfl) (fun _ _ _ h => h) (Or.inl ⟨by rfl, ?_⟩) (by assumption) ?_
        rotate_left
        · (intro w hSw; (try dsimp only at hSw); go_simp; try with_reducible rfl)
        try simp only [List.getElem_toArray, List.getElem_cons_zero, List.getElem_cons_succ, Act.put, List.setIfInBounds_toArray, List.set_cons_zero, List.set_cons_succ]
        refine wpAnyH_take (i := 5) (oi := _) (v := ?_) rfl (by kernel_rfl) (by kernel_rfl) (by kernel_rfl) (fun _ _ _ h => h) (Or.inl ⟨by rfl, ?_⟩) (by assumption) ?_
        rotate_left
        · (intro w hSw; (try dsimp only at hSw); go_simp; try with_reducible rfl)
        try simp only [List.getElem_toArray, List.getElem_cons_zero, List.getElem_cons_succ, Act.put, List.setIfInBounds_toArray, List.set_cons_zero, List.set_cons_succ]
        refine wpAnyH_take (i := 6) (oi := _) (v := ?_) rfl (by kernel_rfl) (by kernel_rfl) (by kernel_rfl) (fun _ _ _ h => h) (Or.inl ⟨by rfl, ?_⟩) (by assumption) ?_
        rotate_left
        · (intro w hSw; (try dsimp only at hSw); go_simp; try with_reducible rfl)
        try simp only [List.getElem_toArray, List.getElem_cons_zero, List.getElem_cons_succ, Act.put, List.setIfInBounds_toArray, List.set_cons_zero, List.set_cons_succ]
        refine wpAnyH_take (i := 7) (oi := _) (v := ?_) rfl (by kernel_rfl) (by kernel_rfl) (by kernel_rfl) (fun _ _ _ h => h) (Or.inl ⟨by rfl, ?_⟩) (by assumption) ?_
        rotate_left
        · (intro w hSw; (try dsimp only at hSw); go_simp; try with_reducible rfl)
        try simp only [List.getElem_toArray, List.getElem_cons_zero, List.getElem_cons_succ, Act.put, List.setIfInBounds_toArray, List.set_cons_zero, List.set_cons_succ]
        refine wpAnyH_take (i := 9) (oi := _) (v := ?_) rfl (by kernel_rfl) (by kernel_rfl) (by kernel_rfl) (fun _ _ _ h => h) (Or.inl ⟨by rfl, ?_⟩) (by assumption) ?_
        rotate_left
        · (intro w hSw; (try dsimp only at hSw); go_simp; try with_reducible rfl)
        try simp only [List.getElem_toArray, List.getElem_cons_zero, List.getElem_cons_succ, Act.put, List.setIfInBounds_toArray, List.set_cons_zero, List.set_cons_succ]
        refine wpAnyH_take (i := 10) (oi := _) (v := ?_) rfl (by kernel_rfl) (by kernel_rfl) (by kernel_rfl) (fun _ _ _ h => h) (Or.inl ⟨by rfl, ?_⟩) (by assumption) ?_
        rotate_left
        · (intro w hSw; (try dsimp only at hSw); go_simp; try with_reducible rfl)
        try simp only [List.getElem_toArray, List.getElem_cons_zero, List.getElem_cons_succ, Act.put, List.setIfInBounds_toArray, List.set_cons_zero, List.set_cons_succ]
        refine wpAnyH_take (i := 11) (oi := _) (v := ?_) rfl (by kernel_rfl) (by kernel_rfl) (by kernel_rfl) (fun _ _ _ h => h) (Or.inl ⟨by rfl, ?_⟩) (by assumption) ?_
        rotate_left
        · (intro w hSw; (try dsimp only at hSw); go_simp; try with_reducible rfl)
        try simp only [List.getElem_toArray, List.getElem_cons_zero, List.getElem_cons_succ, Act.put, List.setIfInBounds_toArray, List.set_cons_zero, List.set_cons_succ]
        refine wpAnyH_ready (rs := [8]) (by kernel_rfl) (by simp) ?_
        refine AllReadyH.cons (o := _) rfl (fun K hK => ?_) AllReadyH.nil
        go_simp
        refine (HHA1.out _).mono ?_
        rintro e15 w15 ⟨rfl, hb15⟩
        have kx15 := kx14.kept hb15
        have kd15 := kd14.kept hb15
        have kr15 := kr14.kept hb15
        have kq15 := kq14.kept hb15
        go_wp2_with fail
        refine hK.out _ _ ?_ (fun hHeld => ?_)
        · exact ⟨kx15.cell, kd15.cell, kr15.cell, kq15.cell⟩
        clear hK K
        try simp only [List.getElem_toArray, List.getElem_cons_zero, List.getElem_cons_succ, Act.put, List.setIfInBounds_toArray, List.set_cons_zero, List.set_cons_succ]
        refine wpAnyH_take (i := 12) (oi := _) (v := ?_) rfl (by kernel_rfl) (by kernel_rfl) (by kernel_rfl) (fun _ _ _ h => h) (Or.inl ⟨by rfl, ?_⟩) (by assumption) ?_
        rotate_left
        · (intro w hSw; (try dsimp only at hSw); go_simp; try with_reducible rfl)
        try simp only [List.getElem_toArray, List.getElem_cons_zero, List.getElem_cons_succ, Act.put, List.setIfInBounds_toArray, List.set_cons_zero, List.set_cons_succ]
        refine wpAnyH_take (i := 13) (oi := _) (v := ?_) rfl (by kernel_rfl) (by kernel_rfl) (by kernel_rfl) (fun _ _ _ h => h) (Or.inl ⟨by rfl, ?_⟩) (by assumption) ?_
        rotate_left
        · (intro w hSw; (try dsimp only at hSw); go_simp; try with_reducible rfl)
        try simp only [List.getElem_toArray, List.getElem_cons_zero, List.getElem_cons_succ, Act.put, List.setIfInBounds_toArray, List.set_cons_zero, List.set_cons_succ]
        refine wpAnyH_take (i := 14) (oi := _) (v := ?_) rfl (by kernel_rfl) (by kernel_rfl) (by kernel_rfl) (fun _ _ _ h => h) (Or.inl ⟨by rfl, ?_⟩) (by assumption) ?_
        rotate_left
        · (intro w hSw; (try dsimp only at hSw); go_simp; try with_reducible rfl)
        try simp only [List.getElem_toArray, List.getElem_cons_zero, List.getElem_cons_succ, Act.put, List.setIfInBounds_toArray, List.set_cons_zero, List.set_cons_succ]
        refine wpAnyH_done (by kernel_rfl) ?_ _
        refine NoPanic.normal ?_
        have HB15 : Below w.heap.size w w15 := ((HB13.drew).trans (hb14.mono HB13.drew.size)).trans (hb15.mono (Nat.le_trans HB13.drew.size hb14.size))
        go_wp2_with fail
        go_ret
        exact ⟨rfl, HB15⟩
      · refine wp_region_noPanic ?_
        refine wp_region_held_drew (S := fun W : World => (∀ i, W.cell? ⟨B0, i, none⟩ = (#[Value.int .i64 x, Value.int .i64 y] : Array Value)[i]?) ∧ (∀ i, W.cell? ⟨B1, i, none⟩ = (#[Value.int .i64 dx, Value.int .i64 dy] : Array Value)[i]?) ∧ (∀ i, W.cell? ⟨B2, i, none⟩ = (#[Value.int .i64 r0, Value.int .i64 r1, Value.int .i64 r2, Value.int .i64 r3] : Array Value)[i]?) ∧ (∀ i, W.cell? ⟨B3, i, none⟩ = (#[Value.int .i64 a0, Value.int .i64 a1] : Array Value)[i]?)) (by kernel_rfl) ?_ (fun hHeld => ?_)
        · exact ⟨kx13.cell, kd13.cell, kr13.cell, kq13.cell⟩
        refine wpAnyH_take (i := 0) (oi := _) (v := ?_) rfl (by kernel_rfl) (by kernel_rfl) (by kernel_rfl) (fun _ _ _ h => h) (Or.inl ⟨by rfl, ?_⟩) (by assumption) ?_
        rotate_left
        · (intro w hSw; (try dsimp only at hSw); go_simp; try with_reducible rfl)
        try simp only [List.getElem_toArray, List.getElem_cons_zero, List.getElem_cons_succ, Act.put, List.setIfInBounds_toArray, List.set_cons_zero, List.set_cons_succ]
        refine wpAnyH_take (i := 1) (oi := _) (v := ?_) rfl (by kernel_rfl) (by kernel_rfl) (by kernel_rfl) (fun _ _ _ h => h) (Or.inl ⟨by rfl, ?_⟩) (by assumption) ?_
        rotate_left
        · (intro w hSw; (try dsimp only at hSw); go_simp; try with_reducible rfl)
        try simp only [List.getElem_toArray, List.getElem_cons_zero, List.getElem_cons_succ, Act.put, List.setIfInBounds_toArray, List.set_cons_zero, List.set_cons_succ]
        refine wpAnyH_take (i := 2) (oi := _) (v := ?_) rfl (by kernel_rfl) (by kernel_rfl) (by kernel_rfl) (fun _ _ _ h => h) (Or.inl ⟨by rfl, ?_⟩) (by assumption) ?_
        rotate_left
        · (intro w hSw; (try dsimp only at hSw); go_simp; try with_reducible rfl)
        try simp only [List.getElem_toArray, List.getElem_cons_zero, List.getElem_cons_succ, Act.put, List.setIfInBounds_toArray, List.set_cons_zero, List.set_cons_succ]
        refine wpAnyH_ready (rs := [3]) (by kernel_rfl) (by simp) ?_
        refine AllReadyH.cons (o := _) rfl (fun K hK => ?_) AllReadyH.nil
        go_simp
        refine (HWI1.out _).mono ?_
        rintro e14 w14 ⟨rfl, hb14⟩
        have kx14 := (kx13.drew).kept hb14
        have kd14 := (kd13.drew).kept hb14
        have kr14 := (kr13.drew).kept hb14
        have kq14 := (kq13.drew).kept hb14
        go_wp2_with fail
        refine hK.out _ _ ?_ (fun hHeld => ?_)
        · exact ⟨kx14.cell, kd14.cell, kr14.cell, kq14.cell⟩
        clear hK K
        try simp only [List.getElem_toArray, List.getElem_cons_zero, List.getElem_cons_succ, Act.put, List.setIfInBounds_toArray, List.set_cons_zero, List.set_cons_succ]
        refine wpAnyH_take (i := 4) (oi := _) (v := ?_) rfl (by kernel_rfl) (by kernel_rfl) (by kernel_rfl) (fun _ _ _ h => h) (Or.inl ⟨by rfl, ?_⟩) (by assumption) ?_
        rotate_left
        · (intro w hSw; (try dsimp only at hSw); go_simp; try with_reducible rfl)
        try simp only [List.getElem_toArray, List.getElem_cons_zero, List.getElem_cons_succ, Act.put, List.setIfInBounds_toArray, List.set_cons_zero, List.set_cons_succ]
        refine wpAnyH_take (i := 5) (oi := _) (v := ?_) rfl (by kernel_rfl) (by kernel_rfl) (by kernel_rfl) (fun _ _ _ h => h) (Or.inl ⟨by rfl, ?_⟩) (by assumption) ?_
        rotate_left
        · (intro w hSw; (try dsimp only at hSw); go_simp; try with_reducible rfl)
        try simp only [List.getElem_toArray, List.getElem_cons_zero, List.getElem_cons_succ, Act.put, List.setIfInBounds_toArray, List.set_cons_zero, List.set_cons_succ]
        refine wpAnyH_take (i := 6) (oi := _) (v := ?_) rfl (by kernel_rfl) (by kernel_rfl) (by kernel_rfl) (fun _ _ _ h => h) (Or.inl ⟨by rfl, ?_⟩) (by assumption) ?_
        rotate_left
        · (intro w hSw; (try dsimp only at hSw); go_simp; try with_reducible rfl)
        try simp only [List.getElem_toArray, List.getElem_cons_zero, List.getElem_cons_succ, Act.put, List.setIfInBounds_toArray, List.set_cons_zero, List.set_cons_succ]
        refine wpAnyH_take (i := 7) (oi := _) (v := ?_) rfl (by kernel_rfl) (by kernel_rfl) (by kernel_rfl) (fun _ _ _ h => h) (Or.inl ⟨by rfl, ?_⟩) (by assumption) ?_
        rotate_left
        · (intro w hSw; (try dsimp only at hSw); go_simp; try with_reducible rfl)
        try simp only [List.getElem_toArray, List.getElem_cons_zero, List.getElem_cons_succ, Act.put, List.setIfInBounds_toArray, List.set_cons_zero, List.set_cons_succ]
        refine wpAnyH_take (i := 9) (oi := _) (v := ?_) rfl (by kernel_rfl) (by kernel_rfl) (by kernel_rfl) (fun _ _ _ h => h) (Or.inl ⟨by rfl, ?_⟩) (by assumption) ?_
        rotate_left
        · (intro w hSw; (try dsimp only at hSw); go_simp; try with_reducible rfl)
        try simp only [List.getElem_toArray, List.getElem_cons_zero, List.getElem_cons_succ, Act.put, List.setIfInBounds_toArray, List.set_cons_zero, List.set_cons_succ]
        refine wpAnyH_take (i := 10) (oi := _) (v := ?_) rfl (by kernel_rfl) (by kernel_rfl) (by kernel_rfl) (fun _ _ _ h => h) (Or.inl ⟨by rfl, ?_⟩) (by assumption) ?_
        rotate_left
        · (intro w hSw; (try dsimp only at hSw); go_simp; try with_reducible rfl)
        try simp only [List.getElem_toArray, List.getElem_cons_zero, List.getElem_cons_succ, Act.put, List.setIfInBounds_toArray, List.set_cons_zero, List.set_cons_succ]
        refine wpAnyH_take (i := 11) (oi := _) (v := ?_) rfl (by kernel_rfl) (by kernel_rfl) (by kernel_rfl) (fun _ _ _ h => h) (Or.inl ⟨by rfl, ?_⟩) (by assumption) ?_
        rotate_left
        · (intro w hSw; (try dsimp only at hSw); go_simp; try with_reducible rfl)
        try simp only [List.getElem_toArray, List.getElem_cons_zero, List.getElem_cons_succ, Act.put, List.setIfInBounds_toArray, List.set_cons_zero, List.set_cons_succ]
        refine wpAnyH_ready (rs := [8]) (by kernel_rfl) (by simp) ?_
        refine AllReadyH.cons (o := _) rfl (fun K hK => ?_) AllReadyH.nil
        go_simp
        refine (HHA1.out _).mono ?_
        rintro e15 w15 ⟨rfl, hb15⟩
        have kx15 := kx14.kept hb15
        have kd15 := kd14.kept hb15
        have kr15 := kr14.kept hb15
        have kq15 := kq14.kept hb15
        go_wp2_with fail
        refine hK.out _ _ ?_ (fun hHeld => ?_)
        · exact ⟨kx15.cell, kd15.cell, kr15.cell, kq15.cell⟩
        clear hK K
        try simp only [List.getElem_toArray, List.getElem_cons_zero, List.getElem_cons_succ, Act.put, List.setIfInBounds_toArray, List.set_cons_zero, List.set_cons_succ]
        refine wpAnyH_take (i := 12) (oi := _) (v := ?_) rfl (by kernel_rfl) (by kernel_rfl) (by kernel_rfl) (fun _ _ _ h => h) (Or.inl ⟨by rfl, ?_⟩) (by assumption) ?_
        rotate_left
        · (intro w hSw; (try dsimp only at hSw); go_simp; try with_reducible rfl)
        try simp only [List.getElem_toArray, List.getElem_cons_zero, List.getElem_cons_succ, Act.put, List.setIfInBounds_toArray, List.set_cons_zero, List.set_cons_succ]
        refine wpAnyH_take (i := 13) (oi := _) (v := ?_) rfl (by kernel_rfl) (by kernel_rfl) (by kernel_rfl) (fun _ _ _ h => h) (Or.inl ⟨by rfl, ?_⟩) (by assumption) ?_
        rotate_left
        · (intro w hSw; (try dsimp only at hSw); go_simp; try with_reducible rfl)
        try simp only [List.getElem_toArray, List.getElem_cons_zero, List.getElem_cons_succ, Act.put, List.setIfInBounds_toArray, List.set_cons_zero, List.set_cons_succ]
        refine wpAnyH_take (i := 14) (oi := _) (v := ?_) rfl (by kernel_rfl) (by kernel_rfl) (by kernel_rfl) (fun _ _ _ h => h) (Or.inl ⟨by rfl, ?_⟩) (by assumption) ?_
        rotate_left
        · (intro w hSw; (try dsimp only at hSw); go_simp; try with_reducible rfl)
        try simp only [List.getElem_toArray, List.getElem_cons_zero, List.getElem_cons_succ, Act.put, List.setIfInBounds_toArray, List.set_cons_zero, List.set_cons_succ]
        refine wpAnyH_done (by kernel_rfl) ?_ _
        refine NoPanic.normal ?_
        have HB15 : Below w.heap.size w w15 := ((HB13.drew).trans (hb14.mono HB13.drew.size)).trans (hb15.mono (Nat.le_trans HB13.drew.size hb14.size))
        go_wp2_with fail
        go_ret
        exact ⟨rfl, HB15⟩
    · have u1 : (u != 0) = true := by rw [bne, u0]; rfl
      have cd := kd8.cell
      have d8 : decide (k < 1) = false := by rw [decide_eq_false_iff_not]; omega
      go_wp2_with fail
      clear cd
      refine (HU.out _).mono ?_
      rintro e w9 ⟨rfl, hb9⟩
      have kx9 := kx8.kept hb9
      have kd9 := kd8.kept hb9
      have kr9 := kr8.kept hb9
      have kq9 := kq8.kept hb9
      have hown9 := ownsRow_below hown8 hb9 (Nat.le_refl _)
      have HB9 : Below w.heap.size w w9 := HB8.trans (hb9.mono HB8.size)
      clear kx8 kd8 kr8 kq8 hb9 HB8 hown8 d8
      have cx := kx9.cell
      have cd := kd9.cell
      have cr := kr9.cell
      have cq := kq9.cell
      go_wp2_with fail
      refine (HKK1.out _).mono ?_
      rintro e w10 ⟨A10, c10, rfl, hown10, hb10⟩
      have kx10 := kx9.kept hb10
      have kd10 := kd9.kept hb10
      have kr10 := kr9.kept hb10
      have kq10 := kq9.kept hb10
      have hownA := ownsRow_below hown9 hb10 (Nat.le_refl _)
      have HB10 : Below w.heap.size w w10 := HB9.trans (hb10.mono HB9.size)
      clear kx9 kd9 kr9 kq9 HB9 hb10 cx cd cr cq
      obtain ⟨g1, cap1, hv1, _⟩ := hownA.form hLp
      obtain rfl : A = some ⟨g1, 0, none⟩ := by injection hv1
      obtain ⟨g2, cap2, hv2, _⟩ := hown10.form hLp
      obtain rfl : A10 = some ⟨g2, 0, none⟩ := by injection hv2
      clear hv1 hv2
      go_wp2_with fail
      refine (SameCells_yes g1 g2 c c10 L _ (by omega) (cel_own hownA) (cel_own hown10)).mono ?_
      rintro e w11 ⟨rfl, n11, rfl⟩
      clear hownA hown10 hown9
      have kx11 := kx10.drewN n11
      have kd11 := kd10.drewN n11
      have kr11 := kr10.drewN n11
      have kq11 := kq10.drewN n11
      have HB11 : Below w.heap.size w (w10.drewN n11) := bel_drewN HB10 _
      obtain ⟨w12, hw12⟩ : ∃ W, w10.drewN n11 = W := ⟨_, rfl⟩
      rw [hw12] at kx11 kd11 kr11 kq11 HB11 ⊢
      clear hw12 kx10 kd10 kr10 kq10 HB10
      have cx := kx11.cell
      have cd := kd11.cell
      have cr := kr11.cell
      have cq := kq11.cell
      go_wp2_with fail
      go_quiet (fail)
      go_wp2_with fail
      go_ret
      exact ⟨rfl, bel_drewN HB11 _⟩
  · subst k2 k4
    rcases hz with rfl | ⟨z0, rfl, rfl, rfl, rfl⟩
    · cases k1
    have z1 : (kz != 0) = true := by rw [bne, z0]; rfl
    rcases hu with rfl | ⟨u0, rfl, rfl⟩
    · have HAA1 := Lib.hid (HAA.out rfl); clear HAA
      have cd := kd8.cell
      have d8 : decide (k < 1) = false := by rw [decide_eq_false_iff_not]; omega
      go_wp2_with fail
      clear cd
      refine (HU.out _).mono ?_
      rintro e w9 ⟨rfl, hb9⟩
      have kx9 := kx8.kept hb9
      have kd9 := kd8.kept hb9
      have kr9 := kr8.kept hb9
      have kq9 := kq8.kept hb9
      have hown9 := ownsRow_below hown8 hb9 (Nat.le_refl _)
      have HB9 : Below w.heap.size w w9 := HB8.trans (hb9.mono HB8.size)
      clear kx8 kd8 kr8 kq8 hb9 HB8 hown8 d8
      have cx := kx9.cell
      have cd := kd9.cell
      have cr := kr9.cell
      have cq := kq9.cell
      go_wp2_with fail
      clear hown9
      clear cx cd cr cq
      refine wp_region_noPanic ?_
      refine wp_region_held_drew (S := fun W : World => (∀ i, W.cell? ⟨B1, i, none⟩ = (#[Value.int .i64 dx, Value.int .i64 dy] : Array Value)[i]?) ∧ (∀ i, W.cell? ⟨B3, i, none⟩ = (#[Value.int .i64 a0, Value.int .i64 a1] : Array Value)[i]?)) (by kernel_rfl) ?_ (fun hHeld => ?_)
      · exact ⟨kd9.cell, kq9.cell⟩
      refine wpAnyH_take (i := 0) (oi := _) (v := ?_) rfl (by kernel_rfl) (by kernel_rfl) (by kernel_rfl) (fun _ _ _ h => h) (Or.inl ⟨by rfl, ?_⟩) (by assumption) ?_
      rotate_left
      · (intro w hSw; (try dsimp only at hSw); go_simp; try with_reducible rfl)
      try simp only [List.getElem_toArray, List.getElem_cons_zero, List.getElem_cons_succ, Act.put, List.setIfInBounds_toArray, List.set_cons_zero, List.set_cons_succ]
      refine wpAnyH_take (i := 1) (oi := _) (v := ?_) rfl (by kernel_rfl) (by kernel_rfl) (by kernel_rfl) (fun _ _ _ h => h) (Or.inl ⟨by rfl, ?_⟩) (by assumption) ?_
      rotate_left
      · (intro w hSw; (try dsimp only at hSw); go_simp; try with_reducible rfl)
      try simp only [List.getElem_toArray, List.getElem_cons_zero, List.getElem_cons_succ, Act.put, List.setIfInBounds_toArray, List.set_cons_zero, List.set_cons_succ]
      refine wpAnyH_take (i := 2) (oi := _) (v := ?_) rfl (by kernel_rfl) (by kernel_rfl) (by kernel_rfl) (fun _ _ _ h => h) (Or.inl ⟨by rfl, ?_⟩) (by assumption) ?_
      rotate_left
      · (intro w hSw; (try dsimp only at hSw); go_simp; try with_reducible rfl)
      try simp only [List.getElem_toArray, List.getElem_cons_zero, List.getElem_cons_succ, Act.put, List.setIfInBounds_toArray, List.set_cons_zero, List.set_cons_succ]
      refine wpAnyH_take (i := 3) (oi := _) (v := ?_) rfl (by kernel_rfl) (by kernel_rfl) (by kernel_rfl) (fun _ _ _ h => h) (Or.inl ⟨by rfl, ?_⟩) (by assumption) ?_
      rotate_left
      · (intro w hSw; (try dsimp only at hSw); go_simp; try with_reducible rfl)
      try simp only [List.getElem_toArray, List.getElem_cons_zero, List.getElem_cons_succ, Act.put, List.setIfInBounds_toArray, List.set_cons_zero, List.set_cons_succ]
      refine wpAnyH_take (i := 4) (oi := _) (v := ?_) rfl (by kernel_rfl) (by kernel_rfl) (by kernel_rfl) (fun _ _ _ h => h) (Or.inl ⟨by rfl, ?_⟩) (by assumption) ?_
      rotate_left
      · (intro w hSw; (try dsimp only at hSw); go_simp; try with_reducible rfl)
      try simp only [List.getElem_toArray, List.getElem_cons_zero, List.getElem_cons_succ, Act.put, List.setIfInBounds_toArray, List.set_cons_zero, List.set_cons_succ]
      refine wpAnyH_take (i := 5) (oi := _) (v := ?_) rfl (by kernel_rfl) (by kernel_rfl) (by kernel_rfl) (fun _ _ _ h => h) (Or.inl ⟨by rfl, ?_⟩) (by assumption) ?_
      rotate_left
      · (intro w hSw; (try dsimp only at hSw); go_simp; try with_reducible rfl)
      try simp only [List.getElem_toArray, List.getElem_cons_zero, List.getElem_cons_succ, Act.put, List.setIfInBounds_toArray, List.set_cons_zero, List.set_cons_succ]
      refine wpAnyH_ready (rs := [6]) (by kernel_rfl) (by simp) ?_
      refine AllReadyH.cons (o := _) rfl (fun K hK => ?_) AllReadyH.nil
      go_simp
      refine (HAA1.out _).mono ?_
      rintro e12 w13 ⟨rfl, hb13⟩
      have kq13 := (kq9.drew).kept hb13
      have kd13 := (kd9.drew).kept hb13
      go_wp2_with fail
      refine hK.out _ _ ?_ (fun hHeld => ?_)
      · exact ⟨kd13.cell, kq13.cell⟩
      clear hK K
      try simp only [List.getElem_toArray, List.getElem_cons_zero, List.getElem_cons_succ, Act.put, List.setIfInBounds_toArray, List.set_cons_zero, List.set_cons_succ]
      refine wpAnyH_take (i := 7) (oi := _) (v := ?_) rfl (by kernel_rfl) (by kernel_rfl) (by kernel_rfl) (fun _ _ _ h => h) (Or.inl ⟨by rfl, ?_⟩) (by assumption) ?_
      rotate_left
      · (intro w hSw; (try dsimp only at hSw); go_simp; try with_reducible rfl)
      try simp only [List.getElem_toArray, List.getElem_cons_zero, List.getElem_cons_succ, Act.put, List.setIfInBounds_toArray, List.set_cons_zero, List.set_cons_succ]
      refine wpAnyH_take (i := 8) (oi := _) (v := ?_) rfl (by kernel_rfl) (by kernel_rfl) (by kernel_rfl) (fun _ _ _ h => h) (Or.inl ⟨by rfl, ?_⟩) (by assumption) ?_
      rotate_left
      · (intro w hSw; (try dsimp only at hSw); go_simp; try with_reducible rfl)
      try simp only [List.getElem_toArray, List.getElem_cons_zero, List.getElem_cons_succ, Act.put, List.setIfInBounds_toArray, List.set_cons_zero, List.set_cons_succ]
      refine wpAnyH_done (by kernel_rfl) ?_ _
      refine NoPanic.normal ?_
      have kx13 := (kx9.drew).kept hb13
      have kr13 := (kr9.drew).kept hb13
      have HB13 : Below w.heap.size w w13 := (HB9.drew).trans (hb13.mono HB9.drew.size)
      clear kx9 kd9 kr9 kq9 HB9 hb13 hHeld
      have cx := kx13.cell
      have cd := kd13.cell
      have cr := kr13.cell
      have cq := kq13.cell
      go_wp2_with fail
      go_ret
      exact ⟨rfl, HB13⟩
    · have u1 : (u != 0) = true := by rw [bne, u0]; rfl
      have cd := kd8.cell
      have d8 : decide (k < 1) = false := by rw [decide_eq_false_iff_not]; omega
      go_wp2_with fail
      clear cd
      refine (HU.out _).mono ?_
      rintro e w9 ⟨rfl, hb9⟩
      have kx9 := kx8.kept hb9
      have kd9 := kd8.kept hb9
      have kr9 := kr8.kept hb9
      have kq9 := kq8.kept hb9
      have hown9 := ownsRow_below hown8 hb9 (Nat.le_refl _)
      have HB9 : Below w.heap.size w w9 := HB8.trans (hb9.mono HB8.size)
      clear kx8 kd8 kr8 kq8 hb9 HB8 hown8 d8
      have cx := kx9.cell
      have cd := kd9.cell
      have cr := kr9.cell
      have cq := kq9.cell
      go_wp2_with fail
      clear hown9
      go_quiet (fail)
      go_wp2_with fail
      go_ret
      exact ⟨rfl, bel_drewN HB9 _⟩
  · subst k1 k3 k4
    rcases hz with hz | ⟨z0, rfl, rfl, rfl, rfl⟩
    · omega
    rcases hu with rfl | ⟨u0, rfl, rfl⟩
    · have HAA1 := Lib.hid (HAA.out rfl); clear HAA
      have cd := kd8.cell
      have d8 : decide (k < 1) = true := by rw [decide_eq_true_eq]; omega
      go_wp2_with fail
      clear cd
      refine (HU.out _).mono ?_
      rintro e w9 ⟨rfl, hb9⟩
      have kx9 := kx8.kept hb9
      have kd9 := kd8.kept hb9
      have kr9 := kr8.kept hb9
      have kq9 := kq8.kept hb9
      have hown9 := ownsRow_below hown8 hb9 (Nat.le_refl _)
      have HB9 : Below w.heap.size w w9 := HB8.trans (hb9.mono HB8.size)
      clear kx8 kd8 kr8 kq8 hb9 HB8 hown8 d8
      have cx := kx9.cell
      have cd := kd9.cell
      have cr := kr9.cell
      have cq := kq9.cell
      go_wp2_with fail
      clear hown9
      clear cx cd cr cq
      refine wp_region_noPanic ?_
      refine wp_region_held_drew (S := fun W : World => (∀ i, W.cell? ⟨B1, i, none⟩ = (#[Value.int .i64 dx, Value.int .i64 dy] : Array Value)[i]?) ∧ (∀ i, W.cell? ⟨B3, i, none⟩ = (#[Value.int .i64 a0, Value.int .i64 a1] : Array Value)[i]?)) (by kernel_rfl) ?_ (fun hHeld => ?_)
      · exact ⟨kd9.cell, kq9.cell⟩
      refine wpAnyH_take (i := 0) (oi := _) (v := ?_) rfl (by kernel_rfl) (by kernel_rfl) (by kernel_rfl) (fun _ _ _ h => h) (Or.inl ⟨by rfl, ?_⟩) (by assumption) ?_
      rotate_left
      · (intro w hSw; (try dsimp only at hSw); go_simp; try with_reducible rfl)
      try simp only [List.getElem_toArray, List.getElem_cons_zero, List.getElem_cons_succ, Act.put, List.setIfInBounds_toArray, List.set_cons_zero, List.set_cons_succ]
      refine wpAnyH_take (i := 1) (oi := _) (v := ?_) rfl (by kernel_rfl) (by kernel_rfl) (by kernel_rfl) (fun _ _ _ h => h) (Or.inl ⟨by rfl, ?_⟩) (by assumption) ?_
      rotate_left
      · (intro w hSw; (try dsimp only at hSw); go_simp; try with_reducible rfl)
      try simp only [List.getElem_toArray, List.getElem_cons_zero, List.getElem_cons_succ, Act.put, List.setIfInBounds_toArray, List.set_cons_zero, List.set_cons_succ]
      refine wpAnyH_take (i := 2) (oi := _) (v := ?_) rfl (by kernel_rfl) (by kernel_rfl) (by kernel_rfl) (fun _ _ _ h => h) (Or.inl ⟨by rfl, ?_⟩) (by assumption) ?_
      rotate_left
      · (intro w hSw; (try dsimp only at hSw); go_simp; try with_reducible rfl)
      try simp only [List.getElem_toArray, List.getElem_cons_zero, List.getElem_cons_succ, Act.put, List.setIfInBounds_toArray, List.set_cons_zero, List.set_cons_succ]
      refine wpAnyH_take (i := 3) (oi := _) (v := ?_) rfl (by kernel_rfl) (by kernel_rfl) (by kernel_rfl) (fun _ _ _ h => h) (Or.inl ⟨by rfl, ?_⟩) (by assumption) ?_
      rotate_left
      · (intro w hSw; (try dsimp only at hSw); go_simp; try with_reducible rfl)
      try simp only [List.getElem_toArray, List.getElem_cons_zero, List.getElem_cons_succ, Act.put, List.setIfInBounds_toArray, List.set_cons_zero, List.set_cons_succ]
      refine wpAnyH_take (i := 4) (oi := _) (v := ?_) rfl (by kernel_rfl) (by kernel_rfl) (by kernel_rfl) (fun _ _ _ h => h) (Or.inl ⟨by rfl, ?_⟩) (by assumption) ?_
      rotate_left
      · (intro w hSw; (try dsimp only at hSw); go_simp; try with_reducible rfl)
      try simp only [List.getElem_toArray, List.getElem_cons_zero, List.getElem_cons_succ, Act.put, List.setIfInBounds_toArray, List.set_cons_zero, List.set_cons_succ]
      refine wpAnyH_take (i := 5) (oi := _) (v := ?_) rfl (by kernel_rfl) (by kernel_rfl) (by kernel_rfl) (fun _ _ _ h => h) (Or.inl ⟨by rfl, ?_⟩) (by assumption) ?_
      rotate_left
      · (intro w hSw; (try dsimp only at hSw); go_simp; try with_reducible rfl)
      try simp only [List.getElem_toArray, List.getElem_cons_zero, List.getElem_cons_succ, Act.put, List.setIfInBounds_toArray, List.set_cons_zero, List.set_cons_succ]
      refine wpAnyH_ready (rs := [6]) (by kernel_rfl) (by simp) ?_
      refine AllReadyH.cons (o := _) rfl (fun K hK => ?_) AllReadyH.nil
      go_simp
      refine (HAA1.out _).mono ?_
      rintro e12 w13 ⟨rfl, hb13⟩
      have kq13 := (kq9.drew).kept hb13
      have kd13 := (kd9.drew).kept hb13
      go_wp2_with fail
      refine hK.out _ _ ?_ (fun hHeld => ?_)
      · exact ⟨kd13.cell, kq13.cell⟩
      clear hK K
      try simp only [List.getElem_toArray, List.getElem_cons_zero, List.getElem_cons_succ, Act.put, List.setIfInBounds_toArray, List.set_cons_zero, List.set_cons_succ]
      refine wpAnyH_take (i := 7) (oi := _) (v := ?_) rfl (by kernel_rfl) (by kernel_rfl) (by kernel_rfl) (fun _ _ _ h => h) (Or.inl ⟨by rfl, ?_⟩) (by assumption) ?_
      rotate_left
      · (intro w hSw; (try dsimp only at hSw); go_simp; try with_reducible rfl)
      try simp only [List.getElem_toArray, List.getElem_cons_zero, List.getElem_cons_succ, Act.put, List.setIfInBounds_toArray, List.set_cons_zero, List.set_cons_succ]
      refine wpAnyH_take (i := 8) (oi := _) (v := ?_) rfl (by kernel_rfl) (by kernel_rfl) (by kernel_rfl) (fun _ _ _ h => h) (Or.inl ⟨by rfl, ?_⟩) (by assumption) ?_
      rotate_left
      · (intro w hSw; (try dsimp only at hSw); go_simp; try with_reducible rfl)
      try simp only [List.getElem_toArray, List.getElem_cons_zero, List.getElem_cons_succ, Act.put, List.setIfInBounds_toArray, List.set_cons_zero, List.set_cons_succ]
      refine wpAnyH_done (by kernel_rfl) ?_ _
      refine NoPanic.normal ?_
      have kx13 := (kx9.drew).kept hb13
      have kr13 := (kr9.drew).kept hb13
      have HB13 : Below w.heap.size w w13 := (HB9.drew).trans (hb13.mono HB9.drew.size)
      clear kx9 kd9 kr9 kq9 HB9 hb13 hHeld
      have cx := kx13.cell
      have cd := kd13.cell
      have cr := kr13.cell
      have cq := kq13.cell
      go_wp2_with fail
      go_ret
      exact ⟨rfl, HB13⟩
    · have u1 : (u != 0) = true := by rw [bne, u0]; rfl
      have cd := kd8.cell
      have d8 : decide (k < 1) = true := by rw [decide_eq_true_eq]; omega
      go_wp2_with fail
      clear cd
      refine (HU.out _).mono ?_
      rintro e w9 ⟨rfl, hb9⟩
      have kx9 := kx8.kept hb9
      have kd9 := kd8.kept hb9
      have kr9 := kr8.kept hb9
      have kq9 := kq8.kept hb9
      have hown9 := ownsRow_below hown8 hb9 (Nat.le_refl _)
      have HB9 : Below w.heap.size w w9 := HB8.trans (hb9.mono HB8.size)
      clear kx8 kd8 kr8 kq8 hb9 HB8 hown8 d8
      have cx := kx9.cell
      have cd := kd9.cell
      have cr := kr9.cell
      have cq := kq9.cell
      go_wp2_with fail
      clear hown9
      go_quiet (fail)
      go_wp2_with fail
      go_ret
      exact ⟨rfl, bel_drewN HB9 _⟩
  · subst k1 k4
    have z3 : (z != 3) = true := by rw [bne, k3]; rfl
    rcases hz with rfl | ⟨z0, rfl, rfl, rfl, rfl⟩
    · clear k3
      rcases hu with rfl | ⟨u0, rfl, rfl⟩
      · have HAA1 := Lib.hid (HAA.out rfl); clear HAA
        have HWI1 := Lib.hid (HWI.out rfl rfl); clear HWI
        have HHA1 := Lib.hid (HHA.out rfl rfl); clear HHA
        have HHB1 := Lib.hid (HHB.out rfl rfl); clear HHB
        have cd := kd8.cell
        have d8 : decide (k < 1) = true := by rw [decide_eq_true_eq]; omega
        go_wp2_with fail
        clear cd
        refine (HU.out _).mono ?_
        rintro e w9 ⟨rfl, hb9⟩
        have kx9 := kx8.kept hb9
        have kd9 := kd8.kept hb9
        have kr9 := kr8.kept hb9
        have kq9 := kq8.kept hb9
        have hown9 := ownsRow_below hown8 hb9 (Nat.le_refl _)
        have HB9 : Below w.heap.size w w9 := HB8.trans (hb9.mono HB8.size)
        clear kx8 kd8 kr8 kq8 hb9 HB8 hown8 d8
        have cx := kx9.cell
        have cd := kd9.cell
        have cr := kr9.cell
        have cq := kq9.cell
        go_wp2_with fail
        clear hown9
        clear cx cd cr cq
        refine wp_region_noPanic ?_
        refine wp_region_held_drew (S := fun W : World => (∀ i, W.cell? ⟨B1, i, none⟩ = (#[Value.int .i64 dx, Value.int .i64 dy] : Array Value)[i]?) ∧ (∀ i, W.cell? ⟨B3, i, none⟩ = (#[Value.int .i64 a0, Value.int .i64 a1] : Array Value)[i]?)) (by kernel_rfl) ?_ (fun hHeld => ?_)
        · exact ⟨kd9.cell, kq9.cell⟩
        refine wpAnyH_take (i := 0) (oi := _) (v := ?_) rfl (by kernel_rfl) (by kernel_rfl) (by kernel_rfl) (fun _ _ _ h => h) (Or.inl ⟨by rfl, ?_⟩) (by assumption) ?_
        rotate_left
        · (intro w hSw; (try dsimp only at hSw); go_simp; try with_reducible rfl)
        try simp only [List.getElem_toArray, List.getElem_cons_zero, List.getElem_cons_succ, Act.put, List.setIfInBounds_toArray, List.set_cons_zero, List.set_cons_succ]
        refine wpAnyH_take (i := 1) (oi := _) (v := ?_) rfl (by kernel_rfl) (by kernel_rfl) (by kernel_rfl) (fun _ _ _ h => h) (Or.inl ⟨by rfl, ?_⟩) (by assumption) ?_
        rotate_left
        · (intro w hSw; (try dsimp only at hSw); go_simp; try with_reducible rfl)
        try simp only [List.getElem_toArray, List.getElem_cons_zero, List.getElem_cons_succ, Act.put, List.setIfInBounds_toArray, List.set_cons_zero, List.set_cons_succ]
        refine wpAnyH_take (i := 2) (oi := _) (v := ?_) rfl (by kernel_rfl) (by kernel_rfl) (by kernel_rfl) (fun _ _ _ h => h) (Or.inl ⟨by rfl, ?_⟩) (by assumption) ?_
        rotate_left
        · (intro w hSw; (try dsimp only at hSw); go_simp; try with_reducible rfl)
        try simp only [List.getElem_toArray, List.getElem_cons_zero, List.getElem_cons_succ, Act.put, List.setIfInBounds_toArray, List.set_cons_zero, List.set_cons_succ]
        refine wpAnyH_take (i := 3) (oi := _) (v := ?_) rfl (by kernel_rfl) (by kernel_rfl) (by kernel_rfl) (fun _ _ _ h => h) (Or.inl ⟨by rfl, ?_⟩) (by assumption) ?_
        rotate_left
        · (intro w hSw; (try dsimp only at hSw); go_simp; try with_reducible rfl)
        try simp only [List.getElem_toArray, List.getElem_cons_zero, List.getElem_cons_succ, Act.put, List.setIfInBounds_toArray, List.set_cons_zero, List.set_cons_succ]
        refine wpAnyH_take (i := 4) (oi := _) (v := ?_) rfl (by kernel_rfl) (by kernel_rfl) (by kernel_rfl) (fun _ _ _ h => h) (Or.inl ⟨by rfl, ?_⟩) (by assumption) ?_
        rotate_left
        · (intro w hSw; (try dsimp only at hSw); go_simp; try with_reducible rfl)
        try simp only [List.getElem_toArray, List.getElem_cons_zero, List.getElem_cons_succ, Act.put, List.setIfInBounds_toArray, List.set_cons_zero, List.set_cons_succ]
        refine wpAnyH_take (i := 5) (oi := _) (v := ?_) rfl (by kernel_rfl) (by kernel_rfl) (by kernel_rfl) (fun _ _ _ h => h) (Or.inl ⟨by rfl, ?_⟩) (by assumption) ?_
        rotate_left
        · (intro w hSw; (try dsimp only at hSw); go_simp; try with_reducible rfl)
        try simp only [List.getElem_toArray, List.getElem_cons_zero, List.getElem_cons_succ, Act.put, List.setIfInBounds_toArray, List.set_cons_zero, List.set_cons_succ]
        refine wpAnyH_ready (rs := [6]) (by kernel_rfl) (by simp) ?_
        refine AllReadyH.cons (o := _) rfl (fun K hK => ?_) AllReadyH.nil
        go_simp
        refine (HAA1.out _).mono ?_
        rintro e12 w13 ⟨rfl, hb13⟩
        have kq13 := (kq9.drew).kept hb13
        have kd13 := (kd9.drew).kept hb13
        go_wp2_with fail
        refine hK.out _ _ ?_ (fun hHeld => ?_)
        · exact ⟨kd13.cell, kq13.cell⟩
        clear hK K
        try simp only [List.getElem_toArray, List.getElem_cons_zero, List.getElem_cons_succ, Act.put, List.setIfInBounds_toArray, List.set_cons_zero, List.set_cons_succ]
        refine wpAnyH_take (i := 7) (oi := _) (v := ?_) rfl (by kernel_rfl) (by kernel_rfl) (by kernel_rfl) (fun _ _ _ h => h) (Or.inl ⟨by rfl, ?_⟩) (by assumption) ?_
        rotate_left
        · (intro w hSw; (try dsimp only at hSw); go_simp; try with_reducible rfl)
        try simp only [List.getElem_toArray, List.getElem_cons_zero, List.getElem_cons_succ, Act.put, List.setIfInBounds_toArray, List.set_cons_zero, List.set_cons_succ]
        refine wpAnyH_take (i := 8) (oi := _) (v := ?_) rfl (by kernel_rfl) (by kernel_rfl) (by kernel_rfl) (fun _ _ _ h => h) (Or.inl ⟨by rfl, ?_⟩) (by assumption) ?_
        rotate_left
        · (intro w hSw; (try dsimp only at hSw); go_simp; try with_reducible rfl)
        try simp only [List.getElem_toArray, List.getElem_cons_zero, List.getElem_cons_succ, Act.put, List.setIfInBounds_toArray, List.set_cons_zero, List.set_cons_succ]
        refine wpAnyH_done (by kernel_rfl) ?_ _
        refine NoPanic.normal ?_
        have kx13 := (kx9.drew).kept hb13
        have kr13 := (kr9.drew).kept hb13
        have HB13 : Below w.heap.size w w13 := (HB9.drew).trans (hb13.mono HB9.drew.size)
        clear kx9 kd9 kr9 kq9 HB9 hb13 hHeld
        have cx := kx13.cell
        have cd := kd13.cell
        have cr := kr13.cell
        have cq := kq13.cell
        go_wp2_with fail
        clear cx cd cr cq
        have H3 : (a0 = x ∧ a1 = y ∧ hb0 = true) ∨ (a0 = x ∧ ¬ a1 = y ∧ hb0 = false) ∨ (¬ a0 = x ∧ hb0 = false) := by
          have hq := HHB1.out
          by_cases q0 : a0 = x
          · by_cases q1 : a1 = y
            · exact .inl ⟨q0, q1, hq.2 ⟨q0, q1⟩⟩
            · exact .inr (.inl ⟨q0, q1, by rw [Bool.eq_false_iff]; exact fun h => q1 (hq.1 h).2⟩)
          · exact .inr (.inr ⟨q0, by rw [Bool.eq_false_iff]; exact fun h => q0 (hq.1 h).1⟩)
        clear HHB1
        rcases H3 with ⟨q0, q1, rfl⟩ | ⟨q0, q1, rfl⟩ | ⟨q0, rfl⟩
        · refine wp_region_noPanic ?_
          refine wp_region_held_drew (S := fun W : World => (∀ i, W.cell? ⟨B0, i, none⟩ = (#[Value.int .i64 x, Value.int .i64 y] : Array Value)[i]?) ∧ (∀ i, W.cell? ⟨B1, i, none⟩ = (#[Value.int .i64 dx, Value.int .i64 dy] : Array Value)[i]?) ∧ (∀ i, W.cell? ⟨B2, i, none⟩ = (#[Value.int .i64 r0, Value.int .i64 r1, Value.int .i64 r2, Value.int .i64 r3] : Array Value)[i]?) ∧ (∀ i, W.cell? ⟨B3, i, none⟩ = (#[Value.int .i64 a0, Value.int .i64 a1] : Array Value)[i]?)) (by kernel_rfl) ?_ (fun hHeld => ?_)
          · exact ⟨kx13.cell, kd13.cell, kr13.cell, kq13.cell⟩
          refine wpAnyH_take (i := 0) (oi := _) (v := ?_) rfl (by kernel_rfl) (by kernel_rfl) (by kernel_rfl) (fun _ _ _ h => h) (Or.inl ⟨by rfl, ?_⟩) (by assumption) ?_
          rotate_left
          · (intro w hSw; (try dsimp only at hSw); go_simp; try with_reducible rfl)
          try simp only [List.getElem_toArray, List.getElem_cons_zero, List.getElem_cons_succ, Act.put, List.setIfInBounds_toArray, List.set_cons_zero, List.set_cons_succ]
          refine wpAnyH_take (i := 1) (oi := _) (v := ?_) rfl (by kernel_rfl) (by kernel_rfl) (by kernel_rfl) (fun _ _ _ h => h) (Or.inl ⟨by rfl, ?_⟩) (by assumption) ?_
          rotate_left
          · (intro w hSw; (try dsimp only at hSw); go_simp; try with_reducible rfl)
          try simp only [List.getElem_toArray, List.getElem_cons_zero, List.getElem_cons_succ, Act.put, List.setIfInBounds_toArray, List.set_cons_zero, List.set_cons_succ]
          refine wpAnyH_take (i := 2) (oi := _) (v := ?_) rfl (by kernel_rfl) (by kernel_rfl) (by kernel_rfl) (fun _ _ _ h => h) (Or.inl ⟨by rfl, ?_⟩) (by assumption) ?_
          rotate_left
          · (intro w hSw; (try dsimp only at hSw); go_simp; try with_reducible rfl)
          try simp only [List.getElem_toArray, List.getElem_cons_zero, List.getElem_cons_succ, Act.put, List.setIfInBounds_toArray, List.set_cons_zero, List.set_cons_succ]
          refine wpAnyH_ready (rs := [3]) (by kernel_rfl) (by simp) ?_
          refine AllReadyH.cons (o := _) rfl (fun K hK => ?_) AllReadyH.nil
          go_simp
          refine (HWI1.out _).mono ?_
          rintro e14 w14 ⟨rfl, hb14⟩
          have kx14 := (kx13.drew).kept hb14
          have kd14 := (kd13.drew).kept hb14
          have kr14 := (kr13.drew).kept hb14
          have kq14 := (kq13.drew).kept hb14
          go_wp2_with fail
          refine hK.out _ _ ?_ (fun hHeld => ?_)
          · exact ⟨kx14.cell, kd14.cell, kr14.cell, kq14.cell⟩
          clear hK K
          try simp only [List.getElem_toArray, List.getElem_cons_zero, List.getElem_cons_succ, Act.put, List.setIfInBounds_toArray, List.set_cons_zero, List.set_cons_succ]
          refine wpAnyH_take (i := 4) (oi := _) (v := ?_) rfl (by kernel_rfl) (by kernel_rfl) (by kernel_rfl) (fun _ _ _ h => h) (Or.inl ⟨by rfl, ?_⟩) (by assumption) ?_
          rotate_left
          · (intro w hSw; (try dsimp only at hSw); go_simp; try with_reducible rfl)
          try simp only [List.getElem_toArray, List.getElem_cons_zero, List.getElem_cons_succ, Act.put, List.setIfInBounds_toArray, List.set_cons_zero, List.set_cons_succ]
          refine wpAnyH_take (i := 5) (oi := _) (v := ?_) rfl (by kernel_rfl) (by kernel_rfl) (by kernel_rfl) (fun _ _ _ h => h) (Or.inl ⟨by rfl, ?_⟩) (by assumption) ?_
          rotate_left
          · (intro w hSw; (try dsimp only at hSw); go_simp; try with_reducible rfl)
          try simp only [List.getElem_toArray, List.getElem_cons_zero, List.getElem_cons_succ, Act.put, List.setIfInBounds_toArray, List.set_cons_zero, List.set_cons_succ]
          refine wpAnyH_take (i := 6) (oi := _) (v := ?_) rfl (by kernel_rfl) (by kernel_rfl) (by kernel_rfl) (fun _ _ _ h => h) (Or.inl ⟨by rfl, ?_⟩) (by assumption) ?_
          rotate_left
          · (intro w hSw; (try dsimp only at hSw); go_simp; try with_reducible rfl)
          try simp only [List.getElem_toArray, List.getElem_cons_zero, List.getElem_cons_succ, Act.put, List.setIfInBounds_toArray, List.set_cons_zero, List.set_cons_succ]
          refine wpAnyH_take (i := 7) (oi := _) (v := ?_) rfl (by kernel_rfl) (by kernel_rfl) (by kernel_rfl) (fun _ _ _ h => h) (Or.inl ⟨by rfl, ?_⟩) (by assumption) ?_
          rotate_left
          · (intro w hSw; (try dsimp only at hSw); go_simp; try with_reducible rfl)
          try simp only [List.getElem_toArray, List.getElem_cons_zero, List.getElem_cons_succ, Act.put, List.setIfInBounds_toArray, List.set_cons_zero, List.set_cons_succ]
          refine wpAnyH_take (i := 9) (oi := _) (v := ?_) rfl (by kernel_rfl) (by kernel_rfl) (by kernel_rfl) (fun _ _ _ h => h) (Or.inl ⟨by rfl, ?_⟩) (by assumption) ?_
          rotate_left
          · (intro w hSw; (try dsimp only at hSw); go_simp; try with_reducible rfl)
          try simp only [List.getElem_toArray, List.getElem_cons_zero, List.getElem_cons_succ, Act.put, List.setIfInBounds_toArray, List.set_cons_zero, List.set_cons_succ]
          refine wpAnyH_take (i := 10) (oi := _) (v := ?_) rfl (by kernel_rfl) (by kernel_rfl) (by kernel_rfl) (fun _ _ _ h => h) (Or.inl ⟨by rfl, ?_⟩) (by assumption) ?_
          rotate_left
          · (intro w hSw; (try dsimp only at hSw); go_simp; try with_reducible rfl)
          try simp only [List.getElem_toArray, List.getElem_cons_zero, List.getElem_cons_succ, Act.put, List.setIfInBounds_toArray, List.set_cons_zero, List.set_cons_succ]
          refine wpAnyH_take (i := 11) (oi := _) (v := ?_) rfl (by kernel_rfl) (by kernel_rfl) (by kernel_rfl) (fun _ _ _ h => h) (Or.inl ⟨by rfl, ?_⟩) (by assumption) ?_
          rotate_left
          · (intro w hSw; (try dsimp only at hSw); go_simp; try with_reducible rfl)
          try simp only [List.getElem_toArray, List.getElem_cons_zero, List.getElem_cons_succ, Act.put, List.setIfInBounds_toArray, List.set_cons_zero, List.set_cons_succ]
          refine wpAnyH_ready (rs := [8]) (by kernel_rfl) (by simp) ?_
          refine AllReadyH.cons (o := _) rfl (fun K hK => ?_) AllReadyH.nil
          go_simp
          refine (HHA1.out _).mono ?_
          rintro e15 w15 ⟨rfl, hb15⟩
          have kx15 := kx14.kept hb15
          have kd15 := kd14.kept hb15
          have kr15 := kr14.kept hb15
          have kq15 := kq14.kept hb15
          go_wp2_with fail
          refine hK.out _ _ ?_ (fun hHeld => ?_)
          · exact ⟨kx15.cell, kd15.cell, kr15.cell, kq15.cell⟩
          clear hK K
          try simp only [List.getElem_toArray, List.getElem_cons_zero, List.getElem_cons_succ, Act.put, List.setIfInBounds_toArray, List.set_cons_zero, List.set_cons_succ]
          refine wpAnyH_take (i := 12) (oi := _) (v := ?_) rfl (by kernel_rfl) (by kernel_rfl) (by kernel_rfl) (fun _ _ _ h => h) (Or.inl ⟨by rfl, ?_⟩) (by assumption) ?_
          rotate_left
          · (intro w hSw; (try dsimp only at hSw); go_simp; try with_reducible rfl)
          try simp only [List.getElem_toArray, List.getElem_cons_zero, List.getElem_cons_succ, Act.put, List.setIfInBounds_toArray, List.set_cons_zero, List.set_cons_succ]
          refine wpAnyH_take (i := 13) (oi := _) (v := ?_) rfl (by kernel_rfl) (by kernel_rfl) (by kernel_rfl) (fun _ _ _ h => h) (Or.inl ⟨by rfl, ?_⟩) (by assumption) ?_
          rotate_left
          · (intro w hSw; (try dsimp only at hSw); go_simp; try with_reducible rfl)
          try simp only [List.getElem_toArray, List.getElem_cons_zero, List.getElem_cons_succ, Act.put, List.setIfInBounds_toArray, List.set_cons_zero, List.set_cons_succ]
          refine wpAnyH_take (i := 14) (oi := _) (v := ?_) rfl (by kernel_rfl) (by kernel_rfl) (by kernel_rfl) (fun _ _ _ h => h) (Or.inl ⟨by rfl, ?_⟩) (by assumption) ?_
          rotate_left
          · (intro w hSw; (try dsimp only at hSw); go_simp; try with_reducible rfl)
          try simp only [List.getElem_toArray, List.getElem_cons_zero, List.getElem_cons_succ, Act.put, List.setIfInBounds_toArray, List.set_cons_zero, List.set_cons_succ]
          refine wpAnyH_done (by kernel_rfl) ?_ _
          refine NoPanic.normal ?_
          have HB15 : Below w.heap.size w w15 := ((HB13.drew).trans (hb14.mono HB13.drew.size)).trans (hb15.mono (Nat.le_trans HB13.drew.size hb14.size))
          go_wp2_with fail
          go_ret
          exact ⟨rfl, HB15⟩
        · refine wp_region_noPanic ?_
          refine wp_region_held_drew (S := fun W : World => (∀ i, W.cell? ⟨B0, i, none⟩ = (#[Value.int .i64 x, Value.int .i64 y] : Array Value)[i]?) ∧ (∀ i, W.cell? ⟨B1, i, none⟩ = (#[Value.int .i64 dx, Value.int .i64 dy] : Array Value)[i]?) ∧ (∀ i, W.cell? ⟨B2, i, none⟩ = (#[Value.int .i64 r0, Value.int .i64 r1, Value.int .i64 r2, Value.int .i64 r3] : Array Value)[i]?) ∧ (∀ i, W.cell? ⟨B3, i, none⟩ = (#[Value.int .i64 a0, Value.int .i64 a1] : Array Value)[i]?)) (by kernel_rfl) ?_ (fun hHeld => ?_)
          · exact ⟨kx13.cell, kd13.cell, kr13.cell, kq13.cell⟩
          refine wpAnyH_take (i := 0) (oi := _) (v := ?_) rfl (by kernel_rfl) (by kernel_rfl) (by kernel_rfl) (fun _ _ _ h => h) (Or.inl ⟨by rfl, ?_⟩) (by assumption) ?_
          rotate_left
          · (intro w hSw; (try dsimp only at hSw); go_simp; try with_reducible rfl)
          try simp only [List.getElem_toArray, List.getElem_cons_zero, List.getElem_cons_succ, Act.put, List.setIfInBounds_toArray, List.set_cons_zero, List.set_cons_succ]
          refine wpAnyH_take (i := 1) (oi := _) (v := ?_) rfl (by kernel_rfl) (by kernel_rfl) (by kernel_rfl) (fun _ _ _ h => h) (Or.inl ⟨by rfl, ?_⟩) (by assumption) ?_
          rotate_left
          · (intro w hSw; (try dsimp only at hSw); go_simp; try with_reducible rfl)
          try simp only [List.getElem_toArray, List.getElem_cons_zero, List.getElem_cons_succ, Act.put, List.setIfInBounds_toArray, List.set_cons_zero, List.set_cons_succ]
          refine wpAnyH_take (i := 2) (oi := _) (v := ?_) rfl (by kernel_rfl) (by kernel_rfl) (by kernel_rfl) (fun _ _ _ h => h) (Or.inl ⟨by rfl, ?_⟩) (by assumption) ?_
          rotate_left
          · (intro w hSw; (try dsimp only at hSw); go_simp; try with_reducible rfl)
          try simp only [List.getElem_toArray, List.getElem_cons_zero, List.getElem_cons_succ, Act.put, List.setIfInBounds_toArray, List.set_cons_zero, List.set_cons_succ]
          refine wpAnyH_ready (rs := [3]) (by kernel_rfl) (by simp) ?_
          refine AllReadyH.cons (o := _) rfl (fun K hK => ?_) AllReadyH.nil
          go_simp
          refine (HWI1.out _).mono ?_
          rintro e14 w14 ⟨rfl, hb14⟩
          have kx14 := (kx13.drew).kept hb14
          have kd14 := (kd13.drew).kept hb14
          have kr14 := (kr13.drew).kept hb14
          have kq14 := (kq13.drew).kept hb14
          go_wp2_with fail
          refine hK.out _ _ ?_ (fun hHeld => ?_)
          · exact ⟨kx14.cell, kd14.cell, kr14.cell, kq14.cell⟩
          clear hK K
          try simp only [List.getElem_toArray, List.getElem_cons_zero, List.getElem_cons_succ, Act.put, List.setIfInBounds_toArray, List.set_cons_zero, List.set_cons_succ]
          refine wpAnyH_take (i := 4) (oi := _) (v := ?_) rfl (by kernel_rfl) (by kernel_rfl) (by kernel_rfl) (fun _ _ _ h => h) (Or.inl ⟨by rfl, ?_⟩) (by assumption) ?_
          rotate_left
          · (intro w hSw; (try dsimp only at hSw); go_simp; try with_reducible rfl)
          try simp only [List.getElem_toArray, List.getElem_cons_zero, List.getElem_cons_succ, Act.put, List.setIfInBounds_toArray, List.set_cons_zero, List.set_cons_succ]
          refine wpAnyH_take (i := 5) (oi := _) (v := ?_) rfl (by kernel_rfl) (by kernel_rfl) (by kernel_rfl) (fun _ _ _ h => h) (Or.inl ⟨by rfl, ?_⟩) (by assumption) ?_
          rotate_left
          · (intro w hSw; (try dsimp only at hSw); go_simp; try with_reducible rfl)
          try simp only [List.getElem_toArray, List.getElem_cons_zero, List.getElem_cons_succ, Act.put, List.setIfInBounds_toArray, List.set_cons_zero, List.set_cons_succ]
          refine wpAnyH_take (i := 6) (oi := _) (v := ?_) rfl (by kernel_rfl) (by kernel_rfl) (by kernel_rfl) (fun _ _ _ h => h) (Or.inl ⟨by rfl, ?_⟩) (by assumption) ?_
          rotate_left
          · (intro w hSw; (try dsimp only at hSw); go_simp; try with_reducible rfl)
          try simp only [List.getElem_toArray, List.getElem_cons_zero, List.getElem_cons_succ, Act.put, List.setIfInBounds_toArray, List.set_cons_zero, List.set_cons_succ]
          refine wpAnyH_take (i := 7) (oi := _) (v := ?_) rfl (by kernel_rfl) (by kernel_rfl) (by kernel_rfl) (fun _ _ _ h => h) (Or.inl ⟨by rfl, ?_⟩) (by assumption) ?_
          rotate_left
          · (intro w hSw; (try dsimp only at hSw); go_simp; try with_reducible rfl)
          try simp only [List.getElem_toArray, List.getElem_cons_zero, List.getElem_cons_succ, Act.put, List.setIfInBounds_toArray, List.set_cons_zero, List.set_cons_succ]
          refine wpAnyH_take (i := 9) (oi := _) (v := ?_) rfl (by kernel_rfl) (by kernel_rfl) (by kernel_rfl) (fun _ _ _ h => h) (Or.inl ⟨by rfl, ?_⟩) (by assumption) ?_
          rotate_left
          · (intro w hSw; (try dsimp only at hSw); go_simp; try with_reducible rfl)
          try simp only [List.getElem_toArray, List.getElem_cons_zero, List.getElem_cons_succ, Act.put, List.setIfInBounds_toArray, List.set_cons_zero, List.set_cons_succ]
          refine wpAnyH_take (i := 10) (oi := _) (v := ?_) rfl (by kernel_rfl) (by kernel_rfl) (by kernel_rfl) (fun _ _ _ h => h) (Or.inl ⟨by rfl, ?_⟩) (by assumption) ?_
          rotate_left
          · (intro w hSw; (try dsimp only at hSw); go_simp; try with_reducible rfl)
          try simp only [List.getElem_toArray, List.getElem_cons_zero, List.getElem_cons_succ, Act.put, List.setIfInBounds_toArray, List.set_cons_zero, List.set_cons_succ]
          refine wpAnyH_take (i := 11) (oi := _) (v := ?_) rfl (by kernel_rfl) (by kernel_rfl) (by kernel_rfl) (fun _ _ _ h => h) (Or.inl ⟨by rfl, ?_⟩) (by assumption) ?_
          rotate_left
          · (intro w hSw; (try dsimp only at hSw); go_simp; try with_reducible rfl)
          try simp only [List.getElem_toArray, List.getElem_cons_zero, List.getElem_cons_succ, Act.put, List.setIfInBounds_toArray, List.set_cons_zero, List.set_cons_succ]
          refine wpAnyH_ready (rs := [8]) (by kernel_rfl) (by simp) ?_
          refine AllReadyH.cons (o := _) rfl (fun K hK => ?_) AllReadyH.nil
          go_simp
          refine (HHA1.out _).mono ?_
          rintro e15 w15 ⟨rfl, hb15⟩
          have kx15 := kx14.kept hb15
          have kd15 := kd14.kept hb15
          have kr15 := kr14.kept hb15
          have kq15 := kq14.kept hb15
          go_wp2_with fail
          refine hK.out _ _ ?_ (fun hHeld => ?_)
          · exact ⟨kx15.cell, kd15.cell, kr15.cell, kq15.cell⟩
          clear hK K
          try simp only [List.getElem_toArray, List.getElem_cons_zero, List.getElem_cons_succ, Act.put, List.setIfInBounds_toArray, List.set_cons_zero, List.set_cons_succ]
          refine wpAnyH_take (i := 12) (oi := _) (v := ?_) rfl (by kernel_rfl) (by kernel_rfl) (by kernel_rfl) (fun _ _ _ h => h) (Or.inl ⟨by rfl, ?_⟩) (by assumption) ?_
          rotate_left
          · (intro w hSw; (try dsimp only at hSw); go_simp; try with_reducible rfl)
          try simp only [List.getElem_toArray, List.getElem_cons_zero, List.getElem_cons_succ, Act.put, List.setIfInBounds_toArray, List.set_cons_zero, List.set_cons_succ]
          refine wpAnyH_take (i := 13) (oi := _) (v := ?_) rfl (by kernel_rfl) (by kernel_rfl) (by kernel_rfl) (fun _ _ _ h => h) (Or.inl ⟨by rfl, ?_⟩) (by assumption) ?_
          rotate_left
          · (intro w hSw; (try dsimp only at hSw); go_simp; try with_reducible rfl)
          try simp only [List.getElem_toArray, List.getElem_cons_zero, List.getElem_cons_succ, Act.put, List.setIfInBounds_toArray, List.set_cons_zero, List.set_cons_succ]
          refine wpAnyH_take (i := 14) (oi := _) (v := ?_) rfl (by kernel_rfl) (by kernel_rfl) (by kernel_rfl) (fun _ _ _ h => h) (Or.inl ⟨by rfl, ?_⟩) (by assumption) ?_
          rotate_left
          · (intro w hSw; (try dsimp only at hSw); go_simp; try with_reducible rfl)
          try simp only [List.getElem_toArray, List.getElem_cons_zero, List.getElem_cons_succ, Act.put, List.setIfInBounds_toArray, List.set_cons_zero, List.set_cons_succ]
          refine wpAnyH_done (by kernel_rfl) ?_ _
          refine NoPanic.normal ?_
          have HB15 : Below w.heap.size w w15 := ((HB13.drew).trans (hb14.mono HB13.drew.size)).trans (hb15.mono (Nat.le_trans HB13.drew.size hb14.size))
          go_wp2_with fail
          go_ret
          exact ⟨rfl, HB15⟩
        · refine wp_region_noPanic ?_
          refine wp_region_held_drew (S := fun W : World => (∀ i, W.cell? ⟨B0, i, none⟩ = (#[Value.int .i64 x, Value.int .i64 y] : Array Value)[i]?) ∧ (∀ i, W.cell? ⟨B1, i, none⟩ = (#[Value.int .i64 dx, Value.int .i64 dy] : Array Value)[i]?) ∧ (∀ i, W.cell? ⟨B2, i, none⟩ = (#[Value.int .i64 r0, Value.int .i64 r1, Value.int .i64 r2, Value.int .i64 r3] : Array Value)[i]?) ∧ (∀ i, W.cell? ⟨B3, i, none⟩ = (#[Value.int .i64 a0, Value.int .i64 a1] : Array Value)[i]?)) (by kernel_rfl) ?_ (fun hHeld => ?_)
          · exact ⟨kx13.cell, kd13.cell, kr13.cell, kq13.cell⟩
          refine wpAnyH_take (i := 0) (oi := _) (v := ?_) rfl (by kernel_rfl) (by kernel_rfl) (by kernel_rfl) (fun _ _ _ h => h) (Or.inl ⟨by rfl, ?_⟩) (by assumption) ?_
          rotate_left
          · (intro w hSw; (try dsimp only at hSw); go_simp; try with_reducible rfl)
          try simp only [List.getElem_toArray, List.getElem_cons_zero, List.getElem_cons_succ, Act.put, List.setIfInBounds_toArray, List.set_cons_zero, List.set_cons_succ]
          refine wpAnyH_take (i := 1) (oi := _) (v := ?_) rfl (by kernel_rfl) (by kernel_rfl) (by kernel_rfl) (fun _ _ _ h => h) (Or.inl ⟨by rfl, ?_⟩) (by assumption) ?_
          rotate_left
          · (intro w hSw; (try dsimp only at hSw); go_simp; try with_reducible rfl)
          try simp only [List.getElem_toArray, List.getElem_cons_zero, List.getElem_cons_succ, Act.put, List.setIfInBounds_toArray, List.set_cons_zero, List.set_cons_succ]
          refine wpAnyH_take (i := 2) (oi := _) (v := ?_) rfl (by kernel_rfl) (by kernel_rfl) (by kernel_rfl) (fun _ _ _ h => h) (Or.inl ⟨by rfl, ?_⟩) (by assumption) ?_
          rotate_left
          · (intro w hSw; (try dsimp only at hSw); go_simp; try with_reducible rfl)
          try simp only [List.getElem_toArray, List.getElem_cons_zero, List.getElem_cons_succ, Act.put, List.setIfInBounds_toArray, List.set_cons_zero, List.set_cons_succ]
          refine wpAnyH_ready (rs := [3]) (by kernel_rfl) (by simp) ?_
          refine AllReadyH.cons (o := _) rfl (fun K hK => ?_) AllReadyH.nil
          go_simp
          refine (HWI1.out _).mono ?_
          rintro e14 w14 ⟨rfl, hb14⟩
          have kx14 := (kx13.drew).kept hb14
          have kd14 := (kd13.drew).kept hb14
          have kr14 := (kr13.drew).kept hb14
          have kq14 := (kq13.drew).kept hb14
          go_wp2_with fail
          refine hK.out _ _ ?_ (fun hHeld => ?_)
          · exact ⟨kx14.cell, kd14.cell, kr14.cell, kq14.cell⟩
          clear hK K
          try simp only [List.getElem_toArray, List.getElem_cons_zero, List.getElem_cons_succ, Act.put, List.setIfInBounds_toArray, List.set_cons_zero, List.set_cons_succ]
          refine wpAnyH_take (i := 4) (oi := _) (v := ?_) rfl (by kernel_rfl) (by kernel_rfl) (by kernel_rfl) (fun _ _ _ h => h) (Or.inl ⟨by rfl, ?_⟩) (by assumption) ?_
          rotate_left
          · (intro w hSw; (try dsimp only at hSw); go_simp; try with_reducible rfl)
          try simp only [List.getElem_toArray, List.getElem_cons_zero, List.getElem_cons_succ, Act.put, List.setIfInBounds_toArray, List.set_cons_zero, List.set_cons_succ]
          refine wpAnyH_take (i := 5) (oi := _) (v := ?_) rfl (by kernel_rfl) (by kernel_rfl) (by kernel_rfl) (fun _ _ _ h => h) (Or.inl ⟨by rfl, ?_⟩) (by assumption) ?_
          rotate_left
          · (intro w hSw; (try dsimp only at hSw); go_simp; try with_reducible rfl)
          try simp only [List.getElem_toArray, List.getElem_cons_zero, List.getElem_cons_succ, Act.put, List.setIfInBounds_toArray, List.set_cons_zero, List.set_cons_succ]
          refine wpAnyH_take (i := 6) (oi := _) (v := ?_) rfl (by kernel_rfl) (by kernel_rfl) (by kernel_rfl) (fun _ _ _ h => h) (Or.inl ⟨by rfl, ?_⟩) (by assumption) ?_
          rotate_left
          · (intro w hSw; (try dsimp only at hSw); go_simp; try with_reducible rfl)
          try simp only [List.getElem_toArray, List.getElem_cons_zero, List.getElem_cons_succ, Act.put, List.setIfInBounds_toArray, List.set_cons_zero, List.set_cons_succ]
          refine wpAnyH_take (i := 7) (oi := _) (v := ?_) rfl (by kernel_rfl) (by kernel_rfl) (by kernel_rfl) (fun _ _ _ h => h) (Or.inl ⟨by rfl, ?_⟩) (by assumption) ?_
          rotate_left
          · (intro w hSw; (try dsimp only at hSw); go_simp; try with_reducible rfl)
          try simp only [List.getElem_toArray, List.getElem_cons_zero, List.getElem_cons_succ, Act.put, List.setIfInBounds_toArray, List.set_cons_zero, List.set_cons_succ]
          refine wpAnyH_take (i := 9) (oi := _) (v := ?_) rfl (by kernel_rfl) (by kernel_rfl) (by kernel_rfl) (fun _ _ _ h => h) (Or.inl ⟨by rfl, ?_⟩) (by assumption) ?_
          rotate_left
          · (intro w hSw; (try dsimp only at hSw); go_simp; try with_reducible rfl)
          try simp only [List.getElem_toArray, List.getElem_cons_zero, List.getElem_cons_succ, Act.put, List.setIfInBounds_toArray, List.set_cons_zero, List.set_cons_succ]
          refine wpAnyH_take (i := 10) (oi := _) (v := ?_) rfl (by kernel_rfl) (by kernel_rfl) (by kernel_rfl) (fun _ _ _ h => h) (Or.inl ⟨by rfl, ?_⟩) (by assumption) ?_
          rotate_left
          · (intro w hSw; (try dsimp only at hSw); go_simp; try with_reducible rfl)
          try simp only [List.getElem_toArray, List.getElem_cons_zero, List.getElem_cons_succ, Act.put, List.setIfInBounds_toArray, List.set_cons_zero, List.set_cons_succ]
          refine wpAnyH_take (i := 11) (oi := _) (v := ?_) rfl (by kernel_rfl) (by kernel_rfl) (by kernel_rfl) (fun _ _ _ h => h) (Or.inl ⟨by rfl, ?_⟩) (by assumption) ?_
          rotate_left
          · (intro w hSw; (try dsimp only at hSw); go_simp; try with_reducible rfl)
          try simp only [List.getElem_toArray, List.getElem_cons_zero, List.getElem_cons_succ, Act.put, List.setIfInBounds_toArray, List.set_cons_zero, List.set_cons_succ]
          refine wpAnyH_ready (rs := [8]) (by kernel_rfl) (by simp) ?_
          refine AllReadyH.cons (o := _) rfl (fun K hK => ?_) AllReadyH.nil
          go_simp
          refine (HHA1.out _).mono ?_
          rintro e15 w15 ⟨rfl, hb15⟩
          have kx15 := kx14.kept hb15
          have kd15 := kd14.kept hb15
          have kr15 := kr14.kept hb15
          have kq15 := kq14.kept hb15
          go_wp2_with fail
          refine hK.out _ _ ?_ (fun hHeld => ?_)
          · exact ⟨kx15.cell, kd15.cell, kr15.cell, kq15.cell⟩
          clear hK K
          try simp only [List.getElem_toArray, List.getElem_cons_zero, List.getElem_cons_succ, Act.put, List.setIfInBounds_toArray, List.set_cons_zero, List.set_cons_succ]
          refine wpAnyH_take (i := 12) (oi := _) (v := ?_) rfl (by kernel_rfl) (by kernel_rfl) (by kernel_rfl) (fun _ _ _ h => h) (Or.inl ⟨by rfl, ?_⟩) (by assumption) ?_
          rotate_left
          · (intro w hSw; (try dsimp only at hSw); go_simp; try with_reducible rfl)
          try simp only [List.getElem_toArray, List.getElem_cons_zero, List.getElem_cons_succ, Act.put, List.setIfInBounds_toArray, List.set_cons_zero, List.set_cons_succ]
          refine wpAnyH_take (i := 13) (oi := _) (v := ?_) rfl (by kernel_rfl) (by kernel_rfl) (by kernel_rfl) (fun _ _ _ h => h) (Or.inl ⟨by rfl, ?_⟩) (by assumption) ?_
          rotate_left
          · (intro w hSw; (try dsimp only at hSw); go_simp; try with_reducible rfl)
          try simp only [List.getElem_toArray, List.getElem_cons_zero, List.getElem_cons_succ, Act.put, List.setIfInBounds_toArray, List.set_cons_zero, List.set_cons_succ]
          refine wpAnyH_take (i := 14) (oi := _) (v := ?_) rfl (by kernel_rfl) (by kernel_rfl) (by kernel_rfl) (fun _ _ _ h => h) (Or.inl ⟨by rfl, ?_⟩) (by assumption) ?_
          rotate_left
          · (intro w hSw; (try dsimp only at hSw); go_simp; try with_reducible rfl)
          try simp only [List.getElem_toArray, List.getElem_cons_zero, List.getElem_cons_succ, Act.put, List.setIfInBounds_toArray, List.set_cons_zero, List.set_cons_succ]
          refine wpAnyH_done (by kernel_rfl) ?_ _
          refine NoPanic.normal ?_
          have HB15 : Below w.heap.size w w15 := ((HB13.drew).trans (hb14.mono HB13.drew.size)).trans (hb15.mono (Nat.le_trans HB13.drew.size hb14.size))
          go_wp2_with fail
          go_ret
          exact ⟨rfl, HB15⟩
      · have u1 : (u != 0) = true := by rw [bne, u0]; rfl
        have cd := kd8.cell
        have d8 : decide (k < 1) = true := by rw [decide_eq_true_eq]; omega
        go_wp2_with fail
        clear cd
        refine (HU.out _).mono ?_
        rintro e w9 ⟨rfl, hb9⟩
        have kx9 := kx8.kept hb9
        have kd9 := kd8.kept hb9
        have kr9 := kr8.kept hb9
        have kq9 := kq8.kept hb9
        have hown9 := ownsRow_below hown8 hb9 (Nat.le_refl _)
        have HB9 : Below w.heap.size w w9 := HB8.trans (hb9.mono HB8.size)
        clear kx8 kd8 kr8 kq8 hb9 HB8 hown8 d8
        have cx := kx9.cell
        have cd := kd9.cell
        have cr := kr9.cell
        have cq := kq9.cell
        go_wp2_with fail
        clear hown9
        go_quiet (fail)
        go_wp2_with fail
        go_ret
        exact ⟨rfl, bel_drewN HB9 _⟩
    · have z1 : (z != 0) = true := by rw [bne, z0]; rfl
      rcases hu with rfl | ⟨u0, rfl, rfl⟩
      · have HAA1 := Lib.hid (HAA.out rfl); clear HAA
        have cd := kd8.cell
        have d8 : decide (k < 1) = true := by rw [decide_eq_true_eq]; omega
        go_wp2_with fail
        clear cd
        refine (HU.out _).mono ?_
        rintro e w9 ⟨rfl, hb9⟩
        have kx9 := kx8.kept hb9
        have kd9 := kd8.kept hb9
        have kr9 := kr8.kept hb9
        have kq9 := kq8.kept hb9
        have hown9 := ownsRow_below hown8 hb9 (Nat.le_refl _)
        have HB9 : Below w.heap.size w w9 := HB8.trans (hb9.mono HB8.size)
        clear kx8 kd8 kr8 kq8 hb9 HB8 hown8 d8
        have cx := kx9.cell
        have cd := kd9.cell
        have cr := kr9.cell
        have cq := kq9.cell
        go_wp2_with fail
        clear hown9
        clear cx cd cr cq
        refine wp_region_noPanic ?_
        refine wp_region_held_drew (S := fun W : World => (∀ i, W.cell? ⟨B1, i, none⟩ = (#[Value.int .i64 dx, Value.int .i64 dy] : Array Value)[i]?) ∧ (∀ i, W.cell? ⟨B3, i, none⟩ = (#[Value.int .i64 a0, Value.int .i64 a1] : Array Value)[i]?)) (by kernel_rfl) ?_ (fun hHeld => ?_)
        · exact ⟨kd9.cell, kq9.cell⟩
        refine wpAnyH_take (i := 0) (oi := _) (v := ?_) rfl (by kernel_rfl) (by kernel_rfl) (by kernel_rfl) (fun _ _ _ h => h) (Or.inl ⟨by rfl, ?_⟩) (by assumption) ?_
        rotate_left
        · (intro w hSw; (try dsimp only at hSw); go_simp; try with_reducible rfl)
        try simp only [List.getElem_toArray, List.getElem_cons_zero, List.getElem_cons_succ, Act.put, List.setIfInBounds_toArray, List.set_cons_zero, List.set_cons_succ]
        refine wpAnyH_take (i := 1) (oi := _) (v := ?_) rfl (by kernel_rfl) (by kernel_rfl) (by kernel_rfl) (fun _ _ _ h => h) (Or.inl ⟨by rfl, ?_⟩) (by assumption) ?_
        rotate_left
        · (intro w hSw; (try dsimp only at hSw); go_simp; try with_reducible rfl)
        try simp only [List.getElem_toArray, List.getElem_cons_zero, List.getElem_cons_succ, Act.put, List.setIfInBounds_toArray, List.set_cons_zero, List.set_cons_succ]
        refine wpAnyH_take (i := 2) (oi := _) (v := ?_) rfl (by kernel_rfl) (by kernel_rfl) (by kernel_rfl) (fun _ _ _ h => h) (Or.inl ⟨by rfl, ?_⟩) (by assumption) ?_
        rotate_left
        · (intro w hSw; (try dsimp only at hSw); go_simp; try with_reducible rfl)
        try simp only [List.getElem_toArray, List.getElem_cons_zero, List.getElem_cons_succ, Act.put, List.setIfInBounds_toArray, List.set_cons_zero, List.set_cons_succ]
        refine wpAnyH_take (i := 3) (oi := _) (v := ?_) rfl (by kernel_rfl) (by kernel_rfl) (by kernel_rfl) (fun _ _ _ h => h) (Or.inl ⟨by rfl, ?_⟩) (by assumption) ?_
        rotate_left
        · (intro w hSw; (try dsimp only at hSw); go_simp; try with_reducible rfl)
        try simp only [List.getElem_toArray, List.getElem_cons_zero, List.getElem_cons_succ, Act.put, List.setIfInBounds_toArray, List.set_cons_zero, List.set_cons_succ]
        refine wpAnyH_take (i := 4) (oi := _) (v := ?_) rfl (by kernel_rfl) (by kernel_rfl) (by kernel_rfl) (fun _ _ _ h => h) (Or.inl ⟨by rfl, ?_⟩) (by assumption) ?_
        rotate_left
        · (intro w hSw; (try dsimp only at hSw); go_simp; try with_reducible rfl)
        try simp only [List.getElem_toArray, List.getElem_cons_zero, List.getElem_cons_succ, Act.put, List.setIfInBounds_toArray, List.set_cons_zero, List.set_cons_succ]
        refine wpAnyH_take (i := 5) (oi := _) (v := ?_) rfl (by kernel_rfl) (by kernel_rfl) (by kernel_rfl) (fun _ _ _ h => h) (Or.inl ⟨by rfl, ?_⟩) (by assumption) ?_
        rotate_left
        · (intro w hSw; (try dsimp only at hSw); go_simp; try with_reducible rfl)
        try simp only [List.getElem_toArray, List.getElem_cons_zero, List.getElem_cons_succ, Act.put, List.setIfInBounds_toArray, List.set_cons_zero, List.set_cons_succ]
        refine wpAnyH_ready (rs := [6]) (by kernel_rfl) (by simp) ?_
        refine AllReadyH.cons (o := _) rfl (fun K hK => ?_) AllReadyH.nil
        go_simp
        refine (HAA1.out _).mono ?_
        rintro e12 w13 ⟨rfl, hb13⟩
        have kq13 := (kq9.drew).kept hb13
        have kd13 := (kd9.drew).kept hb13
        go_wp2_with fail
        refine hK.out _ _ ?_ (fun hHeld => ?_)
        · exact ⟨kd13.cell, kq13.cell⟩
        clear hK K
        try simp only [List.getElem_toArray, List.getElem_cons_zero, List.getElem_cons_succ, Act.put, List.setIfInBounds_toArray, List.set_cons_zero, List.set_cons_succ]
        refine wpAnyH_take (i := 7) (oi := _) (v := ?_) rfl (by kernel_rfl) (by kernel_rfl) (by kernel_rfl) (fun _ _ _ h => h) (Or.inl ⟨by rfl, ?_⟩) (by assumption) ?_
        rotate_left
        · (intro w hSw; (try dsimp only at hSw); go_simp; try with_reducible rfl)
        try simp only [List.getElem_toArray, List.getElem_cons_zero, List.getElem_cons_succ, Act.put, List.setIfInBounds_toArray, List.set_cons_zero, List.set_cons_succ]
        refine wpAnyH_take (i := 8) (oi := _) (v := ?_) rfl (by kernel_rfl) (by kernel_rfl) (by kernel_rfl) (fun _ _ _ h => h) (Or.inl ⟨by rfl, ?_⟩) (by assumption) ?_
        rotate_left
        · (intro w hSw; (try dsimp only at hSw); go_simp; try with_reducible rfl)
        try simp only [List.getElem_toArray, List.getElem_cons_zero, List.getElem_cons_succ, Act.put, List.setIfInBounds_toArray, List.set_cons_zero, List.set_cons_succ]
        refine wpAnyH_done (by kernel_rfl) ?_ _
        refine NoPanic.normal ?_
        have kx13 := (kx9.drew).kept hb13
        have kr13 := (kr9.drew).kept hb13
        have HB13 : Below w.heap.size w w13 := (HB9.drew).trans (hb13.mono HB9.drew.size)
        clear kx9 kd9 kr9 kq9 HB9 hb13 hHeld
        have cx := kx13.cell
        have cd := kd13.cell
        have cr := kr13.cell
        have cq := kq13.cell
        go_wp2_with fail
        go_ret
        exact ⟨rfl, HB13⟩
      · have u1 : (u != 0) = true := by rw [bne, u0]; rfl
        have cd := kd8.cell
        have d8 : decide (k < 1) = true := by rw [decide_eq_true_eq]; omega
        go_wp2_with fail
        clear cd
        refine (HU.out _).mono ?_
        rintro e w9 ⟨rfl, hb9⟩
        have kx9 := kx8.kept hb9
        have kd9 := kd8.kept hb9
        have kr9 := kr8.kept hb9
        have kq9 := kq8.kept hb9
        have hown9 := ownsRow_below hown8 hb9 (Nat.le_refl _)
        have HB9 : Below w.heap.size w w9 := HB8.trans (hb9.mono HB8.size)
        clear kx8 kd8 kr8 kq8 hb9 HB8 hown8 d8
        have cx := kx9.cell
        have cd := kd9.cell
        have cr := kr9.cell
        have cq := kq9.cell
        go_wp2_with fail
        clear hown9
        go_quiet (fail)
        go_wp2_with fail
        go_ret
        exact ⟨rfl, bel_drewN HB9 _⟩
end Go.Proofs.Ytgelgkgmgjhmnaa
