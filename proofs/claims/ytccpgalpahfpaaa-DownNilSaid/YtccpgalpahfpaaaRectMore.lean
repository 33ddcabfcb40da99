/-
  rect.Area, rect.floor, rect.Nth.
-/
import Derived.Test.YtccpgalpahfpaaaRectAll
import Derived.Test.YtccpgalpahfpaaaKeep
namespace Go.Proofs.Ytccpgalpahfpaaa
open Go.RowKit
set_option linter.unusedVariables false
set_option linter.unusedSimpArgs false

/-- how many cells a rectangle has -/
def areaZ (x0 y0 x1 y1 : Int) : Int := if rightB x0 y0 x1 y1 = true then (x1 - x0 + 1) * (y1 - y0 + 1) else 0

set_option maxHeartbeats 1000000 in
theorem Area_any (x0 y0 x1 y1 : Int) (w : World) : Calls Try.prog 58 #[rectV x0 y0 x1 y1] w (Ret (.int .i64 (areaZ x0 y0 x1 y1)) w) := by
  by_cases hr : rightB x0 y0 x1 y1 = true
  · have he : areaZ x0 y0 x1 y1 = (x1 - x0 + 1) * (y1 - y0 + 1) := by unfold areaZ; rw [if_pos hr]
    have HE := Lib.hid he
    obtain ⟨h1, h2, h3, h4, h5, h6⟩ := (right_iff _ _ _ _).1 hr
    have hm : 0 ≤ (x1 - x0 + 1) * (y1 - y0 + 1) ∧ (x1 - x0 + 1) * (y1 - y0 + 1) ≤ 1048576 := by
      refine ⟨Int.mul_nonneg (by omega) (by omega), ?_⟩
      have := Int.mul_le_mul (show x1 - x0 + 1 ≤ 1024 by omega) (show y1 - y0 + 1 ≤ 1024 by omega) (by omega) (by omega)
      omega
    obtain ⟨m1, m2⟩ := hm
    have hr' := fun W => Right_any x0 y0 x1 y1 W
    rw [hr] at hr'
    have HR := Lib.hid hr'
    clear he hr hr'
    go_enter Try.func58, Try.ntmps58
    go_wp2_with fail
    refine (HR.out _).mono ?_
    rintro e w1 ⟨rfl, hb1⟩
    have C := (box4_new w (.int .i64 x0) (.int .i64 y0) (.int .i64 x1) (.int .i64 y1) 45).bel hb1 (by simp)
    have hz : w.heap.size < w1.heap.size := by have := hb1.size; simp at this; omega
    have HB : Below w.heap.size w w1 := ((Below.refl _ _).alloc (Nat.le_refl _) _).trans (hb1.mono (by simp))
    clear hb1 HR
    go_wp2_with fail
    have HX := Below.refl w1.heap.size w1
    have W1 : IntKind.i64.wrap (y1 - y0) = y1 - y0 := IntWalk.i64_in _ (by omega)
    have W2 : IntKind.i64.wrap (y1 - y0 + 1) = y1 - y0 + 1 := IntWalk.i64_in _ (by omega)
    have W3 : IntKind.i64.wrap ((x1 - x0 + 1) * (y1 - y0 + 1)) = (x1 - x0 + 1) * (y1 - y0 + 1) := IntWalk.i64_in _ (by omega)
    go_region_held3 (fun W => W.cell? ⟨w.heap.size, 0, none⟩ = some (.int .i64 x0) ∧ W.cell? ⟨w.heap.size, 1, none⟩ = some (.int .i64 y0) ∧ W.cell? ⟨w.heap.size, 2, none⟩ = some (.int .i64 x1) ∧ W.cell? ⟨w.heap.size, 3, none⟩ = some (.int .i64 y1))
      (first | exact C | exact C.bel HX hz)
      ((go_at_call 84; refine (width_any x0 y0 x1 y1 _ h1 h2 h3).mono ?_; rintro e w2 ⟨rfl, hb2⟩; replace HX := bel_trans_drew HX hb2 (Nat.le_refl _)))
    go_wp2_with fail
    go_ret
    rw [Ret, HE.out]
    exact ⟨rfl, HB.trans (HX.mono (by omega))⟩
  · have he : areaZ x0 y0 x1 y1 = 0 := by unfold areaZ; rw [if_neg hr]
    rw [he]
    have hr' := fun W => Right_any x0 y0 x1 y1 W
    rw [show rightB x0 y0 x1 y1 = false by simpa using hr] at hr'
    have HR := Lib.hid hr'
    clear he hr hr'
    go_enter Try.func58, Try.ntmps58
    go_wp2_with fail
    refine (HR.out _).mono ?_
    rintro e w1 ⟨rfl, hb1⟩
    go_wp2_with fail
    go_ret
    exact ⟨rfl, ((Below.refl _ _).alloc (Nat.le_refl _) _).trans (hb1.mono (by simp))⟩

theorem floor_fin : ∀ n : Fin 1024, bits .andNot .i64 (n.val : Int) 15 = (n.val : Int) - (n.val : Int) % 16 := by decide +kernel
theorem floor_bits (n : Int) (h1 : 0 ≤ n) (h2 : n < 1024) : bits .andNot .i64 n 15 = n - n % 16 := by
  obtain ⟨m, rfl⟩ := Int.eq_ofNat_of_zero_le h1
  exact floor_fin ⟨m, by omega⟩
theorem floor_any (n : Int) (w : World) (h1 : 0 ≤ n) (h2 : n < 1024) : Calls Try.prog 77 #[.int .i64 n] w fun e w' => e = .returned (.int .i64 (n - n % 16)) ∧ w = w' := by
  go_enter Try.func77, Try.ntmps77
  go_wp2_with fail
  go_ret
  exact ⟨ret_int (floor_bits n h1 h2), rfl⟩

set_option maxHeartbeats 2000000 in
theorem Nth_n (x0 y0 x1 y1 i n : Int) (w : World) (HA : Hid (∀ W, Calls Try.prog 58 #[rectV x0 y0 x1 y1] W (Ret (.int .i64 (n * (y1 - y0 + 1))) W))) (HN : Hid (∀ W, Calls Try.prog 84 #[rectV x0 y0 x1 y1] W (Ret (.int .i64 n) W)))
    (h1 : 0 ≤ x0) (h2 : x0 < 1024) (h4 : 0 ≤ y0) (h5 : y0 < 1024) (hn : 1 ≤ n) (hn' : n ≤ 1024) (hi : 0 ≤ i) (hi' : i < n * (y1 - y0 + 1)) (him : i < 1048576) :
    Calls Try.prog 50 #[rectV x0 y0 x1 y1, .int .i64 i] w (Ret (.tuple #[cellV (x0 + i % n) (y0 + i / n), .bool true]) w) := by
  have q1 : 0 ≤ i % n := Int.emod_nonneg _ (by omega)
  have q2 : i % n < n := Int.emod_lt_of_pos _ (by omega)
  have q3 : 0 ≤ i / n := Int.ediv_nonneg hi (by omega)
  have q4 : i / n ≤ i := Int.ediv_le_self _ hi
  have hne : ¬ n = 0 := by omega
  go_enter Try.func50, Try.ntmps50
  go_wp2_with fail
  refine (HA.out _).mono ?_
  rintro e w1 ⟨rfl, hb1⟩
  have C := ((box4_new w (.int .i64 x0) (.int .i64 y0) (.int .i64 x1) (.int .i64 y1) 45).bel (new_bel _ _) (by simp)).bel hb1 (by simp; omega)
  have D : Box2 w1 (w.heap.size + 1) (.int .i64 0) (.int .i64 0) := by simpa using (box2_new (w.alloc (.cells #[.int .i64 x0, .int .i64 y0, .int .i64 x1, .int .i64 y1] 45)) (.int .i64 0) (.int .i64 0) 24).bel hb1 (by simp)
  have hz : w.heap.size + 1 < w1.heap.size := by have := hb1.size; simp at this; omega
  have HB : Below w.heap.size w w1 := (((Below.refl _ _).alloc (Nat.le_refl _) _).alloc (by simp) _).trans (hb1.mono (by simp; omega))
  have f0 : w1.frozen? ⟨w.heap.size + 1, 0, none⟩ = false := (hb1.frozen (by simp)).trans (by simp)
  have f1 : w1.frozen? ⟨w.heap.size + 1, 1, none⟩ = false := (hb1.frozen (by simp)).trans (by simp)
  clear hb1 HA
  go_wp2_with fail
  refine (inside_yes _ _ _ hi hi').mono ?_
  rintro e w2 ⟨rfl, rfl⟩
  go_wp2_with fail
  have W1 : IntKind.i64.wrap (x0 + i % n) = x0 + i % n := IntWalk.i64_in _ (by omega)
  have W2 : IntKind.i64.wrap (y0 + i / n) = y0 + i / n := IntWalk.i64_in _ (by omega)
  have W3 : i.tmod n = i % n := Int.tmod_eq_emod_of_nonneg hi
  have W4 : IntKind.i64.wrap (i.tdiv n) = i / n := IntWalk.i64_quo _ _ (by omega)
  have HX := Below.refl w1.heap.size w1
  go_region_held3 (fun W => (W.cell? ⟨w.heap.size, 0, none⟩ = some (.int .i64 x0) ∧ W.cell? ⟨w.heap.size, 1, none⟩ = some (.int .i64 y0) ∧ W.cell? ⟨w.heap.size, 2, none⟩ = some (.int .i64 x1) ∧ W.cell? ⟨w.heap.size, 3, none⟩ = some (.int .i64 y1)))
    (first | exact C | exact C.bel HX (by omega) | exact ((C.bel HX (by omega)).set_ _ (by simp)).set_ _ (by simp))
    ((go_at_call 84; refine (HN.out _).mono ?_; rintro e w2 ⟨rfl, hb2⟩; (first | replace HX := bel_trans HX hb2 (Nat.le_refl _) | replace HX := bel_trans_drew HX hb2 (Nat.le_refl _)); obtain ⟨dd0, dd1⟩ := D.bel HX (by omega); have ff0 := bel_froz HX _ (by simpa using hz) f0; have ff1 := bel_froz HX _ (by simpa using hz) f1))
  go_wp2_with fail
  refine bodyPost_ret (v := .tuple #[cellV (x0 + i % n) (y0 + i / n), .bool true]) (by simp [results, Try.results50, go_sem, dd0, dd1]) rfl ⟨rfl, ?_⟩
  exact ((HB.trans (HX.mono (by omega))).setCell (by simp) _).setCell (by simp) _

theorem Nth_ok (x0 y0 x1 y1 i : Int) (w : World) (hr : rightB x0 y0 x1 y1 = true) (hi : 0 ≤ i) (hi' : i < (x1 - x0 + 1) * (y1 - y0 + 1)) :
    Calls Try.prog 50 #[rectV x0 y0 x1 y1, .int .i64 i] w (Ret (.tuple #[cellV (x0 + i % (x1 - x0 + 1)) (y0 + i / (x1 - x0 + 1)), .bool true]) w) := by
  have hA := fun W => Area_any x0 y0 x1 y1 W
  have he : areaZ x0 y0 x1 y1 = (x1 - x0 + 1) * (y1 - y0 + 1) := by unfold areaZ; rw [if_pos hr]
  rw [he] at hA
  obtain ⟨h1, h2, h3, h4, h5, h6⟩ := (right_iff _ _ _ _).1 hr
  have hm : (x1 - x0 + 1) * (y1 - y0 + 1) ≤ 1048576 := by
    have := Int.mul_le_mul (show x1 - x0 + 1 ≤ 1024 by omega) (show y1 - y0 + 1 ≤ 1024 by omega) (by omega) (by omega)
    omega
  exact Nth_n x0 y0 x1 y1 i _ w (Lib.hid hA) (Lib.hid fun W => width_any x0 y0 x1 y1 W h1 h2 h3) h1 (by omega) h4 (by omega) (by omega) (by omega) hi hi' (by omega)
end Go.Proofs.Ytccpgalpahfpaaa
