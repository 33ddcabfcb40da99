/-
  The document's list of the levels' sizes (hachureref15.Sizes), and the plain facts of the halves.
-/
import Derived.Test.YtgelgkgmgjhmnaaRect
import Derived.Test.YtgelgkgmgjhmnaaOwn
namespace Go.Proofs.Ytgelgkgmgjhmnaa
open Go.RowKit
set_option linter.unusedVariables false
set_option linter.unusedSimpArgs false

theorem halfZ_zero (n : Int) : halfZ n 0 = n := by unfold halfZ; simp

theorem halfZ_succ (n : Int) (j : Nat) : (halfZ n j + 1) / 2 = halfZ n (j + 1) := by
  unfold halfZ
  rw [Int.pow_succ, ← Int.ediv_ediv_of_nonneg (Int.le_of_lt (Int.pow_pos (by omega)))]
  omega

theorem halfZ_big (n : Int) (j : Nat) : 1 < halfZ n j ↔ 2 ^ j ≤ n - 1 := by
  have hp : (0 : Int) < 2 ^ j := Int.pow_pos (by omega)
  unfold halfZ
  have := Int.le_ediv_iff_mul_le (a := 1) (b := n - 1) hp
  rw [Int.one_mul] at this
  rw [← this]
  omega

theorem bitLen_lt (n j : Nat) (hn : n < 2 ^ 64) : j < Lib.bitLen n ↔ 2 ^ j ≤ n := by
  constructor
  · intro h
    by_cases c : n < 2 ^ j
    · have := Lib.bitLenAux_le 64 n j c
      unfold Lib.bitLen at h
      omega
    · omega
  · intro h
    have hp : 0 < 2 ^ j := Nat.two_pow_pos j
    rw [Lib.bitLen_shift j n h hn]
    have h1 : 1 ≤ n / 2 ^ j := (Nat.le_div_iff_mul_le hp).2 (by omega)
    have h2 : n / 2 ^ j ≤ n := Nat.div_le_self _ _
    rw [Lib.bitLen_half (n / 2 ^ j) (by omega) (by omega)]
    omega

theorem lev_lt {a b : Int} (h : SizeOk a b) (j : Nat) : j + 1 < levN a b ↔ (1 < halfZ a j ∨ 1 < halfZ b j) := by
  obtain ⟨h1, h2, h3, h4⟩ := h
  rw [halfZ_big, halfZ_big]
  unfold levN
  have := bitLen_lt (max a b - 1).toNat j (by omega)
  have e : ((2 ^ j : Nat) : Int) = 2 ^ j := by simp
  rw [← e]
  omega

/-- cells in memory -/
def cel (l : List (Int × Int)) : List Value := l.flatMap fun p => [.int .i64 p.1, .int .i64 p.2]
theorem cel_append (l m : List (Int × Int)) : cel (l ++ m) = cel l ++ cel m := by simp [cel]
theorem cel_length (l : List (Int × Int)) : (cel l).length = l.length * 2 := by
  induction l with
  | nil => rfl
  | cons p l ih => simp [cel] at ih ⊢; omega
theorem cel_one (l : List (Int × Int)) : ∀ u ∈ cel l, u.oneCell' = true := by
  intro u hu
  simp [cel] at hu
  obtain ⟨x, y, _, h⟩ := hu
  rcases h with rfl | rfl <;> rfl
theorem cel_at : ∀ (l : List (Int × Int)) (k : Nat) (h : k < l.length), (cel l)[k * 2]? = some (.int .i64 l[k].1) ∧ (cel l)[k * 2 + 1]? = some (.int .i64 l[k].2)
  | p :: l, 0, _ => by simp [cel]
  | p :: l, k + 1, h => by
    have ih := cel_at l k (by simpa using h)
    have e : cel (p :: l) = .int .i64 p.1 :: .int .i64 p.2 :: cel l := by simp [cel]
    rw [e, show (k + 1) * 2 = k * 2 + 1 + 1 from by omega]
    simpa using ih

/-- the first j sizes -/
def szs (a b : Int) (j : Nat) : List (Int × Int) := (List.range j).map fun i => (halfZ a i, halfZ b i)
@[simp] theorem szs_length (a b : Int) (j : Nat) : (szs a b j).length = j := by simp [szs]
theorem szs_succ (a b : Int) (j : Nat) : szs a b (j + 1) = szs a b j ++ [(halfZ a j, halfZ b j)] := by simp [szs, List.range_succ]
theorem szs_at (a b : Int) (j k : Nat) (h : k < (szs a b j).length) : (szs a b j)[k] = (halfZ a k, halfZ b k) := by simp [szs]

theorem info_cell : (Try.prog.info? 44).map (fun i => (i.zero, i.size, i.bytes)) = some (some (.agg #[.int .i64 0, .int .i64 0]), 2, 16) := by kernel_rfl

theorem reads_cells (w : World) (l : List (Int × Int)) (e : TypeId) (C : Array Value) (hC : C = (cel l).toArray) : Reads (w.alloc (.cells C e)) (w.heap.size + 1) 2 (some ⟨w.heap.size, 0, none⟩) l.length (cel l) := by
  subst hC
  refine ⟨cel_length l, fun _ => ⟨_, rfl, Nat.lt_succ_self _, fun j u hj => ?_⟩⟩
  rw [add_plain, Nat.zero_add]
  simpa using hj

theorem own_new (w : World) (l : List (Int × Int)) (e : TypeId) (C : Array Value) (hC : C = (cel l).toArray) (hl : l.length ≤ maxLen) {base : Nat} (hb : base ≤ w.heap.size) : (w.alloc (.cells C e)).ownsRow base e 2 (.slice (some ⟨w.heap.size, 0, none⟩) l.length l.length) l.length (cel l) := by
  subst hC
  refine ⟨cel_length l, .inr ⟨w.heap.size, _, _, rfl, hb, heap_alloc_new w _, Nat.le_refl _, hl, by simp [cel_length], ?_⟩⟩
  rw [List.take_of_length_le (by simp [cel_length])]

theorem rSizes_bad (a b : Int) (w : World) (h : ¬ SizeOk a b) :
    Calls Try.prog 23 #[.int .i64 a, .int .i64 b] w fun e w' => e = .returned (.slice none 0 0) ∧ w = w' := by
  unfold SizeOk at h
  rcases (show a < 1 ∨ (1 ≤ a ∧ 1024 < a) ∨ (1 ≤ a ∧ a ≤ 1024 ∧ b < 1) ∨ (1 ≤ a ∧ a ≤ 1024 ∧ 1 ≤ b ∧ 1024 < b) from by omega) with c | c | c | c
  all_goals
    clear h
    go_enter Try.func23, Try.ntmps23
    go_wp2_with fail
    go_ret
    exact ⟨rfl, rfl⟩

set_option maxHeartbeats 1000000 in
set_option maxRecDepth 100000 in
theorem rSizes_ok (a b : Int) (w : World) (h : SizeOk a b) :
    Calls Try.prog 23 #[.int .i64 a, .int .i64 b] w fun e w' => ∃ A c, e = .returned (.slice A (levN a b) c) ∧ w'.ownsRow w.heap.size 44 2 (.slice A (levN a b) c) (levN a b) (cel (szs a b (levN a b))) ∧ Below w.heap.size w w' := by
  have hl := levN_le h
  obtain ⟨h1, h2, h3, h4⟩ := id h
  obtain ⟨i0, hi0, hz0, hz1, hz2⟩ := info_parts info_cell
  have hown0 := own_new w [(a, b)] 44 #[.int .i64 a, .int .i64 b] (by simp [cel]) (by simp [maxLen]) (base := w.heap.size) (Nat.le_refl _)
  have hlev : 0 < levN a b := by unfold levN; omega
  have HLT : Hid (∀ j, j + 1 < levN a b ↔ (1 < halfZ a j ∨ 1 < halfZ b j)) := fun j => lev_lt h j
  clear h
  go_enter Try.func23, Try.ntmps23
  go_wp2_with fail
  go_loopw [0, 1, 5] (fun p q v wr => ∃ (j : Nat) (A : Option Addr) (c : Nat), j + 1 ≤ levN a b ∧ p = .int .i64 (halfZ a j) ∧ q = .int .i64 (halfZ b j) ∧ v = .slice A (j + 1) c ∧ wr.ownsRow w.heap.size 44 2 (.slice A (j + 1) c) (j + 1) (cel (szs a b (j + 1))) ∧ Below w.heap.size w wr) (fun p q _ _ => (intOf p + intOf q).toNat)
  case atStart => exact ⟨0, _, _, by omega, by rw [halfZ_zero], by rw [halfZ_zero], rfl, by simpa [szs, halfZ_zero] using hown0, (Below.refl _ _).alloc (Nat.le_refl _) _⟩
  case round =>
    obtain ⟨j, A, c, hj, rfl, rfl, rfl, hown, hbr⟩ := hrel
    clear hown0
    obtain ⟨pa, pa2⟩ := halfZ_pos a j h1 h2
    obtain ⟨pb, pb2⟩ := halfZ_pos b j h3 h4
    have ea := Lib.hid (halfZ_succ a j)
    have eb := Lib.hid (halfZ_succ b j)
    have hj1 := Lib.hid (HLT.out j)
    obtain ⟨p, hp⟩ : ∃ p, halfZ a j = p := ⟨_, rfl⟩
    obtain ⟨q, hq⟩ : ∃ q, halfZ b j = q := ⟨_, rfl⟩
    rw [hp] at ea hj1 pa pa2 ⊢
    rw [hq] at eb hj1 pb pb2 ⊢
    clear hp hq
    by_cases hgo : 1 < p ∨ 1 < q
    · have hj2 : j + 1 < levN a b := hj1.out.2 hgo
      have hsz : wr.heap.size < wr.heap.size + 1 := by omega
      rcases (show 1 < p ∨ (p ≤ 1 ∧ 1 < q) from by omega) with g | g
      all_goals
        clear hgo
        go_wp2_with (at_builtin; refine wpList_append_appl _ rfl (.tmp 36) (.tmp 40) _ rfl w.heap.size 44 i0 _ 2 16 Try.underlying41 hi0 hz0 hz1 hz2 rfl (by omega) (.slice A (j + 1) c) _ _ rfl (.inl (hown.alloc _)) (wr.heap.size + 1) (some ⟨wr.heap.size, 0, none⟩) 1 1 (cel [((p + 1) / 2, (q + 1) / 2)]) rfl (reads_cells _ _ _ _ (by simp [cel])) (cel_one _) (.inl (by omega)) (by simp only [maxLen]; omega) (by omega) (by have := hbr.size; simp; omega) ?_; intro v1 w1 hown1 hB1 hg1 hat1)
        go_roundw
        case rel =>
          obtain ⟨A3, c3, rfl, _⟩ := own_shape hown1
          rw [ea.out, eb.out] at hown1 ⊢
          refine ⟨j + 1, A3, c3, by omega, rfl, rfl, rfl, ?_, (hbr.alloc hbr.size _).trans hB1⟩
          rw [szs_succ a b (j + 1), cel_append]
          exact hown1
        case measure =>
          simp only [intOf]
          omega
    · have g1 : p ≤ 1 := by omega
      have g2 : q ≤ 1 := by omega
      have hj2 : Hid (levN a b = j + 1) := by
        unfold Hid
        have := hj1.out
        omega
      clear hgo
      go_wp2_with fail
      go_ret
      exact ⟨A, c, by rw [hj2.out]; rfl, by rw [hj2.out]; exact hown, hbr⟩
end Go.Proofs.Ytgelgkgmgjhmnaa
