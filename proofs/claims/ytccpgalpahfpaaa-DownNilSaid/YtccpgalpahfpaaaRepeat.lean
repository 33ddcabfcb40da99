/-
  slices.Repeat of a row of int32 with one element.
-/
import Derived.Test.YtccpgalpahfpaaaSlab
import Derived.Test.YtccpgalpahfpaaaShelfMul
import Derived.Laws.CopyOwn
namespace Go.Proofs.Ytccpgalpahfpaaa
open Go.RowKit
set_option linter.unusedVariables false
set_option linter.unusedSimpArgs false

theorem info_i32 : (Try.prog.info? 21).map (fun i => (i.zero, i.size, i.bytes)) = some (some (.int .i32 0), 1, 4) := by kernel_rfl
theorem size_i32 : (Try.prog.info? 21).map (·.size) = some 1 := by kernel_rfl
/-- the first m are v -/
def rep (n m : Nat) (v : Int) : List Value := (List.range n).map fun k => Value.int .i32 (if k < m then v else 0)
theorem rep_len (n m : Nat) (v : Int) : (rep n m v).length = n := by simp [rep]
theorem rep_at (n m : Nat) (v : Int) (k : Nat) (h : k < n) : (rep n m v)[k]? = some (.int .i32 (if k < m then v else 0)) := by simp [rep, h]
theorem rep_splice (n m c : Nat) (v : Int) (h : m + c ≤ n) : splice (rep n m v) m (List.replicate c (.int .i32 v)) = rep n (m + c) v := by
  apply List.ext_getElem?
  intro k
  unfold splice
  rcases Nat.lt_or_ge k m with h1 | h1
  · rw [List.getElem?_append_left (by simp [rep_len]; omega), List.getElem?_take, if_pos h1, rep_at _ _ _ _ (by omega), rep_at _ _ _ _ (by omega), if_pos h1, if_pos (by omega)]
  · rw [List.getElem?_append_right (by simp; omega), List.length_take, rep_len, Nat.min_eq_left (by omega)]
    rcases Nat.lt_or_ge k (m + c) with h2 | h2
    · rw [List.getElem?_append_left (by simp; omega), List.getElem?_replicate, if_pos (by omega), rep_at _ _ _ _ (by omega), if_pos h2]
    · rw [List.getElem?_append_right (by simp; omega), List.getElem?_drop, List.length_replicate, show m + c + (k - m - c) = k by omega]
      rcases Nat.lt_or_ge k n with h3 | h3
      · rw [rep_at _ _ _ _ h3, rep_at _ _ _ _ h3, if_neg (by omega), if_neg (by omega)]
      · rw [List.getElem?_eq_none (by rw [rep_len]; exact h3), List.getElem?_eq_none (by rw [rep_len]; exact h3)]
theorem rep_zero (n : Nat) (v : Int) : List.replicate n (Value.int .i32 0) = rep n 0 v := by
  apply List.ext_getElem?
  intro k
  rcases Nat.lt_or_ge k n with h | h
  · rw [rep_at _ _ _ _ h, List.getElem?_replicate, if_pos h, if_neg (by omega)]
  · rw [List.getElem?_eq_none (by simpa using h), List.getElem?_eq_none (by rw [rep_len]; exact h)]
theorem rep_all (n : Nat) (v : Int) : (rep n n v).toArray = rowA n (fun _ => v) := by
  unfold rep rowA
  congr 1
  exact List.map_congr_left fun k hk => by rw [if_pos (by simpa using hk)]

/-- it gives a new row -/
def GivesRow (w : World) (n : Nat) (f : Nat → Int) (e : Ending) (w' : World) : Prop :=
  ∃ g, e = .returned (.slice (some ⟨g, 0, none⟩) n n) ∧ w.heap.size ≤ g ∧ Blk w' g 21 (rowA n f) ∧ Below w.heap.size w w'

theorem made_rep (n : Nat) (v : Int) : madeCells (Value.cells (.int .i32 0)) (n * 1) = (rep n 0 v).toArray := by
  rw [← rep_zero, Nat.mul_one]
  apply Array.ext_getElem?
  intro k
  simp [madeCells, Value.cells]
  rcases Nat.lt_or_ge k n with h | h
  · simp [h, Nat.mod_one]
  · simp [Nat.not_lt.2 h]

theorem one_src {w : World} {p : Addr} {x : Value} (h : w.cell? p = some x) : ∀ j u, [x][j]? = some u → w.cell? (p.add j) = some u := by
  intro j u hj
  rcases j with _ | j
  · simp at hj; subst hj; simpa [Addr.add] using h
  · simp at hj

theorem rep_src {w : World} {g n m k : Nat} {v : Int} {t : TypeId} (h : Blk w g t (rep n m v).toArray) (hk : k ≤ m) (hm : m ≤ n) : ∀ j u, (List.replicate k (Value.int .i32 v))[j]? = some u → w.cell? ((⟨g, 0, none⟩ : Addr).add j) = some u := by
  intro j u hj
  rw [List.getElem?_replicate] at hj
  split at hj
  · rw [add_plain, Nat.zero_add, h.cell j]
    rw [← hj]
    have := rep_at n m v j (by omega)
    rw [if_pos (by omega)] at this
    simpa using this
  · cases hj

set_option maxHeartbeats 2000000 in
set_option maxRecDepth 100000 in
theorem Repeat_ok (p c n : Nat) (v : Int) (w : World) (hp : w.cell? ⟨p, 0, none⟩ = some (.int .i32 v)) (h1 : 1 ≤ n) (h2 : n ≤ 256) :
    Calls Try.prog 93 #[.slice (some ⟨p, 0, none⟩) 1 c, .int .i64 n] w (GivesRow w n (fun _ => v)) := by
  obtain ⟨i0, hi0, hz0, hz1, hz2⟩ := info_parts info_i32
  have hlt := World.block_lt_of_cell? w _ hp
  have hmk := run_make (P := Try.prog) w 135 21 i0 (.int .i32 0) Try.underlying135 hi0 hz0 .i64 .i64 n n (by omega) (Int.le_refl _) (by rw [hz2]; omega) (by omega)
  rw [hz1, Int.toNat_natCast, made_rep n v] at hmk
  have t1 : decide ((n : Int) < 0) = false := decide_eq_false (by omega)
  have t2 : decide ((9223372036854775807 : Int) < (n : Int)) = false := decide_eq_false (by omega)
  have HP : Hid ((w.alloc (.cells (rep n 0 v).toArray 21)).cell? ⟨p, 0, none⟩ = some (.int .i32 v)) := Lib.hid ((World.cell?_alloc_lt w _ _ hlt).trans hp)
  have HG0 : Hid ((w.alloc (.cells (rep n 0 v).toArray 21)).heap[w.heap.size]? = some (.cells (rep n 0 v).toArray 21 (0, 0))) := Lib.hid (Blk.new w 21 (rep n 0 v).toArray)
  have C1 : Hid ([Value.int .i32 v].length = Nat.min 1 n) := Lib.hid (Nat.min_eq_left h1).symm
  have C3 : Hid (0 + [Value.int .i32 v].length ≤ (rep n 0 v).length) := Lib.hid (by rw [rep_len]; simpa using h1)
  have C4 : Hid (∀ u ∈ [Value.int .i32 v], u.oneCell' = true) := Lib.hid (by intro u hu; simp at hu; subst hu; rfl)
  clear hz0 hz1 hz2 hi0 hp
  go_enter Try.func93, Try.ntmps93
  go_wp2_with fail
  refine (Mul_one n (by omega) _).mono ?_
  rintro e w1 ⟨rfl, rfl⟩
  go_wp2_with ((with_reducible refine wpList_copy_splice rfl (.tmp 31) (.tmp 32) _ _ rfl 21 Try.underlying135 size_i32 _ _ _ _ _ _ rfl rfl w.heap.size 0 (rep n 0 v) 21 HG0.out [.int .i32 v] ?_ ?_ ?_ ?_ w.heap.size w (new_bel w _) (Nat.le_refl _) ?_); (go_must (exact C1.out)); (go_must (exact fun _ => ⟨rfl, _, rfl, one_src HP.out⟩)); (go_must (exact C3.out)); (go_must (exact C4.out)); intro w2 HG2 hB2)
  have HG : Hid (Blk w2 w.heap.size 21 (rep n 1 v).toArray) := Lib.hid (by
    have := HG2.out
    have e := rep_splice n 0 1 v (by omega)
    simp only [List.replicate, Nat.zero_add] at e
    rw [e] at this
    exact this)
  clear HG0 HG2 C1 C3 C4 HP hmk t1 t2
  go_wp2_with fail
  go_loopw [8] (fun t wr => ∃ m : Nat, 1 ≤ m ∧ m ≤ n ∧ t = .int .i64 m ∧ Hid (Blk wr w.heap.size 21 (rep n m v).toArray) ∧ Below w.heap.size w wr) (fun t _ => n - (intOf t).toNat)
  case atStart => exact ⟨1, by omega, by omega, rfl, HG, hB2⟩
  case round =>
    obtain ⟨m, m1, m2, rfl, HGm, hbr⟩ := hrel
    by_cases hlt : m < n
    · have q1 : (0 : Int) ≤ (m : Int) := by omega
      have q2 : (m : Int) ≤ (n : Int) := by omega
      obtain ⟨k, hk⟩ : ∃ k, Nat.min m (n - m) = k := ⟨_, rfl⟩
      have hk1 : 1 ≤ k ∧ k ≤ m ∧ m + k ≤ n := by rw [← hk]; simp only [Nat.min_def]; split <;> omega
      have C1 : Hid ((List.replicate k (Value.int .i32 v)).length = Nat.min m (n - m)) := Lib.hid (by rw [hk]; simp)
      have C3 : Hid (m + (List.replicate k (Value.int .i32 v)).length ≤ (rep n m v).length) := Lib.hid (by rw [rep_len]; simp; omega)
      have C4 : Hid (∀ u ∈ List.replicate k (Value.int .i32 v), u.oneCell' = true) := Lib.hid (by intro u hu; rw [List.eq_of_mem_replicate hu]; rfl)
      have hne : ¬ n = m := by omega
      have W1 : IntKind.i64.wrap ((m : Int) + (k : Int)) = (m : Int) + (k : Int) := IntWalk.i64_in _ (by omega)
      clear hk
      go_wp2_with fail
      go_region_held3 (fun _ => True) (trivial)
        ((refine step_copy_splice rfl (.tmp 41) (.tmp 44) _ _ rfl 21 Try.underlying135 size_i32 _ _ _ _ _ _ rfl rfl w.heap.size m (rep n m v) 21 HGm.out (List.replicate k (.int .i32 v)) ?_ ?_ C3.out C4.out w.heap.size w hbr.drew (Nat.le_refl _) ?_; (go_must (exact C1.out)); (go_must (exact fun _ => ⟨rfl, _, rfl, rep_src HGm.out (by omega) (by omega)⟩)); intro w3 HG3 hB3))
      go_wp2_with fail
      clear W1
      refine ⟨⟨m + k, by omega, by omega, by go_num, Lib.hid ?_, hB3⟩, ?_⟩
      · have := HG3.out
        rw [rep_splice n m k v (by omega)] at this
        exact this
      · simp only [intOf]
        omega
    · have e : m = n := by omega
      subst e
      go_wp2_with fail
      go_ret
      exact ⟨w.heap.size, rfl, Nat.le_refl _, by rw [← rep_all]; exact HGm.out, hbr⟩
end Go.Proofs.Ytccpgalpahfpaaa
