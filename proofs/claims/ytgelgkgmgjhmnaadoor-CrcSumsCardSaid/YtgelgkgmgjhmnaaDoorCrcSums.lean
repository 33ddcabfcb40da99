/-
  hachurelaw03.CrcSums returns true whatever the bytes and the sum.
-/
import Derived.Test.YtgelgkgmgjhmnaaDoorCrc
import Derived.Test.YtgelgkgmgjhmnaaDoorOwn
namespace Go.Proofs.YtgelgkgmgjhmnaaDoor
open Go.RowKit
set_option linter.unusedVariables false

theorem CrcSums_walk (A : Option Addr) (n c : Nat) (l : List UInt8) (A' : Option Addr) (n' c' : Nat) (l' : List UInt8) (s : Int) (w : World) (ht : Tab w)
    (h : Bts w w.heap.size A n l) (hA : A = none → n = 0 ∧ c = 0) (hnc : n ≤ c) (hc : c ≤ maxLen) (h' : Bts w w.heap.size A' n' l') (hA' : A' = none → n' = 0 ∧ c' = 0) (hnc' : n' ≤ c') (hc' : c' ≤ maxLen) (h1 : 0 ≤ s) (h2 : s ≤ 4294967295) :
    Calls Tryd.prog 3 #[.slice A n c, .slice A' n' c', .int .u32 s] w fun e w' => e = .returned (.bool true) ∧ Below w.heap.size w w' := by
  obtain ⟨i0, hi0, hz0, hz1, hz2⟩ := info_parts info_u8
  unfold maxLen at hc hc'
  have hlen := h.len
  have hlen' := h'.len
  subst hlen hlen'
  obtain ⟨m, rfl⟩ := Int.eq_ofNat_of_zero_le h1
  go_enter Tryd.func3, Tryd.ntmps3
  go_wp2_with fail
  refine (crcAwake _ ht).mono ?_
  rintro e w1 ⟨rfl, hb1⟩
  by_cases hbig : 2000 < l.length
  · go_wp2_with fail
    go_ret
    exact ⟨rfl, hb1⟩
  · by_cases hbig' : 2000 < l'.length
    · go_wp2_with fail
      go_ret
      exact ⟨rfl, hb1⟩
    · have hown0 : (w1.alloc (.cells #[] 5)).ownsRow w1.heap.size 5 1 (.slice (some ⟨w1.heap.size, 0, none⟩) 0 0) 0 [] := World.ownsRow_made w1 #[] 0 (Nat.le_refl _) (by simp) (by simp)
      have r1 : Reads w1 w1.heap.size 1 A l.length (byts l) := (Reads.below h hb1).wide hb1.size
      have r1' : Reads w1 w1.heap.size 1 A' l'.length (byts l') := (Reads.below h' hb1).wide hb1.size
      have s1 := r1.alloc (Nat.le_refl _) (.cells #[] 5)
      have s1' := r1'.alloc (Nat.le_refl _) (.cells #[] 5)
      go_wp2_with (first | (at_builtin; refine wpList_append_appl _ rfl (.tmp 18) (.tmp 19) _ rfl w1.heap.size 5 i0 _ 1 1 Tryd.underlying22 hi0 hz0 hz1 hz2 rfl (by omega) (.slice (some ⟨w1.heap.size, 0, none⟩) 0 0) 0 [] rfl (.inl hown0) w1.heap.size A l.length c (byts l) rfl s1 (byts_one _) (.inr hown0) (by simp only [maxLen]; omega) (by omega) (by simp) ?_; intro v5 w5 hown5 hB5 hg5 hat5; simp only [Nat.zero_add, List.nil_append] at hown5; obtain ⟨A5, c5, rfl, _⟩ := own_shape hown5; have s3 := s1'.later hB5 (Nat.le_refl _)) | (at_builtin; refine wpList_append_appl _ rfl (.tmp 20) (.tmp 21) _ rfl w1.heap.size 5 i0 _ 1 1 Tryd.underlying22 hi0 hz0 hz1 hz2 rfl (by omega) (.slice A5 l.length c5) _ _ rfl (.inl hown5) w1.heap.size A' l'.length c' (byts l') rfl s3 (byts_one _) (.inr hown5) (by simp only [maxLen]; omega) (by omega) (by have := hB5.size; simp at this; omega) ?_; intro v6 w6 hown6 hB6 hg6 hat6; obtain ⟨A6, c6, rfl, f6⟩ := own_shape hown6))
      rw [← byts_append] at hown6
      have hb6 : Below w.heap.size w w6 := (hb1.alloc hb1.size _).trans ((hB5.mono hb1.size).trans (hB6.mono hb1.size))
      have t6 : Tab w6 := ht.below hb6 ht.1
      have p6 : Bts w6 w6.heap.size A l.length l := (Reads.below h hb6).wide hb6.size
      have p6' : Bts w6 w6.heap.size A' l'.length l' := (Reads.below h' hb6).wide hb6.size
      have q6 : Bts w6 w6.heap.size A6 (l.length + l'.length) (l ++ l') := Reads.of_own hown6
      have K1 := Lib.hid (Sum_any A _ c l w6 t6 p6 (by omega))
      have K2 := Lib.hid (rSum_any A _ c l w6 p6 (by omega))
      have K3 := Lib.hid (More_any m A' _ c' l' w6 t6 p6' (by omega) (by omega))
      have K4 := Lib.hid (rMore_any m A' _ c' l' w6 p6' (by omega) (by omega))
      have K5 := Lib.hid (More_any (crcMore 0 l) A' _ c' l' w6 t6 p6' (crcMore_lt 0 l (by omega)) (by omega))
      have K6 := Lib.hid (Sum_any A6 _ c6 _ w6 t6 q6 (by omega))
      have K7 := Lib.hid (Sum_any none 0 0 [] w6 t6 Reads.empty (by omega))
      rw [crcMore_append] at K5
      have e7 : crcMore 0 [] = 0 := by decide
      rw [e7] at K7
      clear h h' hB5 hB6 hg5 hg6 hat5 hat6 hown5 hown6 s1 s1' s3 r1 r1' p6 p6' q6 hown0 e7
      refine K1.out.mono ?_
      rintro e w7 ⟨rfl, rfl⟩
      go_wp2_with fail
      refine K2.out.mono ?_
      rintro e w7 ⟨rfl, rfl⟩
      go_wp2_with fail
      refine K3.out.mono ?_
      rintro e w7 ⟨rfl, rfl⟩
      go_wp2_with fail
      refine K4.out.mono ?_
      rintro e w7 ⟨rfl, rfl⟩
      go_wp2_with fail
      refine K1.out.mono ?_
      rintro e w7 ⟨rfl, rfl⟩
      go_wp2_with fail
      refine K5.out.mono ?_
      rintro e w7 ⟨rfl, rfl⟩
      go_wp2_with fail
      refine K6.out.mono ?_
      rintro e w7 ⟨rfl, rfl⟩
      go_wp2_with fail
      refine K7.out.mono ?_
      rintro e w7 ⟨rfl, rfl⟩
      go_wp2_with fail
      go_ret
      exact ⟨rfl, hb6⟩
end Go.Proofs.YtgelgkgmgjhmnaaDoor
