/-
  slices.Grow of no slice, slices.Concat of slices of bytes: new memory that holds all their bytes, one behind the other.
-/
import Derived.Test.YtgelgkgmgjhmnaaDoorOwn
import Derived.Lib.AppendZeros
namespace Go.Proofs.YtgelgkgmgjhmnaaDoor
open Go.RowKit
set_option linter.unusedVariables false
set_option linter.unusedSimpArgs false

theorem Grow_nil (n : Nat) (w : World) (hn : n ≤ 140737488355328) :
    Calls Tryd.prog 35 #[.slice none 0 0, .int .i64 n] w (GivesB w []) := by
  obtain ⟨i0, hi0, hz0, hz1, hz2⟩ := info_parts info_u8
  by_cases h0 : 0 < n
  · have hap := Lib.run_append_nil_zeros (P := Tryd.prog) w 22 3 22 5 i0 _ .i64 .i64 Tryd.underlying22 Tryd.underlying3 hi0 hz0 n h0 (by omega) (by omega) (by rw [hz2]; omega)
    have hge := grownCap_ge w n 0 5
    have hle := grownCap_le_maxLen w n 0 5 (by simp only [maxLen]; omega)
    simp only [maxLen] at hle
    have hown : (w.drew.alloc (.cells (Builtin.zeroCells (Value.int .u8 0).cells n ++ Builtin.zeroCells (Value.int .u8 0).cells (grownCap w n 0 5 - n)) 5)).ownsRow w.heap.size 5 1 (.slice (some ⟨w.heap.size, 0, none⟩) 0 (grownCap w n 0 5)) 0 [] := by
      refine World.ownsRow_made w.drew _ _ (Nat.le_refl _) (by simp only [maxLen]; omega) ?_
      simp only [Array.size_append, size_zeroCells]
      simp [Value.cells]
      omega
    generalize grownCap w n 0 5 = cp at *
    generalize hX : (Builtin.zeroCells (Value.int .u8 0).cells n ++ Builtin.zeroCells (Value.int .u8 0).cells (cp - n)) = X at *
    have HAP := Lib.hid hap
    have HOWN := Lib.hid hown
    clear hX hap hown
    go_enter Tryd.func35, Tryd.ntmps35
    go_wp2_with (at_builtin; refine Lib.wpList_append_run _ rfl (.tmp 20) (.tmp 21) _ _ rfl _ _ rfl rfl _ _ HAP.out ?_)
    go_ret
    exact givesB_mk HOWN.out rfl ((Below.refl _ _).drew.alloc (Nat.le_refl _) _)
  · obtain rfl : n = 0 := by omega
    go_enter Tryd.func35, Tryd.ntmps35
    go_wp2_with fail
    go_ret
    exact givesB_mk (World.ownsRow_nil _ _ _ _) rfl (Below.refl _ _)

/-- a slice's head -/
structure Hd where
  ad : Option Addr
  n : Nat
  c : Nat
def Hd.val (h : Hd) : Value := .slice h.ad h.n h.c
/-- slices of bytes that show the lists ls -/
def Parts (w : World) (B : Nat) (hs : List Hd) (ls : List (List UInt8)) : Prop :=
  hs.length = ls.length ∧ ∀ (k : Nat) (h1 : k < hs.length) (h2 : k < ls.length), Bts w B hs[k].ad hs[k].n ls[k]
theorem Parts.below {w w' : World} {B B' : Nat} {hs : List Hd} {ls : List (List UInt8)} (h : Parts w B hs ls) (hb : Below B' w w') (hB : B ≤ B') : Parts w' B hs ls :=
  ⟨h.1, fun k h1 h2 => Reads.later (h.2 k h1 h2) hb hB⟩
def total (ls : List (List UInt8)) : Nat := (ls.map List.length).sum
theorem total_take (ls : List (List UInt8)) (k : Nat) (h : k < ls.length) : total (ls.take (k + 1)) = total (ls.take k) + ls[k].length := by
  unfold total
  rw [List.take_succ_eq_append_getElem h]
  simp only [List.map_append, List.sum_append, List.map_cons, List.map_nil, List.sum_cons, List.sum_nil, Nat.add_zero]
theorem total_le (ls : List (List UInt8)) (k : Nat) : total (ls.take k) ≤ total ls := by
  unfold total
  conv => rhs; rw [← List.take_append_drop k ls]
  simp only [List.map_append, List.sum_append]
  omega
theorem flat_take (ls : List (List UInt8)) (k : Nat) (h : k < ls.length) : (ls.take (k + 1)).flatten = (ls.take k).flatten ++ ls[k] := by
  rw [List.take_succ_eq_append_getElem h]
  simp only [List.flatten_append, List.flatten_cons, List.flatten_nil, List.append_nil]
theorem flat_len (ls : List (List UInt8)) : ls.flatten.length = total ls := by
  unfold total; simp [List.length_flatten]

set_option maxHeartbeats 1000000 in
theorem Concat_any (A : Option Addr) (c : Nat) (hs : List Hd) (ls : List (List UInt8)) (w : World) (hA : Reads w w.heap.size 1 A hs.length (hs.map Hd.val)) (hp : Parts w w.heap.size hs ls) (hl : hs.length ≤ 1000) (ht : total ls ≤ 70368744177664) :
    Calls Tryd.prog 26 #[.slice A hs.length c] w (GivesB w ls.flatten) := by
  obtain ⟨i0, hi0, hz0, hz1, hz2⟩ := info_parts info_u8
  have hll := hp.1
  go_enter Tryd.func26, Tryd.ntmps26
  have HLL := Lib.hid hll
  clear hll
  go_wp2_with fail
  go_loop [3, 5, 11] (fun z x i => ∃ k : Nat, k ≤ hs.length ∧ i = .int .i64 k ∧ z = .int .i64 (total (ls.take k) : Nat)) (fun _ _ i => hs.length - (intOf i).toNat)
  case atStart => exact ⟨0, by omega, rfl, by simp [total]⟩
  case round =>
    obtain ⟨k, hk, rfl, rfl⟩ := hrel
    have htl := total_le ls k
    by_cases hlt : k < hs.length
    · obtain ⟨ad, rfl, hadb, hcl⟩ := hA.2 (by omega)
      have hlt2 : k < ls.length := by have := HLL.out; omega
      have hck := hcl k hs[k].val (by simp [hlt])
      have hb := (hp.2 k hlt hlt2).len
      have ht2 := total_take ls k hlt2
      have hle2 := total_le ls (k + 1)
      obtain ⟨b, off, spot⟩ := ad
      have hsp : spot = none := by
        have h0 := hcl 0 hs[0].val (by simp [show 0 < hs.length by omega])
        simpa [Addr.add] using World.cell?_spot h0
      subst hsp
      rw [add_plain, Hd.val] at hck
      rw [hb] at ht2
      have HT := Lib.hid ht2
      have hbd : total (ls.take k) + hs[k].n ≤ 70368744177664 := by omega
      clear hcl hb ht2 hle2 hp hA
      go_wp2_with fail
      go_round
      case rel => exact ⟨k + 1, by omega, by go_num, by rw [HT.out]; go_num⟩
      case measure => simp [intOf]; omega
    · have e1 : ls.take k = ls := List.take_of_length_le (by have := HLL.out; omega)
      rw [e1]
      clear e1 htl
      go_wp2_with fail
      refine (Grow_nil _ _ (by omega)).mono ?_
      rintro e w1 ⟨A1, c1, rfl, hown1, hb1⟩
      go_wp2_with fail
      go_loopw [6, 8, 27] (fun v x i wr => ∃ (k : Nat) (A2 : Option Addr) (c2 : Nat), k ≤ hs.length ∧ i = .int .i64 k ∧ v = .slice A2 (total (ls.take k)) c2 ∧ wr.ownsRow w.heap.size 5 1 (.slice A2 (total (ls.take k)) c2) (total (ls.take k)) (byts (ls.take k).flatten) ∧ Below w.heap.size w wr) (fun _ _ i _ => hs.length - (intOf i).toNat)
      case atStart => exact ⟨0, A1, c1, by omega, rfl, by simp [total], by simpa [total] using hown1, hb1⟩
      case round =>
        obtain ⟨k, A2, c2, hk, rfl, rfl, hown, hbr⟩ := hrel
        clear hown1
        have htl := total_le ls k
        by_cases hlt : k < hs.length
        · have hA2 := hA.below hbr
          obtain ⟨ad, rfl, hadb, hcl⟩ := hA2.2 (by omega)
          have hlt2 : k < ls.length := by have := HLL.out; omega
          have hck := hcl k hs[k].val (by simp [hlt])
          have hbt := Reads.below (hp.2 k hlt hlt2) hbr
          have hb := Bts.len hbt
          have ht2 := total_take ls k hlt2
          have hle2 := total_le ls (k + 1)
          obtain ⟨b, off, spot⟩ := ad
          have hsp : spot = none := by
            have h0 := hcl 0 hs[0].val (by simp [show 0 < hs.length by omega])
            simpa [Addr.add] using World.cell?_spot h0
          subst hsp
          rw [add_plain, Hd.val] at hck
          rw [hb] at ht2
          have HT := Lib.hid ht2
          have HF := Lib.hid (flat_take ls k hlt2)
          have hbd : total (ls.take k) + hs[k].n ≤ 70368744177664 := by omega
          clear hcl hb ht2 hle2 hA2
          go_wp2_with (at_builtin; refine wpList_append_appl _ rfl (.tmp 31) (.tmp 32) _ rfl w.heap.size 5 i0 _ 1 1 Tryd.underlying22 hi0 hz0 hz1 hz2 rfl (by omega) (.slice A2 (total (ls.take k)) c2) _ _ rfl (.inl hown) w.heap.size hs[k].ad hs[k].n hs[k].c (byts ls[k]) rfl hbt (byts_one _) (.inr hown) (by simp only [maxLen]; omega) (by omega) hbr.size ?_; intro v1 w2 hown2 hB2 hg2 hat2; obtain ⟨A3, c3, rfl, _⟩ := own_shape hown2)
          go_roundw
          case rel =>
            refine ⟨k + 1, A3, c3, by omega, by go_num, by rw [HT.out], ?_, hbr.trans hB2⟩
            rw [HT.out, HF.out, byts_append]
            exact hown2
          case measure => simp [intOf]; omega
        · have e1 : ls.take k = ls := List.take_of_length_le (by have := HLL.out; omega)
          rw [e1] at hown ⊢
          clear e1 htl
          go_wp2_with fail
          go_ret
          exact givesB_mk hown rfl hbr
end Go.Proofs.YtgelgkgmgjhmnaaDoor
