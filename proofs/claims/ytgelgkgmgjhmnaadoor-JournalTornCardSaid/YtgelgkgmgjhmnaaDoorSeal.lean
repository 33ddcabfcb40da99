/-
  crc.Seal, crc.Open, bytes.Equal and the document's own: they compute sealB and openB.
-/
import Derived.Test.YtgelgkgmgjhmnaaDoorCrc
import Derived.Test.YtgelgkgmgjhmnaaDoorConcat
import Derived.Test.YtgelgkgmgjhmnaaDoorSealPlain
import Derived.Deep.QuietTactic
import Derived.BigQuiet
import Derived.Deep.RegionHeld3
namespace Go.Proofs.YtgelgkgmgjhmnaaDoor
open Go.RowKit
set_option linter.unusedVariables false
set_option linter.unusedSimpArgs false

theorem own_lit4 (w : World) (xs : List Value) (h : xs.length = 4) (C : Array Value) (hC : C = xs.toArray) : (w.alloc (.cells C 5)).ownsRow w.heap.size 5 1 (.slice (some ⟨w.heap.size, 0, none⟩) 4 4) 4 xs := by
  subst hC
  have := World.ownsRow_lit (base := w.heap.size) (e := 5) (size := 1) w xs.toArray 4 (Nat.le_refl _) (by simp [maxLen]) (by simpa using h)
  simpa using this

theorem tail_any (s : Nat) (w : World) (hs : s < 4294967296) : Calls Tryd.prog 27 #[.int .u32 s] w (GivesB w (tailB s)) := by
  go_enter Tryd.func27, Tryd.ntmps27
  go_wp2
  go_ret
  refine givesB_mk (own_lit4 w (byts (tailB s)) rfl _ ?_) rfl ((Below.refl _ _).alloc (Nat.le_refl _) _)
  have e : (s : Int) / 16777216 % 256 = (s : Int) / 16777216 := by omega
  rw [tailB_byts, e]
theorem rTail_any (s : Nat) (w : World) (hs : s < 4294967296) : Calls Tryd.prog 30 #[.int .u32 s] w (GivesB w (tailB s)) := by
  go_enter Tryd.func30, Tryd.ntmps30
  go_wp2
  go_ret
  refine givesB_mk (own_lit4 w (byts (tailB s)) rfl _ ?_) rfl ((Below.refl _ _).alloc (Nat.le_refl _) _)
  have e : (s : Int) / 16777216 % 256 = (s : Int) / 16777216 := by omega
  rw [tailB_byts, e]

theorem Equal_any (A : Option Addr) (n c : Nat) (l : List UInt8) (A' : Option Addr) (n' c' : Nat) (l' : List UInt8) (w : World) (B B' : Nat) (h : Bts w B A n l) (h' : Bts w B' A' n' l') :
    Calls Tryd.prog 28 #[.slice A n c, .slice A' n' c'] w fun e w' => e = .returned (.bool (l == l')) ∧ w = w' := by
  have q1 := conv_bytes (P := Tryd.prog) 22 9 5 Tryd.underlying22 Tryd.underlying5 Tryd.underlying9 h c
  have q2 := conv_bytes (P := Tryd.prog) 22 9 5 Tryd.underlying22 Tryd.underlying5 Tryd.underlying9 h' c'
  go_enter Tryd.func28, Tryd.ntmps28
  go_wp2
  go_ret
  exact ⟨rfl, rfl⟩

theorem Seal_any (A : Option Addr) (n c : Nat) (l : List UInt8) (w : World) (ht : Tab w) (h : Bts w w.heap.size A n l) (hn : n ≤ 35184372088832) :
    Calls Tryd.prog 14 #[.slice A n c] w (GivesB w (sealB l)) := by
  have hlen := h.len
  go_enter Tryd.func14, Tryd.ntmps14
  have HL := Lib.hid hlen
  clear hlen
  go_wp2_with fail
  refine (Sum_any A n c l _ ht h (by omega)).mono ?_
  rintro e w1 ⟨rfl, rfl⟩
  go_wp2_with fail
  refine (tail_any _ _ (crcMore_lt 0 l (by omega))).mono ?_
  rintro e w2 ⟨A2, c2, rfl, hown2, hb2⟩
  have hC := Concat_any (some ⟨w2.heap.size, 0, none⟩) 2 [⟨A, n, c⟩, ⟨A2, 4, c2⟩] [l, tailB (crcMore 0 l)] (w2.alloc (.cells #[.slice A n c, .slice A2 4 c2] 22))
    (by have := reads_newN w2 [.slice A n c, .slice A2 4 c2] 22 _ rfl
        simpa [Hd.val] using this)
    (by
      refine ⟨rfl, fun k h1 h2 => ?_⟩
      have hk : k = 0 ∨ k = 1 := by simp at h1; omega
      rcases hk with rfl | rfl
      · exact (((Reads.below h hb2).wide hb2.size).alloc (Nat.le_refl _) _).wide (by simp)
      · exact ((Reads.of_own hown2).alloc (Nat.le_refl _) _).wide (by simp)) (by simp) (by have := HL.out; simp [total, tailB]; omega)
  have HC := Lib.hid hC
  clear hC
  go_wp2_with fail
  refine HC.out.mono ?_
  rintro e w3 ⟨A3, c3, rfl, hown3, hb3⟩
  have HB : Below w.heap.size w w3 := (hb2.alloc hb2.size _).trans (hb3.mono (by have := hb2.size; simp; omega))
  have e1 : ([l, tailB (crcMore 0 l)] : List (List UInt8)).flatten = sealB l := by simp [sealB]
  rw [e1] at hown3 ⊢
  have HO := ownsRow_low hown3 (show w.heap.size ≤ _ by have := hb2.size; simp; omega)
  clear hown3 hown2 hb2 hb3 e1
  go_wp2_with fail
  go_ret
  exact givesB_mk HO rfl HB

theorem rSeal_any (A : Option Addr) (n c : Nat) (l : List UInt8) (w : World) (h : Bts w w.heap.size A n l) (hn : n ≤ 35184372088832) :
    Calls Tryd.prog 17 #[.slice A n c] w (GivesB w (sealB l)) := by
  obtain ⟨i0, hi0, hz0, hz1, hz2⟩ := info_parts info_u8
  have hlen := h.len
  subst hlen
  have hown0 : (w.alloc (.cells #[] 5)).ownsRow w.heap.size 5 1 (.slice (some ⟨w.heap.size, 0, none⟩) 0 0) 0 [] := World.ownsRow_made w #[] 0 (Nat.le_refl _) (by simp) (by simp)
  have s1 : Reads (w.alloc (.cells #[] 5)) w.heap.size 1 A l.length (byts l) := Reads.alloc h (Nat.le_refl _) _
  go_enter Tryd.func17, Tryd.ntmps17
  go_wp2_with (at_builtin; refine wpList_append_appl _ rfl (.tmp 3) (.tmp 4) _ rfl w.heap.size 5 i0 _ 1 1 Tryd.underlying22 hi0 hz0 hz1 hz2 rfl (by omega) (.slice (some ⟨w.heap.size, 0, none⟩) 0 0) 0 [] rfl (.inl hown0) w.heap.size A l.length c (byts l) rfl s1 (byts_one _) (.inr hown0) (by simp only [maxLen]; omega) (by omega) (by simp) ?_; intro v5 w5 hown5 hB5 hg5 hat5; simp only [Nat.zero_add, List.nil_append] at hown5; obtain ⟨A5, c5, rfl, _⟩ := own_shape hown5)
  have hb5 : Below w.heap.size w w5 := ((Below.refl _ _).alloc (Nat.le_refl _) _).trans hB5
  clear hown0 s1 hB5 hg5 hat5
  refine (rSum_any A _ c l _ ((Reads.below h hb5).wide hb5.size) (by omega)).mono ?_
  rintro e w6 ⟨rfl, rfl⟩
  go_wp2_with fail
  refine (rTail_any _ _ (crcMore_lt 0 l (by omega))).mono ?_
  rintro e w6 ⟨A6, c6, rfl, hown6, hb6⟩
  have hown7 := ownsRow_below hown5 hb6 (Nat.le_refl _)
  have hr6 := Reads.of_own hown6
  rw [tailB_len] at hr6
  clear hown5 hown6
  go_wp2_with (at_builtin; refine wpList_append_appl _ rfl (.tmp 5) (.tmp 8) _ rfl w.heap.size 5 i0 _ 1 1 Tryd.underlying22 hi0 hz0 hz1 hz2 rfl (by omega) (.slice A5 l.length c5) _ _ rfl (.inl hown7) _ A6 4 c6 (byts (tailB (crcMore 0 l))) rfl hr6 (byts_one _) (.inr hown7) (by simp only [maxLen]; omega) (by omega) (by have := hb5.size; have := hb6.size; omega) ?_; intro v8 w8 hown8 hB8 hg8 hat8)
  go_ret
  exact givesB_mk hown8 (by rw [sealB, byts_append]) (hb5.trans ((hb6.mono hb5.size).trans hB8))
end Go.Proofs.YtgelgkgmgjhmnaaDoor
