/-
  slices.Clone and slices.Clip of bytes.
-/
import Derived.Test.YtgelgkgmgjhmnaaDoorOwn
namespace Go.Proofs.YtgelgkgmgjhmnaaDoor
open Go.RowKit

theorem Clone_any (A : Option Addr) (n c : Nat) (l : List UInt8) (w : World) (hA : A = none → n = 0 ∧ c = 0) (h : Bts w w.heap.size A n l) (hn : n ≤ 140737488351232) :
    Calls Tryd.prog 29 #[.slice A n c] w (GivesB w l) := by
  obtain ⟨i0, hi0, hz0, hz1, hz2⟩ := info_parts info_u8
  have hlen := h.len
  have hq := Lib.run_eql_slice_nil (P := Tryd.prog) w 22 5 A n c 0 0 Tryd.underlying22
  rcases A with _ | ad
  · obtain ⟨rfl, rfl⟩ := hA rfl
    have hl : l = [] := List.eq_nil_of_length_eq_zero hlen
    subst hl
    go_enter Tryd.func29, Tryd.ntmps29
    go_wp2
    go_ret
    exact givesB_mk (World.ownsRow_nil _ _ _ _) rfl (Below.refl _ _)
  · go_enter Tryd.func29, Tryd.ntmps29
    have hown0 : (w.alloc (.cells #[] 5)).ownsRow w.heap.size 5 1 (.slice (some ⟨w.heap.size, 0, none⟩) 0 0) 0 [] := World.ownsRow_made w #[] 0 (Nat.le_refl _) (by simp) (by simp)
    have hr : Reads (w.alloc (.cells #[] 5)) w.heap.size 1 (some ad) n (byts l) := Reads.alloc h (Nat.le_refl _) _
    go_wp2_with (at_builtin; refine wpList_append_appl _ rfl _ _ _ rfl w.heap.size 5 i0 _ 1 1 Tryd.underlying22 hi0 hz0 hz1 hz2 rfl (by omega) (.slice (some ⟨w.heap.size, 0, none⟩) 0 0) 0 [] rfl (.inl hown0) w.heap.size (some ad) n c (byts l) rfl hr (byts_one l) (.inr hown0) (by simp only [maxLen]; omega) (by omega) (by simp) ?_; intro v1 w1 hown1 hB1 hg1 hat1)
    go_ret
    refine givesB_mk hown1 (by simp) (((Below.refl _ _).alloc (Nat.le_refl _) _).trans hB1)

theorem Clip_any (A : Option Addr) (n c : Nat) (w : World) (hn : n ≤ c) (_hc : c ≤ 9223372036854775807) :
    Calls Tryd.prog 36 #[.slice A n c] w fun e w' => e = .returned (.slice A n n) ∧ w = w' := by
  go_enter Tryd.func36, Tryd.ntmps36
  go_wp2
  go_ret
  exact ⟨rfl, rfl⟩


end Go.Proofs.YtgelgkgmgjhmnaaDoor
