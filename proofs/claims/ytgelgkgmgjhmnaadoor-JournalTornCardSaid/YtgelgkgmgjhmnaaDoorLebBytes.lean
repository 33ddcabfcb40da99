/-
  The document's own bytes of a number are lebB.
-/
import Derived.Test.YtgelgkgmgjhmnaaDoorLeb
namespace Go.Proofs.YtgelgkgmgjhmnaaDoor
open Go.RowKit
set_option linter.unusedVariables false
set_option linter.unusedSimpArgs false

set_option maxRecDepth 100000 in
theorem Bytes_any (u : Nat) (w : World) (hu : u < 18446744073709551616) :
    Calls Tryd.prog 32 #[.int .u64 u] w (GivesB w (lebB u)) := by
  obtain ⟨i0, hi0, hz0, hz1, hz2⟩ := info_parts info_u8
  have HU := Lib.hid hu
  clear hu
  have hown0 : (w.alloc (.cells #[] 5)).ownsRow w.heap.size 5 1 (.slice (some ⟨w.heap.size, 0, none⟩) 0 0) 0 [] := World.ownsRow_made w #[] 0 (Nat.le_refl _) (by simp) (by simp)
  go_enter Tryd.func32, Tryd.ntmps32
  go_wp2_with fail
  go_loopw [0, 3] (fun t v wr => ∃ (k : Nat) (d : List UInt8) (A2 : Option Addr) (c2 : Nat), v = .slice A2 d.length c2 ∧ t = .int .u64 k ∧ k ≤ u ∧ Hid (d ++ lebB k = lebB u) ∧ wr.ownsRow w.heap.size 5 1 (.slice A2 d.length c2) d.length (byts d) ∧ Below w.heap.size w wr) (fun t _ _ => (intOf t).toNat)
  case atStart => exact ⟨u, [], _, 0, rfl, rfl, Nat.le_refl _, by simp [Hid], by simpa [byts] using hown0, (Below.refl _ _).alloc (Nat.le_refl _) _⟩
  case round =>
    obtain ⟨k, d, A2, c2, rfl, rfl, hk, hd, hap, hbr⟩ := hrel
    clear hown0
    have hl10 := lebB_len u
    have hdl : d.length ≤ 10 := by have := congrArg List.length hd.out; simp only [List.length_append] at this; omega
    clear hl10
    by_cases hlt : k < 128
    · go_wp2_with (at_builtin; refine wpList_append_appl _ rfl (.tmp 16) (.tmp 19) _ rfl w.heap.size 5 i0 _ 1 1 Tryd.underlying22 hi0 hz0 hz1 hz2 rfl (by omega) (.slice A2 d.length c2) _ _ rfl (.inl (hap.alloc _)) (wr.heap.size + 1) (some ⟨wr.heap.size, 0, none⟩) 1 1 [.int .u8 (k : Int)] rfl (reads_new1 _ _ _) (by simp [Value.oneCell']) (.inl (by omega)) (by simp only [maxLen]; omega) (by omega) (by have := hbr.size; simp; omega) ?_; intro v1 w1 hown1 hB1 hg1 hat1)
      go_ret
      have hs := lebB_small k hlt
      rw [hs] at hd
      refine givesB_mk hown1 ?_ ((hbr.alloc hbr.size _).trans hB1)
      rw [← hd.out, byts_append d]
      congr 1
      simp [byts]
      omega
    · have eb : ((UInt8.ofNat (k % 128 + 128)).toNat : Int) = (k : Int) % 128 + 128 := by rw [UInt8.toNat_ofNat']; omega
      have EB := Lib.hid eb
      clear eb
      go_wp2_with (at_builtin; refine wpList_append_appl _ rfl (.tmp 7) (.tmp 12) _ rfl w.heap.size 5 i0 _ 1 1 Tryd.underlying22 hi0 hz0 hz1 hz2 rfl (by omega) (.slice A2 d.length c2) _ _ rfl (.inl (hap.alloc _)) (wr.heap.size + 1) (some ⟨wr.heap.size, 0, none⟩) 1 1 [.int .u8 ((k : Int) % 128 + 128)] rfl (reads_new1 _ _ _) (by simp [Value.oneCell']) (.inl (by omega)) (by simp only [maxLen]; omega) (by omega) (by have := hbr.size; simp; omega) ?_; intro v1 w1 hown1 hB1 hg1 hat1)
      have EW : Hid (IntKind.u64.wrap ((k : Int) / 128) = (k : Int) / 128) := by
        unfold Hid
        have := HU.out
        rw [IntKind.wrap_u64]; omega
      go_roundw
      case rel =>
        have hs := lebB_big k hlt (by have := HU.out; omega)
        obtain ⟨A3, c3, rfl, _⟩ := own_shape hown1
        refine ⟨k / 128, d ++ [UInt8.ofNat (k % 128 + 128)], A3, c3, by simp, by rw [EW.out]; go_num, by omega, ?_, ?_, (hbr.alloc hbr.size _).trans hB1⟩
        · have := hd.out
          rw [hs] at this
          simpa [Hid] using this
        · have e : byts (d ++ [UInt8.ofNat (k % 128 + 128)]) = byts d ++ [Value.int .u8 ((k : Int) % 128 + 128)] := by
            rw [← EB.out, byts_append d]
            simp [byts]
          rw [e]
          simpa using hown1
      case measure =>
        simp only [intOf]
        rw [EW.out]
        omega
end Go.Proofs.YtgelgkgmgjhmnaaDoor
