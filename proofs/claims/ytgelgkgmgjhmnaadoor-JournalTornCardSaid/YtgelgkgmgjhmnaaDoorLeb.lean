/-
  leb.Put gives new memory that holds what stood ahead and the number's bytes; slices.Clone and slices.Clip, which it calls.
-/
import Derived.Test.YtgelgkgmgjhmnaaDoorRows
import Derived.Test.YtgelgkgmgjhmnaaDoorMem
import Derived.Test.YtgelgkgmgjhmnaaDoorOwn
import Derived.Test.YtgelgkgmgjhmnaaDoorClone
import Derived.Test.YtgelgkgmgjhmnaaDoorPlain
import Derived.Test.YtgelgkgmgjhmnaaDoorLebPlain
namespace Go.Proofs.YtgelgkgmgjhmnaaDoor
open Go.RowKit

theorem put_byte (u : Nat) : bits .or .u8 ((u : Int) % 256) 128 = ((UInt8.ofNat (u % 128 + 128)).toNat : Int) := by
  have e1 : ((u : Int) % 256) = ((u % 256 : Nat) : Int) := by omega
  rw [e1]
  show bits .or .u8 ((u % 256 : Nat) : Int) ((128 : Nat) : Int) = _
  rw [u8_or_nat _ _ (by omega) (by omega), UInt8.toNat_ofNat']
  congr 1
  have h7 : u % 256 = 128 * (u % 256 / 128) + u % 128 := by omega
  have h8 : u % 256 / 128 = 0 ∨ u % 256 / 128 = 1 := by omega
  have hj : (128 ||| u % 128) = 128 + u % 128 := nat_join 7 128 (u % 128) (by decide) (by simp; omega)
  rcases h8 with h8 | h8
  · have : u % 256 = u % 128 := by omega
    rw [this, Nat.or_comm, hj]; omega
  · have : u % 256 = 128 + u % 128 := by omega
    rw [this, ← hj, Nat.or_comm (128 ||| u % 128) 128, ← Nat.or_assoc, Nat.or_self, hj]; omega

set_option maxRecDepth 100000 in
theorem Put_any (A : Option Addr) (n c : Nat) (l : List UInt8) (u : Nat) (w : World) (hA : A = none → n = 0 ∧ c = 0) (h : Bts w w.heap.size A n l) (hn : n ≤ 140737488351000) (hu : u < 18446744073709551616) :
    Calls Tryd.prog 31 #[.slice A n c, .int .u64 u] w (GivesB w (l ++ lebB u)) := by
  obtain ⟨i0, hi0, hz0, hz1, hz2⟩ := info_parts info_u8
  have hlen := h.len
  subst hlen
  go_enter Tryd.func31, Tryd.ntmps31
  go_wp2_with fail
  refine (Clone_any A _ c l _ hA h (by omega)).mono ?_
  rintro e w1 ⟨A1, c1, rfl, hown, hb1⟩
  obtain ⟨f1, f2, f3⟩ := own_facts hown
  go_wp2_with fail
  refine (Clip_any A1 _ c1 _ f1 f2).mono ?_
  rintro e w2 ⟨rfl, rfl⟩
  have hap : Appl w1 w.heap.size 5 1 (.slice A1 l.length l.length) l.length (byts l) := .inr ⟨A1, rfl, fun h => (f3 h).1, Reads.of_own hown⟩
  clear hown f1 f2 f3 h
  have HU := Lib.hid hu
  clear hu
  go_wp2_with fail
  go_loopw [0, 1] (fun v t wr => ∃ (k : Nat) (d : List UInt8) (A2 : Option Addr) (c2 : Nat), v = .slice A2 (l.length + d.length) c2 ∧ t = .int .u64 k ∧ k ≤ u ∧ Hid (d ++ lebB k = lebB u) ∧ Appl wr w.heap.size 5 1 (.slice A2 (l.length + d.length) c2) (l.length + d.length) (byts (l ++ d)) ∧ Below w.heap.size w wr) (fun _ t _ => (intOf t).toNat)
  case atStart => exact ⟨u, [], A1, l.length, rfl, rfl, Nat.le_refl _, by simp [Hid], by simpa using hap, hb1⟩
  case round =>
    obtain ⟨k, d, A2, c2, rfl, rfl, hk, hd, hap, hbr⟩ := hrel
    clear hA
    have hl10 := lebB_len u
    have hdl : d.length ≤ 10 := by have := congrArg List.length hd.out; simp only [List.length_append] at this; omega
    clear hl10
    by_cases hlt : k < 128
    · go_wp2_with (at_builtin; refine wpList_append_appl _ rfl (.tmp 18) (.tmp 21) _ rfl w.heap.size 5 i0 _ 1 1 Tryd.underlying22 hi0 hz0 hz1 hz2 rfl (by omega) (.slice A2 (l.length + d.length) c2) _ _ rfl (hap.alloc _) (wr.heap.size + 1) (some ⟨wr.heap.size, 0, none⟩) 1 1 [.int .u8 (k : Int)] rfl (reads_new1 _ _ _) (by simp [Value.oneCell']) (.inl (by omega)) (by simp only [maxLen]; omega) (by omega) (by have := hbr.size; simp; omega) ?_; intro v1 w1 hown1 hB1 hg1 hat1)
      go_ret
      have hs := lebB_small k hlt
      rw [hs] at hd
      refine givesB_mk hown1 ?_ ((hbr.alloc hbr.size _).trans hB1)
      rw [← hd.out, ← List.append_assoc, byts_append (l ++ d)]
      congr 1
      simp [byts]
      omega
    · go_wp2_with (at_builtin; refine wpList_append_appl _ rfl (.tmp 10) (.tmp 14) _ rfl w.heap.size 5 i0 _ 1 1 Tryd.underlying22 hi0 hz0 hz1 hz2 rfl (by omega) (.slice A2 (l.length + d.length) c2) _ _ rfl (hap.alloc _) (wr.heap.size + 1) (some ⟨wr.heap.size, 0, none⟩) 1 1 [.int .u8 (bits .or .u8 ((k : Int) % 256) 128)] rfl (reads_new1 _ _ _) (by simp [Value.oneCell']) (.inl (by omega)) (by simp only [maxLen]; omega) (by omega) (by have := hbr.size; simp; omega) ?_; intro v1 w1 hown1 hB1 hg1 hat1)
      go_roundw
      case rel =>
        have hs := lebB_big k hlt (by have := HU.out; omega)
        obtain ⟨A3, c3, rfl, _⟩ := own_shape hown1
        refine ⟨k / 128, d ++ [UInt8.ofNat (k % 128 + 128)], A3, c3, by simp [Nat.add_assoc], by go_num, by omega, ?_, ?_, (hbr.alloc hbr.size _).trans hB1⟩
        · have := hd.out
          rw [hs] at this
          simpa [Hid] using this
        · refine .inl ?_
          have e : byts (l ++ (d ++ [UInt8.ofNat (k % 128 + 128)])) = byts (l ++ d) ++ [Value.int .u8 (bits .or .u8 ((k : Int) % 256) 128)] := by
            rw [put_byte, ← List.append_assoc, byts_append (l ++ d)]
            simp [byts]
          rw [e]
          simpa [Nat.add_assoc] using hown1
      case measure => simp [intOf]; omega
end Go.Proofs.YtgelgkgmgjhmnaaDoor
