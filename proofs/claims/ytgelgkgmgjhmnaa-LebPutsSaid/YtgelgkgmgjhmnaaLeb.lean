/-
  leb.Put gives new memory that holds what stood ahead and the number's bytes; slices.Clone and slices.Clip, which it calls.
-/
import Derived.Test.YtgelgkgmgjhmnaaRows
import Derived.Test.YtgelgkgmgjhmnaaMem
import Derived.Test.YtgelgkgmgjhmnaaPlain
import Derived.Test.YtgelgkgmgjhmnaaLebPlain
namespace Go.Proofs.Ytgelgkgmgjhmnaa
open Go.RowKit

theorem info_u8 : (Try.prog.info? 5).map (fun i => (i.zero, i.size, i.bytes)) = some (some (.int .u8 0), 1, 1) := by kernel_rfl

/-- it returns a slice of bytes in memory of its own -/
def GivesB (w : World) (l : List UInt8) (e : Ending) (w' : World) : Prop :=
  ∃ A c, e = .returned (.slice A l.length c) ∧ w'.ownsRow w.heap.size 5 1 (.slice A l.length c) l.length (byts l) ∧ Below w.heap.size w w'

theorem own_shape {w : World} {base : Nat} {e : TypeId} {size n : Nat} {v : Value} {xs : List Value} (h : w.ownsRow base e size v n xs) : ∃ A c, v = .slice A n c ∧ n ≤ c ∧ c ≤ 9223372036854775807 ∧ (A = none → n = 0 ∧ c = 0) := by
  rcases h.2 with ⟨rfl, rfl⟩ | ⟨g, cap, cur, rfl, _, _, hn, hm, _⟩
  · exact ⟨_, _, rfl, Nat.le_refl _, by omega, fun _ => ⟨rfl, rfl⟩⟩
  · exact ⟨_, _, rfl, hn, hm, fun h => by cases h⟩

theorem givesB_mk {w w' : World} {l : List UInt8} {v : Value} {n : Nat} {xs : List Value} (h : w'.ownsRow w.heap.size 5 1 v n xs) (hx : xs = byts l) (hb : Below w.heap.size w w') : GivesB w l (.returned v) w' := by
  subst hx
  have hn : n = l.length := by have := h.1; simpa using this.symm
  subst hn
  obtain ⟨A, c, rfl, _⟩ := own_shape h
  exact ⟨A, c, rfl, h, hb⟩
theorem own_facts {w : World} {base : Nat} {e : TypeId} {size n c : Nat} {A : Option Addr} {xs : List Value} (h : w.ownsRow base e size (.slice A n c) n xs) : n ≤ c ∧ c ≤ 9223372036854775807 ∧ (A = none → n = 0 ∧ c = 0) := by
  obtain ⟨A', c', h1, h2, h3, h4⟩ := own_shape h
  injection h1 with h5 h6 h7
  subst h5 h7
  exact ⟨h2, h3, h4⟩

theorem Clone_any (A : Option Addr) (n c : Nat) (l : List UInt8) (w : World) (hA : A = none → n = 0 ∧ c = 0) (h : Bts w w.heap.size A n l) (hn : n ≤ 140737488351232) :
    Calls Try.prog 36 #[.slice A n c] w (GivesB w l) := by
  obtain ⟨i0, hi0, hz0, hz1, hz2⟩ := info_parts info_u8
  have hlen := h.len
  have hq := Lib.run_eql_slice_nil (P := Try.prog) w 24 5 A n c 0 0 Try.underlying24
  rcases A with _ | ad
  · obtain ⟨rfl, rfl⟩ := hA rfl
    have hl : l = [] := List.eq_nil_of_length_eq_zero hlen
    subst hl
    go_enter Try.func36, Try.ntmps36
    go_wp2
    go_ret
    exact givesB_mk (World.ownsRow_nil _ _ _ _) rfl (Below.refl _ _)
  · go_enter Try.func36, Try.ntmps36
    have hown0 : (w.alloc (.cells #[] 5)).ownsRow w.heap.size 5 1 (.slice (some ⟨w.heap.size, 0, none⟩) 0 0) 0 [] := World.ownsRow_made w #[] 0 (Nat.le_refl _) (by simp) (by simp)
    have hr : Reads (w.alloc (.cells #[] 5)) w.heap.size 1 (some ad) n (byts l) := Reads.alloc h (Nat.le_refl _) _
    go_wp2_with (at_builtin; refine wpList_append_appl _ rfl _ _ _ rfl w.heap.size 5 i0 _ 1 1 Try.underlying24 hi0 hz0 hz1 hz2 rfl (by omega) (.slice (some ⟨w.heap.size, 0, none⟩) 0 0) 0 [] rfl (.inl hown0) w.heap.size (some ad) n c (byts l) rfl hr (byts_one l) (.inr hown0) (by simp only [maxLen]; omega) (by omega) (by simp) ?_; intro v1 w1 hown1 hB1 hg1 hat1)
    go_ret
    refine givesB_mk hown1 (by simp) (((Below.refl _ _).alloc (Nat.le_refl _) _).trans hB1)

theorem Clip_any (A : Option Addr) (n c : Nat) (w : World) (hn : n ≤ c) (_hc : c ≤ 9223372036854775807) :
    Calls Try.prog 35 #[.slice A n c] w fun e w' => e = .returned (.slice A n n) ∧ w = w' := by
  go_enter Try.func35, Try.ntmps35
  go_wp2
  go_ret
  exact ⟨rfl, rfl⟩

theorem put_byte (u : Nat) : bits .or .u8 ((u : Int) % 256) 128 = ((UInt8.ofNat (u % 128 + 128)).toNat : Int) := by
  have e1 : ((u : Int) % 256) = ((u % 256 : Nat) : Int) := by omega
  rw [e1]
  show bits .or .u8 ((u % 256 : Nat) : Int) ((128 : Nat) : Int) = _
  rw [u8_or_nat _ _ (by omega) (by omega), UInt8.toNat_ofNat']
  congr 1
  have h7 : u % 256 = 128 * (u % 256 / 128) + u % 128 := by omega
  have h8 : u % 256 / 128 = 0 ∨ u % 256 / 128 = 1 := by omega
  have hj : (128 ||| u % 128) = 128 + u % 128 := nat_join 7 128 (u % 128) (by decide) (by simp; omega)
  rcases h8 with h8 | h8
  · have : u % 256 = u % 128 := by omega
    rw [this, Nat.or_comm, hj]; omega
  · have : u % 256 = 128 + u % 128 := by omega
    rw [this, ← hj, Nat.or_comm (128 ||| u % 128) 128, ← Nat.or_assoc, Nat.or_self, hj]; omega

set_option maxRecDepth 100000 in
theorem Put_any (A : Option Addr) (n c : Nat) (l : List UInt8) (u : Nat) (w : World) (hA : A = none → n = 0 ∧ c = 0) (h : Bts w w.heap.size A n l) (hn : n ≤ 140737488351000) (hu : u < 18446744073709551616) :
    Calls Try.prog 11 #[.slice A n c, .int .u64 u] w (GivesB w (l ++ lebB u)) := by
  obtain ⟨i0, hi0, hz0, hz1, hz2⟩ := info_parts info_u8
  have hlen := h.len
  subst hlen
  go_enter Try.func11, Try.ntmps11
  go_wp2_with fail
  refine (Clone_any A _ c l _ hA h (by omega)).mono ?_
  rintro e w1 ⟨A1, c1, rfl, hown, hb1⟩
  obtain ⟨f1, f2, f3⟩ := own_facts hown
  go_wp2_with fail
  refine (Clip_any A1 _ c1 _ f1 f2).mono ?_
  rintro e w2 ⟨rfl, rfl⟩
  have hap : Appl w1 w.heap.size 5 1 (.slice A1 l.length l.length) l.length (byts l) := .inr ⟨A1, rfl, fun h => (f3 h).1, Reads.of_own hown⟩
  clear hown f1 f2 f3 h
  have HU := Lib.hid hu
  clear hu
  go_wp2_with fail
  go_loopw [0, 1] (fun v t wr => ∃ (k : Nat) (d : List UInt8) (A2 : Option Addr) (c2 : Nat), v = .slice A2 (l.length + d.length) c2 ∧ t = .int .u64 k ∧ k ≤ u ∧ Hid (d ++ lebB k = lebB u) ∧ Appl wr w.heap.size 5 1 (.slice A2 (l.length + d.length) c2) (l.length + d.length) (byts (l ++ d)) ∧ Below w.heap.size w wr) (fun _ t _ => (intOf t).toNat)
  case atStart => exact ⟨u, [], A1, l.length, rfl, rfl, Nat.le_refl _, by simp [Hid], by simpa using hap, hb1⟩
  case round =>
    obtain ⟨k, d, A2, c2, rfl, rfl, hk, hd, hap, hbr⟩ := hrel
    clear hA
    have hl10 := lebB_len u
    have hdl : d.length ≤ 10 := by have := congrArg List.length hd.out; simp only [List.length_append] at this; omega
    clear hl10
    by_cases hlt : k < 128
    · go_wp2_with (at_builtin; refine wpList_append_appl _ rfl (.tmp 18) (.tmp 21) _ rfl w.heap.size 5 i0 _ 1 1 Try.underlying24 hi0 hz0 hz1 hz2 rfl (by omega) (.slice A2 (l.length + d.length) c2) _ _ rfl (hap.alloc _) (wr.heap.size + 1) (some ⟨wr.heap.size, 0, none⟩) 1 1 [.int .u8 (k : Int)] rfl (reads_new1 _ _ _) (by simp [Value.oneCell']) (.inl (by omega)) (by simp only [maxLen]; omega) (by omega) (by have := hbr.size; simp; omega) ?_; intro v1 w1 hown1 hB1 hg1 hat1)
      go_ret
      have hs := lebB_small k hlt
      rw [hs] at hd
      refine givesB_mk hown1 ?_ ((hbr.alloc hbr.size _).trans hB1)
      rw [← hd.out, ← List.append_assoc, byts_append (l ++ d)]
      congr 1
      simp [byts]
      omega
    · go_wp2_with (at_builtin; refine wpList_append_appl _ rfl (.tmp 10) (.tmp 14) _ rfl w.heap.size 5 i0 _ 1 1 Try.underlying24 hi0 hz0 hz1 hz2 rfl (by omega) (.slice A2 (l.length + d.length) c2) _ _ rfl (hap.alloc _) (wr.heap.size + 1) (some ⟨wr.heap.size, 0, none⟩) 1 1 [.int .u8 (bits .or .u8 ((k : Int) % 256) 128)] rfl (reads_new1 _ _ _) (by simp [Value.oneCell']) (.inl (by omega)) (by simp only [maxLen]; omega) (by omega) (by have := hbr.size; simp; omega) ?_; intro v1 w1 hown1 hB1 hg1 hat1)
      go_roundw
      case rel =>
        have hs := lebB_big k hlt (by have := HU.out; omega)
        obtain ⟨A3, c3, rfl, _⟩ := own_shape hown1
        refine ⟨k / 128, d ++ [UInt8.ofNat (k % 128 + 128)], A3, c3, by simp [Nat.add_assoc], by go_num, by omega, ?_, ?_, (hbr.alloc hbr.size _).trans hB1⟩
        · have := hd.out
          rw [hs] at this
          simpa [Hid] using this
        · refine .inl ?_
          have e : byts (l ++ (d ++ [UInt8.ofNat (k % 128 + 128)])) = byts (l ++ d) ++ [Value.int .u8 (bits .or .u8 ((k : Int) % 256) 128)] := by
            rw [put_byte, ← List.append_assoc, byts_append (l ++ d)]
            simp [byts]
          rw [e]
          simpa [Nat.add_assoc] using hown1
      case measure => simp [intOf]; omega
end Go.Proofs.Ytgelgkgmgjhmnaa
