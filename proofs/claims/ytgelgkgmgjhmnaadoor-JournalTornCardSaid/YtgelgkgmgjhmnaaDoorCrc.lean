/-
  crc.More, crc.Sum and the document's own two compute crcMore; the chapter's example holds.
-/
import Derived.Test.YtgelgkgmgjhmnaaDoorRows
import Derived.Test.YtgelgkgmgjhmnaaDoorMem
import Derived.Test.YtgelgkgmgjhmnaaDoorCrcPlain
import Derived.Lib.SlBytesConst
namespace Go.Proofs.YtgelgkgmgjhmnaaDoor
open Go.RowKit
set_option linter.unusedVariables false
set_option linter.unusedSimpArgs false

theorem ret_int {k : IntKind} {a b : Int} (h : a = b) : Ending.returned (.int k a) = .returned (.int k b) := by rw [h]

/-- the table of crc lies in its variable -/
def Tab (w : World) : Prop := 0 < w.heap.size ∧ ∀ i, i < 16 → w.cell? ⟨0, i, none⟩ = some (.int .u32 ((halves.getD i 0 : Nat) : Int))
theorem Tab.below {w w' : World} {B : Nat} (h : Tab w) (hb : Below B w w') (hB : 0 < B) : Tab w' :=
  ⟨Nat.lt_of_lt_of_le h.1 hb.size, fun i hi => (hb.cell (p := ⟨0, i, none⟩) hB).trans (h.2 i hi)⟩
theorem Tab.drewN {w : World} (h : Tab w) (n : Nat) : Tab (w.drewN n) := h
theorem Tab.alloc {w : World} (h : Tab w) (o : Obj) : Tab (w.alloc o) := h.below ((Below.refl _ _).alloc (Nat.le_refl _) o) h.1

theorem halves_lt (i : Nat) : halves.getD i 0 < 4294967296 := by
  by_cases h : i < 16
  · have : ∀ r : Fin 16, halves.getD r.val 0 < 4294967296 := by decide
    exact this ⟨i, h⟩
  · rw [List.getD, List.getElem?_eq_none (by simp [halves]; omega)]; simp

theorem u32_xor_n (a b : Nat) (ha : a < 4294967296) (hb : b < 4294967296) : bits .xor .u32 (a : Int) (b : Int) = ((a ^^^ b : Nat) : Int) := u32_xor_nat a b ha hb
theorem u32_and15 (a : Nat) (ha : a < 4294967296) : bits .and .u32 (a : Int) 15 = ((a % 16 : Nat) : Int) := by
  have := u32_and_nat a 15 ha (by omega)
  rw [nat_mask4] at this
  exact this
theorem crc_step (s x s1 s2 s3 : Nat) (h1 : s ^^^ x = s1) (h2 : s1 / 16 ^^^ halves.getD (s1 % 16) 0 = s2) (h3 : s2 / 16 ^^^ halves.getD (s2 % 16) 0 = s3) : crcBits 8 (s ^^^ x) = s3 := by
  rw [h1, show 8 = 4 + 4 from rfl, crcBits_add, crcBits_four s1, h2, crcBits_four s2, h3]
theorem u32_not (a : Nat) (ha : a < 4294967296) : bits .xor .u32 IntKind.u32.max (a : Int) = ((a ^^^ 4294967295 : Nat) : Int) := by
  have e : IntKind.u32.max = ((4294967295 : Nat) : Int) := by simp [IntKind.max, IntKind.signed, IntKind.bits]
  rw [e, u32_xor_n _ _ (by omega) ha, Nat.xor_comm]
theorem take_more (l : List UInt8) (k : Nat) (h : k < l.length) (s : Nat) : (l.take (k + 1)).foldl crcByte s = crcByte ((l.take k).foldl crcByte s) l[k] := by
  rw [List.take_succ_eq_append_getElem h, List.foldl_append]; rfl

set_option maxHeartbeats 1000000 in
theorem More_any (s : Nat) (A : Option Addr) (n c : Nat) (l : List UInt8) (w : World) (ht : Tab w) (hbt : Bts w w.heap.size A n l) (hs : s < 4294967296) (hn : n ≤ 140737488351232) :
    Calls Tryd.prog 12 #[.int .u32 s, .slice A n c] w fun e w' => e = .returned (.int .u32 (crcMore s l : Nat)) ∧ w = w' := by
  have hlen := hbt.len
  subst hlen
  have h0 : s ^^^ 4294967295 < 4294967296 := xor_lt32 hs (by omega)
  go_enter Tryd.func12, Tryd.ntmps12
  go_wp2
  go_loop [0, 6, 11] (fun t x i => ∃ (k q : Nat), k ≤ l.length ∧ i = .int .i64 k ∧ t = .int .u32 q ∧ q < 4294967296 ∧ Hid (q = (l.take k).foldl crcByte (s ^^^ 4294967295))) (fun _ _ i => l.length - (intOf i).toNat)
  case atStart => exact ⟨0, s ^^^ 4294967295, by omega, rfl, by rw [u32_not s hs], h0, rfl⟩
  case round =>
    obtain ⟨k, q, hk, rfl, rfl, hq, HQ⟩ := hrel
    by_cases hlt : k < l.length
    · obtain ⟨b, off, rfl, hb, hcell⟩ := hbt.plain (by omega)
      obtain ⟨x, hx⟩ : ∃ x : Nat, x = l[k].toNat := ⟨_, rfl⟩
      have hcx : w.cell? ⟨b, off + k, none⟩ = some (.int .u8 (x : Int)) := by rw [hx]; exact hcell k hlt
      have hx8 : x < 256 := by rw [hx]; exact UInt8.toNat_lt _
      obtain ⟨s1, h1⟩ : ∃ s1, q ^^^ x = s1 := ⟨_, rfl⟩
      have l1 : s1 < 4294967296 := by rw [← h1]; exact xor_lt32 hq (by omega)
      have e1 : bits .xor .u32 (q : Int) (x : Int) = (s1 : Int) := by rw [u32_xor_n q x hq (by omega), h1]
      have a1 := u32_and15 s1 l1
      have k1 := halves_lt (s1 % 16)
      have c1 := ht.2 (s1 % 16) (by omega)
      obtain ⟨g1, hg1⟩ : ∃ g, halves.getD (s1 % 16) 0 = g := ⟨_, rfl⟩
      rw [hg1] at c1 k1
      obtain ⟨s2, h2⟩ : ∃ s2, s1 / 16 ^^^ g1 = s2 := ⟨_, rfl⟩
      have l2 : s2 < 4294967296 := by rw [← h2]; exact xor_lt32 (by omega) k1
      have e2 : bits .xor .u32 ((s1 : Int) / 16) (g1 : Int) = (s2 : Int) := by
        have := u32_xor_n (s1 / 16) g1 (by omega) k1
        rw [h2] at this
        exact this
      have a2 := u32_and15 s2 l2
      have k2 := halves_lt (s2 % 16)
      have c2 := ht.2 (s2 % 16) (by omega)
      obtain ⟨g2, hg2⟩ : ∃ g, halves.getD (s2 % 16) 0 = g := ⟨_, rfl⟩
      rw [hg2] at c2 k2
      obtain ⟨s3, h3⟩ : ∃ s3, s2 / 16 ^^^ g2 = s3 := ⟨_, rfl⟩
      have l3 : s3 < 4294967296 := by rw [← h3]; exact xor_lt32 (by omega) k2
      have e3 : bits .xor .u32 ((s2 : Int) / 16) (g2 : Int) = (s3 : Int) := by
        have := u32_xor_n (s2 / 16) g2 (by omega) k2
        rw [h3] at this
        exact this
      have HS := Lib.hid (crc_step q x s1 s2 s3 h1 (by rw [hg1]; exact h2) (by rw [hg2]; exact h3))
      have HX := Lib.hid hx
      clear h1 h2 h3 hg1 hg2 hx hcell hbt
      go_wp2
      go_round
      case rel =>
        refine ⟨k + 1, s3, by omega, by go_num, rfl, l3, ?_⟩
        show s3 = _
        rw [take_more l k hlt, ← HQ.out, crcByte, ← HX.out, HS.out]
      case measure => simp [intOf]; omega
    · have HE : Hid (q ^^^ 4294967295 = crcMore s l) := by
        show _ = _
        rw [HQ.out, List.take_of_length_le (by omega)]
        rfl
      go_wp2
      go_ret
      exact ⟨ret_int (by rw [u32_not q hq, HE.out]), rfl⟩
theorem Sum_any (A : Option Addr) (n c : Nat) (l : List UInt8) (w : World) (ht : Tab w) (h : Bts w w.heap.size A n l) (hn : n ≤ 140737488351232) :
    Calls Tryd.prog 10 #[.slice A n c] w fun e w' => e = .returned (.int .u32 (crcMore 0 l : Nat)) ∧ w = w' := by
  go_enter Tryd.func10, Tryd.ntmps10
  go_wp2_with fail
  refine (More_any 0 A n c l _ ht h (by omega) hn).mono ?_
  rintro e w1 ⟨rfl, rfl⟩
  go_wp2_with fail
  go_ret
  exact ⟨rfl, rfl⟩

set_option maxHeartbeats 1000000 in
theorem rMore_any (s : Nat) (A : Option Addr) (n c : Nat) (l : List UInt8) (w : World) (h : Bts w w.heap.size A n l) (hs : s < 4294967296) (hn : n ≤ 140737488351232) :
    Calls Tryd.prog 13 #[.int .u32 s, .slice A n c] w fun e w' => e = .returned (.int .u32 (crcMore s l : Nat)) ∧ w = w' := by
  have hlen := h.len
  subst hlen
  have h0 : s ^^^ 4294967295 < 4294967296 := xor_lt32 hs (by omega)
  go_enter Tryd.func13, Tryd.ntmps13
  go_wp2
  go_loop [0, 5, 6, 7] (fun t i _ _ => ∃ (k q : Nat), k ≤ l.length ∧ i = .int .i64 k ∧ t = .int .u32 q ∧ q < 4294967296 ∧ Hid (q = (l.take k).foldl crcByte (s ^^^ 4294967295))) (fun _ i _ _ => l.length - (intOf i).toNat)
  case atStart => exact ⟨0, s ^^^ 4294967295, by omega, rfl, by rw [← u32_xor_n s 4294967295 hs (by omega)]; rfl, h0, rfl⟩
  case round =>
    obtain ⟨k, q, hk, rfl, rfl, hq, HQ⟩ := hrel
    by_cases hlt : k < l.length
    · obtain ⟨b, off, rfl, hb, hcell⟩ := h.plain (by omega)
      obtain ⟨x, hx⟩ : ∃ x : Nat, x = l[k].toNat := ⟨_, rfl⟩
      have hcx : w.cell? ⟨b, off + k, none⟩ = some (.int .u8 (x : Int)) := by rw [hx]; exact hcell k hlt
      have hx8 : x < 256 := by rw [hx]; exact UInt8.toNat_lt _
      obtain ⟨s1, h1⟩ : ∃ s1, q ^^^ x = s1 := ⟨_, rfl⟩
      have l1 : s1 < 4294967296 := by rw [← h1]; exact xor_lt32 hq (by omega)
      have e1 : bits .xor .u32 (q : Int) (x : Int) = (s1 : Int) := by rw [u32_xor_n q x hq (by omega), h1]
      have HX := Lib.hid hx
      have H1 := Lib.hid h1
      clear h1 hx hcell h
      go_wp2
      go_loop [0, 6, 7] (fun t j _ => ∃ (i r : Nat), i ≤ 8 ∧ j = .int .i64 i ∧ t = .int .u32 r ∧ r < 4294967296 ∧ Hid (crcBits (8 - i) r = crcBits 8 s1)) (fun _ j _ => 8 - (intOf j).toNat)
      case atStart => exact ⟨0, s1, by omega, rfl, rfl, l1, rfl⟩
      case round =>
        obtain ⟨i, r, hi, rfl, rfl, hr, HR⟩ := hrel
        by_cases hi8 : i < 8
        · have HR2 : Hid (crcBits (8 - (i + 1)) (crcBit r) = crcBits 8 s1) := by
            show _ = _
            rw [← HR.out, show 8 - i = (8 - (i + 1)) + 1 from by omega]
            rfl
          rcases Nat.mod_two_eq_zero_or_one r with hodd | hodd
          · have hb1 : ((r : Int) % 2 == 1) = false := by rw [beq_eq_false_iff_ne]; omega
            have HB := Lib.hid (crcBit_even' hodd)
            clear hodd
            go_wp2
            go_round
            case rel => exact ⟨i + 1, r / 2, by omega, by go_num, by go_num, by omega, by rw [← HB.out]; exact HR2⟩
            case measure => simp [intOf]; omega
          · have hb1 : ((r : Int) % 2 == 1) = true := by rw [beq_iff_eq]; omega
            have HB := Lib.hid (crcBit_odd hodd)
            have HL := crcBit_lt r hr
            have e2 : bits .xor .u32 ((r : Int) / 2) 2197175160 = ((crcBit r : Nat) : Int) := by
              have := u32_xor_n (r / 2) 2197175160 (by omega) (by omega)
              rw [← HB.out] at this
              exact this
            clear hodd
            go_wp2
            go_round
            case rel => exact ⟨i + 1, crcBit r, by omega, by go_num, rfl, HL, HR2⟩
            case measure => simp [intOf]; omega
        · have HE : Hid (r = crcByte q l[k]) := by
            show _ = _
            have := HR.out
            rw [show 8 - i = 0 from by omega] at this
            rw [crcByte, ← HX.out, H1.out]
            exact this
          go_wp2
          go_round
          case rel =>
            refine ⟨k + 1, r, by omega, by go_num, rfl, hr, ?_⟩
            show r = _
            rw [take_more l k hlt, ← HQ.out, HE.out]
          case measure => simp [intOf]; omega
    · have HE : Hid (q ^^^ 4294967295 = crcMore s l) := by
        show _ = _
        rw [HQ.out, List.take_of_length_le (by omega)]
        rfl
      go_wp2
      go_ret
      exact ⟨ret_int (by rw [← HE.out, ← u32_xor_n q 4294967295 hq (by omega)]; rfl), rfl⟩
theorem rSum_any (A : Option Addr) (n c : Nat) (l : List UInt8) (w : World) (h : Bts w w.heap.size A n l) (hn : n ≤ 140737488351232) :
    Calls Tryd.prog 11 #[.slice A n c] w fun e w' => e = .returned (.int .u32 (crcMore 0 l : Nat)) ∧ w = w' := by
  go_enter Tryd.func11, Tryd.ntmps11
  go_wp2_with fail
  refine (rMore_any 0 A n c l _ h (by omega) hn).mono ?_
  rintro e w1 ⟨rfl, rfl⟩
  go_wp2_with fail
  go_ret
  exact ⟨rfl, rfl⟩

theorem crcAwake (w : World) (ht : Tab w) : Calls Tryd.prog 9 #[] w fun e w' => e = .returned (.bool true) ∧ Below w.heap.size w w' := by
  have h9 : crcMore 0 [49, 50, 51, 52, 53, 54, 55, 56, 57] = 3808858755 := by decide +kernel
  go_enter Tryd.func9, Tryd.ntmps9
  have kc := fun (w : World) (C : Array Value) (n c : Nat) => Lib.run_convert_bytes_const (P := Tryd.prog) w 22 5 C n c Tryd.underlying22 Tryd.underlying5
  go_wp2_with fail
  refine (Sum_any _ 9 _ [49, 50, 51, 52, 53, 54, 55, 56, 57] _ (ht.alloc _) ?_ (by omega)).mono ?_
  · have := bts_mark w 5 [49, 50, 51, 52, 53, 54, 55, 56, 57] #[.int .u8 49, .int .u8 50, .int .u8 51, .int .u8 52, .int .u8 53, .int .u8 54, .int .u8 55, .int .u8 56, .int .u8 57] (by rfl) (9, 10)
    simpa using this
  rw [h9]
  rintro e w1 ⟨rfl, rfl⟩
  go_wp2_with fail
  go_ret
  exact ⟨rfl, (Below.refl _ _).alloc (Nat.le_refl _) _⟩
end Go.Proofs.YtgelgkgmgjhmnaaDoor
