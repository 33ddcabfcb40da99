/-
  hachurelaw03.CrcTells returns true whatever the bytes, the place and the bits.
-/
import Derived.Test.YtgelgkgmgjhmnaaDoorOpen
import Derived.Test.YtgelgkgmgjhmnaaDoorCrcOpens
import Derived.Test.YtgelgkgmgjhmnaaDoorTellsPlain
import Derived.Deep.Light
namespace Go.Proofs.YtgelgkgmgjhmnaaDoor
open Go.RowKit
set_option linter.unusedVariables false
set_option linter.unusedSimpArgs false

set_option maxHeartbeats 2000000 in
set_option maxRecDepth 100000 in
theorem CrcTells_walk (A : Option Addr) (n c : Nat) (l : List UInt8) (a t : Int) (w : World) (ht : Tab w)
    (h : Bts w w.heap.size A n l) (hA : A = none → n = 0 ∧ c = 0) (hnc : n ≤ c) (hc : c ≤ maxLen) (h1 : -9223372036854775808 ≤ a) (h2 : a ≤ 9223372036854775807) (h3 : 0 ≤ t) (h4 : t ≤ 4294967295) :
    Calls Tryd.prog 5 #[.slice A n c, .int .i64 a, .int .u32 t] w fun e w' => e = .returned (.bool true) ∧ Below w.heap.size w w' := by
  unfold maxLen at hc
  have hlen := h.len
  subst hlen
  obtain ⟨m, rfl⟩ := Int.eq_ofNat_of_zero_le h3
  go_enter Tryd.func5, Tryd.ntmps5
  go_wp2_with fail
  refine (crcAwake _ ht).mono ?_
  rintro e w1 ⟨rfl, hb1⟩
  by_cases hbig : 2000 < l.length ∨ a < 0 ∨ m = 0
  · rcases (show (2000 < l.length) ∨ (l.length ≤ 2000 ∧ a < 0) ∨ (l.length ≤ 2000 ∧ 0 ≤ a ∧ m ≤ 0) from by omega) with hh | ⟨hh, hh2⟩ | ⟨hh, hh2, hh3⟩
    · clear hbig
      go_wp2_with fail
      go_ret
      exact ⟨rfl, hb1⟩
    · clear hbig
      go_wp2_with fail
      go_ret
      exact ⟨rfl, hb1⟩
    · have hm0 : ((m : Int) == 0) = true := by rw [beq_iff_eq]; omega
      clear hbig
      go_wp2_with fail
      go_ret
      exact ⟨rfl, hb1⟩
  · have b1 : l.length ≤ 2000 := by omega
    have b2 : 0 ≤ a := by omega
    have b3 : 0 < m := by omega
    have hm0 : ((m : Int) == 0) = false := by rw [beq_eq_false_iff_ne]; omega
    clear hbig
    obtain ⟨p, rfl⟩ := Int.eq_ofNat_of_zero_le b2
    have hr : Bts w1 w1.heap.size A l.length l := (Reads.below h hb1).wide hb1.size
    go_wp2_with fail
    refine (Seal_any A _ c l _ (ht.below hb1 ht.1) hr (by omega)).mono ?_
    rintro e w2 ⟨A2, c2, rfl, hown2, hb2⟩
    rw [sealB_len] at hown2 ⊢
    have hB2 : Below w.heap.size w w2 := hb1.trans (hb2.mono hb1.size)
    have hown2' := ownsRow_low hown2 hb1.size
    have hmod : p % (8 * (l.length + 4) - 31) < 8 * (l.length + 4) - 31 := Nat.mod_lt _ (by omega)
    have hp1 : (p : Int) % (8 * ((l.length : Int) + 4) - 31) = ((p % (8 * (l.length + 4) - 31) : Nat) : Int) := by
      have e : ((8 * (l.length + 4) - 31 : Nat) : Int) = 8 * ((l.length : Int) + 4) - 31 := by omega
      rw [← e]; simp
    obtain ⟨f, hf⟩ : ∃ f, p % (8 * (l.length + 4) - 31) = f := ⟨_, rfl⟩
    rw [hf] at hmod hp1
    clear hf hown2 hb2 hr
    have d1 : decide (2000 < (l.length : Int)) = false := by simp; omega
    have d2 : decide ((p : Int) < 0) = false := by simp
    have d3 : decide ((l.length : Int) + 4 < 4) = false := by simp; omega
    go_wp2_with fail
    go_loopw [9, 10] (fun i _ wr => ∃ (k : Nat) (ds : List UInt8), k ≤ 32 ∧ i = .int .i64 k ∧ Hid (ds.length = l.length + 4) ∧ wr.ownsRow w.heap.size 5 1 (.slice A2 (l.length + 4) c2) (l.length + 4) (byts ds) ∧ Below w.heap.size w wr ∧ Hid (num ds = num (sealB l) ^^^ (m % 2 ^ k) * 2 ^ f)) (fun i _ _ => 32 - (intOf i).toNat)
    case atStart => exact ⟨0, sealB l, by omega, rfl, sealB_len l, hown2', hB2, by simp [Hid, Nat.mod_one]⟩
    case round =>
      obtain ⟨k, ds, hk, rfl, HD, hown, hbr, HN⟩ := hrel
      clear hown2' hB2
      by_cases hlt : k < 32
      · obtain ⟨g, cap, hv, hbg, hltg⟩ := hown.form (by omega)
        have hA2 : A2 = some ⟨g, 0, none⟩ := by injection hv
        subst hA2
        clear hv
        have hkd : (f + k) / 8 < ds.length := by have := HD.out; omega
        have hcx : wr.cell? ⟨g, (f + k) / 8, none⟩ = some (.int .u8 (ds[(f + k) / 8].toNat : Int)) := by
          have := hown.cells (g := g) rfl _ _ (byts_at ds ((f + k) / 8) hkd)
          rwa [add_plain, Nat.zero_add] at this
        have hfz : wr.frozen? ⟨g, (f + k) / 8, none⟩ = false := hown.frozenAt _
        have hi8 : (f + k) / 8 < l.length + 4 := by have := HD.out; omega
        have ediv : (m : Int) / 2 ^ k = ((m / 2 ^ k : Nat) : Int) := by simp
        rcases Nat.mod_two_eq_zero_or_one (m / 2 ^ k) with hbit | hbit
        · have hb : (((m : Int) / 2 ^ k).tmod 2 == 1) = false := by
            rw [beq_eq_false_iff_ne, ediv, Int.tmod_eq_emod_of_nonneg (Int.natCast_nonneg _)]; omega
          have HBIT := Lib.hid hbit
          clear ediv hbit
          go_wp2_with fail
          go_roundw
          case rel => exact ⟨k + 1, ds, by omega, by go_num, HD, hown, hbr, by show _ = _; rw [bits_none m k f HBIT.out]; exact HN.out⟩
          case measure => simp [intOf]; omega
        · have hb : (((m : Int) / 2 ^ k).tmod 2 == 1) = true := by
            rw [beq_iff_eq, ediv, Int.tmod_eq_emod_of_nonneg (Int.natCast_nonneg _)]; omega
          have HBIT := Lib.hid hbit
          obtain ⟨x, hx⟩ : ∃ x : UInt8, ds[(f + k) / 8] = x := ⟨_, rfl⟩
          have HNT := Lib.hid (num_turn ds (f + k) hkd)
          have hst := hown.stored ((f + k) / 8) (.int .u8 ((UInt8.ofNat (ds[(f + k) / 8].toNat ^^^ 2 ^ ((f + k) % 8))).toNat : Int))
          rw [byts_set] at hst
          rw [hx] at hcx HNT hst
          rw [← turn_byte x (f + k)] at hst
          have HST := Lib.hid hst
          clear ediv hbit hx hst hown
          go_wp2_with fail
          go_roundw
          case rel =>
            exact ⟨k + 1, _, by omega, by go_num, by show _ = _; rw [List.length_set]; exact HD.out, HST.out.1, hbr.setCell hbg _, by show _ = _; rw [HNT.out, HN.out, Nat.xor_assoc, bits_one m k f HBIT.out]⟩
          case measure => simp [intOf]; omega
      · have HT : Hid (openB ds = ([], 10)) := by
          have e32 : m % 2 ^ k = m := Nat.mod_eq_of_lt (Nat.lt_of_lt_of_le (show m < 2 ^ 32 by simp; omega) (Nat.pow_le_pow_right (by omega) (by omega)))
          have := HN.out
          rw [e32] at this
          exact turned_told l ds f m (by rw [sealB_len]; exact HD.out) (by have := HD.out; omega) (by omega) (by omega) this
        obtain ⟨f1, f2, f3⟩ := own_facts hown
        have ho := Open_any A2 _ c2 ds _ (ht.below hbr ht.1) (Reads.of_own hown) f3 f1 f2 (by omega)
        rw [HT.out] at ho
        have HO := Lib.hid ho
        clear ho hown f1 f2 f3
        go_wp2_with fail
        refine HO.out.mono ?_
        rintro e w5 ⟨A5, c5, rfl, hown5, hb5⟩
        have HB : Below w.heap.size w w5 := hbr.trans (hb5.mono hbr.size)
        clear hown5 hb5 HO
        go_wp2_with fail
        go_ret
        exact ⟨rfl, HB⟩
end Go.Proofs.YtgelgkgmgjhmnaaDoor
