/-
  leb.Len, the document's own bytes of a number, and: hachurelaw02.LebPuts returns true whatever the bytes and the number.
-/
import Derived.Test.YtgelgkgmgjhmnaaLebAwake
import Derived.Test.YtgelgkgmgjhmnaaLebGet
import Derived.Test.YtgelgkgmgjhmnaaShelfLen
namespace Go.Proofs.Ytgelgkgmgjhmnaa
open Go.RowKit
set_option linter.unusedVariables false
set_option linter.unusedSimpArgs false

/-- how long the bytes of a number are, by its binary digits -/
theorem len_digits : ∀ (k u : Nat), u < 128 ^ (k + 1) → u < 18446744073709551616 → (lebAux (k + 1) u).length = if u = 0 then 1 else (Lib.bitLen u + 6) / 7 := by
  intro k
  induction k with
  | zero =>
    intro u hu h64
    have hu' : u < 128 := by simpa using hu
    rw [lebAux, if_pos hu']
    by_cases h0 : u = 0
    · rw [if_pos h0]; rfl
    · rw [if_neg h0]
      have h1 := Lib.bitLen_le u 7 (by omega) (by simpa using hu')
      have h2 := Lib.bitLen_half u h0 (by simpa using h64)
      simp; omega
  | succ k ih =>
    intro u hu h64
    rw [lebAux]
    by_cases h : u < 128
    · rw [if_pos h]
      by_cases h0 : u = 0
      · rw [if_pos h0]; rfl
      · rw [if_neg h0]
        have h1 := Lib.bitLen_le u 7 (by omega) (by simpa using h)
        have h2 := Lib.bitLen_half u h0 (by simpa using h64)
        simp; omega
    · rw [if_neg h, if_neg (by omega)]
      have hd : u / 128 < 128 ^ (k + 1) := by
        rw [Nat.div_lt_iff_lt_mul (by omega)]
        rw [Nat.pow_succ] at hu
        exact hu
      have h3 := Lib.bitLen_shift 7 u (by simp; omega) (by simpa using h64)
      have h4 := ih (u / 128) hd (by omega)
      rw [if_neg (by omega)] at h4
      simp only [List.length_cons, h4]
      have e7 : (2 : Nat) ^ 7 = 128 := rfl
      rw [e7] at h3
      omega
theorem lebB_digits (u : Nat) (h : u < 18446744073709551616) : (lebB u).length = (Lib.bitLen (u ||| 1) + 6) / 7 := by
  unfold lebB
  rw [len_digits 9 u (by simp; omega) h]
  by_cases h0 : u = 0
  · subst h0; rfl
  · rw [if_neg h0]
    have e : (u ||| 1) / 2 = u / 2 := by
      have := Nat.shiftRight_or_distrib (a := u) (b := 1) (i := 1)
      simpa [Nat.shiftRight_succ] using this
    have hne : u ||| 1 ≠ 0 := by
      intro hh
      have := Nat.left_le_or (n := u) (m := 1)
      omega
    have hlt : (u ||| 1) < 2 ^ 64 := Nat.or_lt_two_pow (by simpa using h) (by omega)
    rw [Lib.bitLen_half u h0 (by simpa using h), Lib.bitLen_half (u ||| 1) hne hlt, e]

theorem Len_any (u : Nat) (w : World) (hu : u < 18446744073709551616) :
    Calls Try.prog 19 #[.int .u64 u] w fun e w' => e = .returned (.int .i64 ((lebB u).length : Int)) ∧ w = w' := by
  have hor : bits .or .u64 (u : Int) 1 = (((u ||| 1 : Nat)) : Int) := u64_or_nat u 1 hu (by omega)
  have hlt : (u ||| 1) < 2 ^ 64 := Nat.or_lt_two_pow (by simpa using hu) (by omega)
  have hl := Lib.bitLen_le (u ||| 1) 64 (by omega) hlt
  have HD := Lib.hid (lebB_digits u hu)
  obtain ⟨q, hq⟩ : ∃ q, (u ||| 1) = q := ⟨_, rfl⟩
  rw [hq] at hor hlt hl HD
  have HLT := Lib.hid hlt
  clear hlt hq hu
  go_enter Try.func19, Try.ntmps19
  go_wp2_with fail
  refine (Len64_any _ _ (by omega) (by have := HLT.out; simp at this; omega)).mono ?_
  rintro e w1 ⟨rfl, rfl⟩
  rw [Int.toNat_natCast]
  go_wp2_with fail
  go_ret
  exact ⟨ret_int (by rw [HD.out]; simp), rfl⟩

set_option maxRecDepth 100000 in
theorem Bytes_any (u : Nat) (w : World) (hu : u < 18446744073709551616) :
    Calls Try.prog 18 #[.int .u64 u] w (GivesB w (lebB u)) := by
  obtain ⟨i0, hi0, hz0, hz1, hz2⟩ := info_parts info_u8
  have HU := Lib.hid hu
  clear hu
  have hown0 : (w.alloc (.cells #[] 5)).ownsRow w.heap.size 5 1 (.slice (some ⟨w.heap.size, 0, none⟩) 0 0) 0 [] := World.ownsRow_made w #[] 0 (Nat.le_refl _) (by simp) (by simp)
  go_enter Try.func18, Try.ntmps18
  go_wp2_with fail
  go_loopw [0, 3] (fun t v wr => ∃ (k : Nat) (d : List UInt8) (A2 : Option Addr) (c2 : Nat), v = .slice A2 d.length c2 ∧ t = .int .u64 k ∧ k ≤ u ∧ Hid (d ++ lebB k = lebB u) ∧ wr.ownsRow w.heap.size 5 1 (.slice A2 d.length c2) d.length (byts d) ∧ Below w.heap.size w wr) (fun t _ _ => (intOf t).toNat)
  case atStart => exact ⟨u, [], _, 0, rfl, rfl, Nat.le_refl _, by simp [Hid], by simpa [byts] using hown0, (Below.refl _ _).alloc (Nat.le_refl _) _⟩
  case round =>
    obtain ⟨k, d, A2, c2, rfl, rfl, hk, hd, hap, hbr⟩ := hrel
    clear hown0
    have hl10 := lebB_len u
    have hdl : d.length ≤ 10 := by have := congrArg List.length hd.out; simp only [List.length_append] at this; omega
    clear hl10
    by_cases hlt : k < 128
    · go_wp2_with (at_builtin; refine wpList_append_appl _ rfl (.tmp 16) (.tmp 19) _ rfl w.heap.size 5 i0 _ 1 1 Try.underlying24 hi0 hz0 hz1 hz2 rfl (by omega) (.slice A2 d.length c2) _ _ rfl (.inl (hap.alloc _)) (wr.heap.size + 1) (some ⟨wr.heap.size, 0, none⟩) 1 1 [.int .u8 (k : Int)] rfl (reads_new1 _ _ _) (by simp [Value.oneCell']) (.inl (by omega)) (by simp only [maxLen]; omega) (by omega) (by have := hbr.size; simp; omega) ?_; intro v1 w1 hown1 hB1 hg1 hat1)
      go_ret
      have hs := lebB_small k hlt
      rw [hs] at hd
      refine givesB_mk hown1 ?_ ((hbr.alloc hbr.size _).trans hB1)
      rw [← hd.out, byts_append d]
      congr 1
      simp [byts]
      omega
    · have eb : ((UInt8.ofNat (k % 128 + 128)).toNat : Int) = (k : Int) % 128 + 128 := by rw [UInt8.toNat_ofNat']; omega
      have EB := Lib.hid eb
      clear eb
      go_wp2_with (at_builtin; refine wpList_append_appl _ rfl (.tmp 7) (.tmp 12) _ rfl w.heap.size 5 i0 _ 1 1 Try.underlying24 hi0 hz0 hz1 hz2 rfl (by omega) (.slice A2 d.length c2) _ _ rfl (.inl (hap.alloc _)) (wr.heap.size + 1) (some ⟨wr.heap.size, 0, none⟩) 1 1 [.int .u8 ((k : Int) % 128 + 128)] rfl (reads_new1 _ _ _) (by simp [Value.oneCell']) (.inl (by omega)) (by simp only [maxLen]; omega) (by omega) (by have := hbr.size; simp; omega) ?_; intro v1 w1 hown1 hB1 hg1 hat1)
      have EW : Hid (IntKind.u64.wrap ((k : Int) / 128) = (k : Int) / 128) := by
        unfold Hid
        have := HU.out
        rw [IntKind.wrap_u64]; omega
      go_roundw
      case rel =>
        have hs := lebB_big k hlt (by have := HU.out; omega)
        obtain ⟨A3, c3, rfl, _⟩ := own_shape hown1
        refine ⟨k / 128, d ++ [UInt8.ofNat (k % 128 + 128)], A3, c3, by simp, by rw [EW.out]; go_num, by omega, ?_, ?_, (hbr.alloc hbr.size _).trans hB1⟩
        · have := hd.out
          rw [hs] at this
          simpa [Hid] using this
        · have e : byts (d ++ [UInt8.ofNat (k % 128 + 128)]) = byts d ++ [Value.int .u8 ((k : Int) % 128 + 128)] := by
            rw [← EB.out, byts_append d]
            simp [byts]
          rw [e]
          simpa using hown1
      case measure =>
        simp only [intOf]
        rw [EW.out]
        omega

set_option maxHeartbeats 1000000 in
set_option maxRecDepth 100000 in
theorem LebPuts_walk (A : Option Addr) (n c : Nat) (l : List UInt8) (u : Int) (A' : Option Addr) (n' c' : Nat) (l' : List UInt8) (w : World) (h : Bts w w.heap.size A n l) (hA : A = none → n = 0 ∧ c = 0) (hnc : n ≤ c) (hc : c ≤ maxLen)
    (h1 : 0 ≤ u) (h2 : u ≤ 18446744073709551615) (h' : Bts w w.heap.size A' n' l') (hA' : A' = none → n' = 0 ∧ c' = 0) (hnc' : n' ≤ c') (hc' : c' ≤ maxLen) :
    Calls Try.prog 6 #[.slice A n c, .int .u64 u, .slice A' n' c'] w fun e w' => e = .returned (.bool true) ∧ Below w.heap.size w w' := by
  obtain ⟨i0, hi0, hz0, hz1, hz2⟩ := info_parts info_u8
  unfold maxLen at hc hc'
  have hlen := h.len
  have hlen' := h'.len
  subst hlen hlen'
  obtain ⟨m, rfl⟩ := Int.eq_ofNat_of_zero_le h1
  have HM : Hid (m < 18446744073709551616) := by unfold Hid; omega
  clear h1 h2
  go_enter Try.func6, Try.ntmps6
  go_wp2_with fail
  refine (lebAwake _).mono ?_
  rintro e w1 ⟨rfl, hb1⟩
  by_cases hbig : 100 < l.length
  · go_wp2_with fail
    go_ret
    exact ⟨rfl, hb1⟩
  · by_cases hbig' : 100 < l'.length
    · go_wp2_with fail
      go_ret
      exact ⟨rfl, hb1⟩
    · have hr : Bts w1 w1.heap.size A l.length l := (Reads.below h hb1).wide hb1.size
      have hr' : Bts w1 w1.heap.size A' l'.length l' := (Reads.below h' hb1).wide hb1.size
      go_wp2_with fail
      refine (Put_any A _ c l m _ hA hr (by omega) HM.out).mono ?_
      rintro e w2 ⟨A2, c2, rfl, hown2, hb2⟩
      go_wp2_with fail
      refine (Bytes_any m _ HM.out).mono ?_
      rintro e w3 ⟨A3, c3, rfl, hown3, hb3⟩
      have hl10 := lebB_len m
      rw [List.length_append] at hown2
      have r2 : Bts w3 w3.heap.size A2 (l.length + (lebB m).length) (l ++ lebB m) := ((Reads.of_own hown2).below hb3).wide hb3.size
      have r1 : Bts w3 w3.heap.size A l.length l := ((Reads.below hr hb2).wide hb2.size |>.below hb3).wide hb3.size
      have r1' : Bts w3 w3.heap.size A' l'.length l' := ((Reads.below hr' hb2).wide hb2.size |>.below hb3).wide hb3.size
      have q2 := conv_bytes (P := Try.prog) 24 9 5 Try.underlying24 Try.underlying5 Try.underlying9 r2 c2
      have q1 := conv_bytes (P := Try.prog) 24 9 5 Try.underlying24 Try.underlying5 Try.underlying9 r1 c
      have q3 := conv_bytes (P := Try.prog) 24 9 5 Try.underlying24 Try.underlying5 Try.underlying9 (Reads.of_own hown3) c3
      have hb13 : Below w.heap.size w w3 := hb1.trans ((hb2.mono hb1.size).trans (hb3.mono (Nat.le_trans hb1.size hb2.size)))
      have hcat := cat_list l (lebB m)
      have L1 := Len_any m w3 HM.out
      have HL1 := Lib.hid L1
      have HG := Lib.hid (lebAt_putted l l' m HM.out)
      clear hown2 hown3 hr hr' hb1 hb2 hb3 L1
      go_wp2_with fail
      refine HL1.out.mono ?_
      rintro e w4 ⟨rfl, rfl⟩
      clear hcat q1 q2 q3 HL1
      have hown0 : (w3.alloc (.cells #[] 5)).ownsRow w3.heap.size 5 1 (.slice (some ⟨w3.heap.size, 0, none⟩) 0 0) 0 [] := World.ownsRow_made w3 #[] 0 (Nat.le_refl _) (by simp) (by simp)
      have s2 : Reads (w3.alloc (.cells #[] 5)) w3.heap.size 1 A2 (l.length + (lebB m).length) (byts (l ++ lebB m)) := Reads.alloc r2 (Nat.le_refl _) _
      have s1 : Reads (w3.alloc (.cells #[] 5)) w3.heap.size 1 A' l'.length (byts l') := Reads.alloc r1' (Nat.le_refl _) _
      go_wp2_with (first | (at_builtin; refine wpList_append_appl _ rfl (.tmp 43) (.tmp 44) _ rfl w3.heap.size 5 i0 _ 1 1 Try.underlying24 hi0 hz0 hz1 hz2 rfl (by omega) (.slice (some ⟨w3.heap.size, 0, none⟩) 0 0) 0 [] rfl (.inl hown0) w3.heap.size A2 (l.length + (lebB m).length) c2 (byts (l ++ lebB m)) rfl s2 (byts_one _) (.inr hown0) (by simp only [maxLen]; omega) (by omega) (by simp) ?_; intro v5 w5 hown5 hB5 hg5 hat5; simp only [Nat.zero_add, List.nil_append] at hown5; obtain ⟨A5, c5, rfl, _⟩ := own_shape hown5; have s3 := s1.later hB5 (Nat.le_refl _)) | (at_builtin; refine wpList_append_appl _ rfl (.tmp 45) (.tmp 46) _ rfl w3.heap.size 5 i0 _ 1 1 Try.underlying24 hi0 hz0 hz1 hz2 rfl (by omega) (.slice A5 (l.length + (lebB m).length) c5) _ _ rfl (.inl hown5) w3.heap.size A' l'.length c' (byts l') rfl s3 (byts_one _) (.inr hown5) (by simp only [maxLen]; omega) (by omega) (by have := hB5.size; simp at this; omega) ?_; intro v6 w6 hown6 hB6 hg6 hat6; obtain ⟨A6, c6, rfl, f6⟩ := own_shape hown6))
      rw [← byts_append] at hown6
      have G := Get_any A6 _ c6 _ (l.length : Int) w6 (Reads.of_own hown6) f6.1 f6.2.1 (by omega)
      rw [HG.out] at G
      simp only [getVal] at G
      refine G.mono ?_
      rintro e w7 ⟨rfl, rfl⟩
      have hb6 : Below w.heap.size w w6 := (hb13.alloc hb13.size _).trans ((hB5.mono hb13.size).trans (hB6.mono hb13.size))
      clear G HG hown6 hown5 hB6 hB5 hg6 hg5 hat5 hat6
      go_wp2_with fail
      go_ret
      exact ⟨rfl, hb6⟩
end Go.Proofs.Ytgelgkgmgjhmnaa
