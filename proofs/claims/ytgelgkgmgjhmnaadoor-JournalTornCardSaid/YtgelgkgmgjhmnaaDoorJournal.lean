/-
  journal.Put, journal.Get and the document's own compute recordB and jGet; the chapter's example holds.
-/
import Derived.Test.YtgelgkgmgjhmnaaDoorOpen
import Derived.Test.YtgelgkgmgjhmnaaDoorLeb
import Derived.Test.YtgelgkgmgjhmnaaDoorLebBytes
import Derived.Test.YtgelgkgmgjhmnaaDoorLebGet
import Derived.Test.YtgelgkgmgjhmnaaDoorJournalPlain
namespace Go.Proofs.YtgelgkgmgjhmnaaDoor
open Go.RowKit
set_option linter.unusedVariables false
set_option linter.unusedSimpArgs false

theorem JPut_any (A : Option Addr) (n c : Nat) (l : List UInt8) (A' : Option Addr) (n' c' : Nat) (l' : List UInt8) (w : World) (ht : Tab w) (h : Bts w w.heap.size A n l) (hA : A = none → n = 0 ∧ c = 0)
    (h' : Bts w w.heap.size A' n' l') (hn : n ≤ 1000000000) (hn' : n' ≤ 1048576) :
    Calls Tryd.prog 19 #[.slice A n c, .slice A' n' c'] w (GivesBC w (l ++ recordB l', 0)) := by
  have hlen' := h'.len
  subst hlen'
  go_enter Tryd.func19, Tryd.ntmps19
  go_wp2_with fail
  rw [show ((l'.length : Int) + 1) = ((l'.length + 1 : Nat) : Int) from by omega]
  refine (Put_any A n c l (l'.length + 1) _ hA h (by omega) (by omega)).mono ?_
  rintro e w1 ⟨A1, c1, rfl, hown1, hb1⟩
  go_wp2_with fail
  refine (Seal_any A' _ c' l' _ (ht.below hb1 ht.1) ((Reads.below h' hb1).wide hb1.size) (by omega)).mono ?_
  rintro e w2 ⟨A2, c2, rfl, hown2, hb2⟩
  have hlen := h.len
  have hl10 := lebB_len (l'.length + 1)
  have hB2 : Below w.heap.size w w2 := hb1.trans (hb2.mono hb1.size)
  have e0 : (l ++ lebB (l'.length + 1)).length = l.length + (lebB (l'.length + 1)).length := List.length_append
  have e4 : (sealB l').length = l'.length + 4 := sealB_len l'
  rw [e0] at hown1
  have hC := Concat_any (some ⟨w2.heap.size, 0, none⟩) 2 [⟨A1, l.length + (lebB (l'.length + 1)).length, c1⟩, ⟨A2, (sealB l').length, c2⟩] [l ++ lebB (l'.length + 1), sealB l'] (w2.alloc (.cells #[.slice A1 (l.length + (lebB (l'.length + 1)).length) c1, .slice A2 (sealB l').length c2] 22))
    (by have := reads_newN w2 [.slice A1 (l.length + (lebB (l'.length + 1)).length) c1, .slice A2 (sealB l').length c2] 22 _ rfl
        simpa [Hd.val] using this)
    (by
      refine ⟨rfl, fun k h1 h2 => ?_⟩
      have hk : k = 0 ∨ k = 1 := by simp at h1; omega
      rcases hk with rfl | rfl
      · exact (((Reads.of_own hown1).below hb2).wide hb2.size |>.alloc (Nat.le_refl _) _).wide (by simp)
      · exact ((Reads.of_own hown2).alloc (Nat.le_refl _) _).wide (by simp)) (by simp) (by simp only [total, List.map_cons, List.map_nil, List.sum_cons, List.sum_nil]; omega)
  have e1 : ([l ++ lebB (l'.length + 1), sealB l'] : List (List UInt8)).flatten = l ++ recordB l' := by simp [recordB]
  rw [e1] at hC
  have HC := Lib.hid hC
  clear hC e1 e0 e4 hlen hl10
  go_wp2_with fail
  refine HC.out.mono ?_
  rintro e w3 ⟨A3, c3, rfl, hown3, hb3⟩
  have HB : Below w.heap.size w w3 := (hB2.alloc hB2.size _).trans (hb3.mono (by have := hB2.size; simp; omega))
  have HO := ownsRow_low hown3 (show w.heap.size ≤ _ by have := hB2.size; simp; omega)
  clear hown3 hown2 hown1 hb2 hb3 HC
  go_wp2_with fail
  go_ret2
  exact ⟨A3, c3, by simp, HO, HB⟩

theorem Record_any (A : Option Addr) (n c : Nat) (l : List UInt8) (w : World) (h : Bts w w.heap.size A n l) (hn : n ≤ 1000000000) :
    Calls Tryd.prog 20 #[.slice A n c] w (GivesB w (recordB l)) := by
  obtain ⟨i0, hi0, hz0, hz1, hz2⟩ := info_parts info_u8
  have hlen := h.len
  subst hlen
  go_enter Tryd.func20, Tryd.ntmps20
  go_wp2_with fail
  rw [show ((l.length : Int) + 1) = ((l.length + 1 : Nat) : Int) from by omega]
  refine (Bytes_any (l.length + 1) _ (by omega)).mono ?_
  rintro e w1 ⟨A1, c1, rfl, hown1, hb1⟩
  go_wp2_with fail
  refine (rSeal_any A _ c l _ ((Reads.below h hb1).wide hb1.size) (by omega)).mono ?_
  rintro e w2 ⟨A2, c2, rfl, hown2, hb2⟩
  have hl10 := lebB_len (l.length + 1)
  have hown3 := ownsRow_below hown1 hb2 (Nat.le_refl _)
  have hr2 := Reads.of_own hown2
  rw [sealB_len] at hr2 ⊢
  have hs := hb1.size
  have hs2 := hb2.size
  clear hown1 hown2
  go_wp2_with (at_builtin; refine wpList_append_appl _ rfl (.tmp 7) (.tmp 9) _ rfl w.heap.size 5 i0 _ 1 1 Tryd.underlying22 hi0 hz0 hz1 hz2 rfl (by omega) (.slice A1 (lebB (l.length + 1)).length c1) _ _ rfl (.inl hown3) _ A2 (l.length + 4) c2 (byts (sealB l)) rfl hr2 (byts_one _) (.inr hown3) (by simp only [maxLen]; omega) (by omega) (by omega) ?_; intro v8 w8 hown8 hB8 hg8 hat8)
  go_ret
  exact givesB_mk hown8 (by rw [recordB, byts_append]) (hb1.trans ((hb2.mono hb1.size).trans hB8))

/-- it returns new bytes, a place and a code -/
def GivesBEC (w : World) (r : List UInt8 × Nat × Nat) (e : Ending) (w' : World) : Prop :=
  ∃ A c, e = .returned (.tuple #[.slice A r.1.length c, .int .i64 (r.2.1 : Int), .int .i64 (r.2.2 : Int)]) ∧ w'.ownsRow w.heap.size 5 1 (.slice A r.1.length c) r.1.length (byts r.1) ∧ Below w.heap.size w w'
/-- it returns bytes that are there, a place and a code -/
def ShowsBEC (w : World) (B : Nat) (r : List UInt8 × Nat × Nat) (e : Ending) (w' : World) : Prop :=
  ∃ A c, e = .returned (.tuple #[.slice A r.1.length c, .int .i64 (r.2.1 : Int), .int .i64 (r.2.2 : Int)]) ∧ Bts w' B A r.1.length r.1 ∧ Below w.heap.size w w'
theorem givesBEC_nil {w w' : World} {k : Nat} (hb : Below w.heap.size w w') : GivesBEC w ([], 0, k) (.returned (.tuple #[.slice none 0 0, .int .i64 0, .int .i64 (k : Int)])) w' :=
  ⟨none, 0, rfl, World.ownsRow_nil _ _ _ _, hb⟩
theorem showsBEC_nil {w w' : World} {B k : Nat} (hb : Below w.heap.size w w') : ShowsBEC w B ([], 0, k) (.returned (.tuple #[.slice none 0 0, .int .i64 0, .int .i64 (k : Int)])) w' :=
  ⟨none, 0, rfl, Reads.empty, hb⟩

set_option maxHeartbeats 1000000 in
theorem JGet_any (A : Option Addr) (n c : Nat) (l : List UInt8) (a : Int) (w : World) (ht : Tab w) (h : Bts w w.heap.size A n l) (hA : A = none → n = 0 ∧ c = 0) (hnc : n ≤ c) (hc : c ≤ 9223372036854775807) (hn : n ≤ 1000000000) :
    Calls Tryd.prog 21 #[.slice A n c, .int .i64 a] w (GivesBEC w (jGet l a)) := by
  have hlen := h.len
  subst hlen
  obtain ⟨⟨m, f, cd⟩, hv⟩ : ∃ r, lebAt l a = r := ⟨_, rfl⟩
  have G1 := Get_any A l.length c l a w h hnc hc (by omega)
  rw [hv] at G1
  simp only [getVal] at G1
  have HG := Lib.hid G1
  clear G1
  by_cases hcd : cd = 0
  · subst hcd
    obtain ⟨k, rfl, hke, hfl, _, hm64⟩ := lebAt_put hv
    have HM := Lib.hid hm64
    clear hm64
    by_cases hform : m = 0 ∨ 1048577 < m
    · have HJ := Lib.hid (jGet_form hv hform)
      rcases hform with hm | hm
      · subst hm
        clear hv
        go_enter Tryd.func21, Tryd.ntmps21
        go_wp2_with fail
        refine HG.out.mono ?_
        rintro e w1 ⟨rfl, rfl⟩
        go_wp2_with fail
        go_ret3
        rw [HJ.out]
        exact givesBEC_nil (Below.refl _ _)
      · have hm0 : ((m : Int) == 0) = false := by rw [beq_eq_false_iff_ne]; omega
        clear hv
        go_enter Tryd.func21, Tryd.ntmps21
        go_wp2_with fail
        refine HG.out.mono ?_
        rintro e w1 ⟨rfl, rfl⟩
        go_wp2_with fail
        go_ret3
        rw [HJ.out]
        exact givesBEC_nil (Below.refl _ _)
    · have hm0 : ((m : Int) == 0) = false := by rw [beq_eq_false_iff_ne]; omega
      have hm1 : m ≤ 1048577 := by omega
      have hm2 : 0 < m := by omega
      by_cases hshort : l.length < f + m + 3
      · have HJ := Lib.hid (jGet_short hv hform hshort)
        clear hv hform
        go_enter Tryd.func21, Tryd.ntmps21
        go_wp2_with fail
        refine HG.out.mono ?_
        rintro e w1 ⟨rfl, rfl⟩
        go_wp2_with fail
        go_ret3
        rw [HJ.out]
        exact givesBEC_nil (Below.refl _ _)
      · obtain ⟨⟨r, c2⟩, ho⟩ : ∃ r, openB ((l.drop f).take (m + 3)) = r := ⟨_, rfl⟩
        have HJ := Lib.hid (jGet_open hv hform hshort ho)
        obtain ⟨b, off, rfl, hb, hcell⟩ := h.plain (by omega)
        have hsub := Bts.sub' h f (f + m + 3) (by omega) (by omega)
        rw [show f + m + 3 - f = m + 3 from by omega] at hsub
        have HO := Open_any (some ⟨b, off + f, none⟩) (m + 3) (c - f) _ w ht hsub (fun h => by cases h) (by omega) (by omega) (by omega)
        rw [ho] at HO
        have HO := Lib.hid HO
        clear hcell hv hform ho hsub
        go_enter Tryd.func21, Tryd.ntmps21
        go_wp2_with fail
        refine HG.out.mono ?_
        rintro e w1 ⟨rfl, rfl⟩
        go_wp2_with fail
        rw [show f + m - 1 + 4 - f = m + 3 from by omega]
        refine HO.out.mono ?_
        rintro e w2 ⟨A2, c3, rfl, hown2, hb2⟩
        by_cases hc2 : c2 = 0
        · subst hc2
          rw [if_neg (by simp)] at HJ
          have HO2 := Lib.hid hown2
          clear hown2
          go_wp2_with fail
          go_ret3
          rw [HJ.out]
          exact ⟨A2, c3, by simp; omega, HO2.out, hb2⟩
        · have hcb : ((c2 : Int) != 0) = true := by rw [bne_iff_ne]; omega
          rw [if_pos hc2] at HJ
          clear hown2 hc2
          go_wp2_with fail
          go_ret3
          rw [HJ.out]
          exact givesBEC_nil hb2
  · have HJ := Lib.hid (jGet_err hv hcd)
    have hcb : ((cd : Int) != 0) = true := by rw [bne_iff_ne]; omega
    clear hv hcd
    go_enter Tryd.func21, Tryd.ntmps21
    go_wp2_with fail
    refine HG.out.mono ?_
    rintro e w1 ⟨rfl, rfl⟩
    go_wp2_with fail
    go_ret3
    rw [HJ.out]
    exact givesBEC_nil (Below.refl _ _)

set_option maxHeartbeats 1000000 in
theorem rJGet_any (B : Nat) (A : Option Addr) (n c : Nat) (l : List UInt8) (a : Int) (w : World) (hBw : B ≤ w.heap.size) (h : Bts w B A n l) (hA : A = none → n = 0 ∧ c = 0) (hnc : n ≤ c) (hc : c ≤ 9223372036854775807) (hn : n ≤ 1000000000) :
    Calls Tryd.prog 22 #[.slice A n c, .int .i64 a] w (ShowsBEC w B (jGet l a)) := by
  have hlen := h.len
  subst hlen
  obtain ⟨⟨m, f, cd⟩, hv⟩ : ∃ r, lebAt l a = r := ⟨_, rfl⟩
  have G1 := rGet_any A l.length c l a w (Reads.wide h hBw) hnc hc (by omega)
  rw [hv] at G1
  simp only [getVal] at G1
  have HG := Lib.hid G1
  clear G1
  by_cases hcd : cd = 0
  · subst hcd
    obtain ⟨k, rfl, hke, hfl, _, hm64⟩ := lebAt_put hv
    have HM := Lib.hid hm64
    clear hm64
    by_cases hform : m = 0 ∨ 1048577 < m
    · have HJ := Lib.hid (jGet_form hv hform)
      rcases hform with hm | hm
      · subst hm
        clear hv
        go_enter Tryd.func22, Tryd.ntmps22
        go_wp2_with fail
        refine HG.out.mono ?_
        rintro e w1 ⟨rfl, rfl⟩
        go_wp2_with fail
        go_ret3
        rw [HJ.out]
        exact showsBEC_nil (Below.refl _ _)
      · have hm0 : ((m : Int) == 0) = false := by rw [beq_eq_false_iff_ne]; omega
        clear hv
        go_enter Tryd.func22, Tryd.ntmps22
        go_wp2_with fail
        refine HG.out.mono ?_
        rintro e w1 ⟨rfl, rfl⟩
        go_wp2_with fail
        go_ret3
        rw [HJ.out]
        exact showsBEC_nil (Below.refl _ _)
    · have hm0 : ((m : Int) == 0) = false := by rw [beq_eq_false_iff_ne]; omega
      have hm1 : m ≤ 1048577 := by omega
      have hm2 : 0 < m := by omega
      by_cases hshort : l.length < f + m + 3
      · have HJ := Lib.hid (jGet_short hv hform hshort)
        clear hv hform
        go_enter Tryd.func22, Tryd.ntmps22
        go_wp2_with fail
        refine HG.out.mono ?_
        rintro e w1 ⟨rfl, rfl⟩
        go_wp2_with fail
        go_ret3
        rw [HJ.out]
        exact showsBEC_nil (Below.refl _ _)
      · obtain ⟨⟨r, c2⟩, ho⟩ : ∃ r, openB ((l.drop f).take (m + 3)) = r := ⟨_, rfl⟩
        have HJ := Lib.hid (jGet_open hv hform hshort ho)
        obtain ⟨b, off, rfl, hb, hcell⟩ := h.plain (by omega)
        have hsub := Bts.sub' h f (f + m + 3) (by omega) (by omega)
        rw [show f + m + 3 - f = m + 3 from by omega] at hsub
        have HO := rOpen_any B (some ⟨b, off + f, none⟩) (m + 3) (c - f) _ w hBw hsub (fun h => by cases h) (by omega) (by omega) (by omega)
        rw [ho] at HO
        have HO := Lib.hid HO
        clear hcell hv hform ho hsub
        go_enter Tryd.func22, Tryd.ntmps22
        go_wp2_with fail
        refine HG.out.mono ?_
        rintro e w1 ⟨rfl, rfl⟩
        go_wp2_with fail
        refine HO.out.mono ?_
        rintro e w2 ⟨A2, c3, rfl, hown2, _, _, _, hb2⟩
        by_cases hc2 : c2 = 0
        · subst hc2
          rw [if_neg (by simp)] at HJ
          have HO2 := Lib.hid hown2
          clear hown2
          go_wp2_with fail
          go_ret3
          rw [HJ.out]
          exact ⟨A2, c3, by simp; omega, HO2.out, hb2⟩
        · have hcb : ((c2 : Int) != 0) = true := by rw [bne_iff_ne]; omega
          rw [if_pos hc2] at HJ
          clear hown2 hc2
          go_wp2_with fail
          go_ret3
          rw [HJ.out]
          exact showsBEC_nil hb2
  · have HJ := Lib.hid (jGet_err hv hcd)
    have hcb : ((cd : Int) != 0) = true := by rw [bne_iff_ne]; omega
    clear hv hcd
    go_enter Tryd.func22, Tryd.ntmps22
    go_wp2_with fail
    refine HG.out.mono ?_
    rintro e w1 ⟨rfl, rfl⟩
    go_wp2_with fail
    go_ret3
    rw [HJ.out]
    exact showsBEC_nil (Below.refl _ _)
end Go.Proofs.YtgelgkgmgjhmnaaDoor
