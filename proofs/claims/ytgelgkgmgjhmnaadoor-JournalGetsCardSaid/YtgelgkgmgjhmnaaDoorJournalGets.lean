/-
  hachurelaw40.JournalGets returns true whatever the bytes and the place.
-/
import Derived.Test.YtgelgkgmgjhmnaaDoorJournalAll
import Derived.Test.YtgelgkgmgjhmnaaDoorJournalPuts
namespace Go.Proofs.YtgelgkgmgjhmnaaDoor
open Go.RowKit
set_option linter.unusedVariables false
set_option linter.unusedSimpArgs false

set_option maxHeartbeats 2000000 in
set_option maxRecDepth 100000 in
theorem JournalGets_walk (A : Option Addr) (n c : Nat) (l : List UInt8) (a : Int) (w : World) (ht : Tab w) (h : Bts w w.heap.size A n l) (hA : A = none → n = 0 ∧ c = 0) (hnc : n ≤ c) (hc : c ≤ maxLen) (h1 : -9223372036854775808 ≤ a) (h2 : a ≤ 9223372036854775807) :
    Calls Tryd.prog 7 #[.slice A n c, .int .i64 a] w fun e w' => e = .returned (.bool true) ∧ Below w.heap.size w w' := by
  unfold maxLen at hc
  have hlen := h.len
  subst hlen
  go_enter Tryd.func7, Tryd.ntmps7
  go_wp2_with fail
  refine (jourAwake _ ht).mono ?_
  rintro e w1 ⟨rfl, hb1⟩
  by_cases hbig : 1000 < l.length
  · go_wp2_with fail
    go_ret
    exact ⟨rfl, hb1⟩
  · have r1 : Bts w1 w1.heap.size A l.length l := (Reads.below h hb1).wide hb1.size
    go_wp2_with fail
    refine (JGet_any A _ c l a _ (ht.below hb1 ht.1) r1 hA hnc hc (by omega)).mono ?_
    rintro e w2 ⟨A2, c2, rfl, hown2, hb2⟩
    have hB2 : Below w.heap.size w w2 := hb1.trans (hb2.mono hb1.size)
    go_wp2_with fail
    refine (rJGet_any _ A _ c l a _ (Nat.le_refl _) ((Reads.below h hB2).wide hB2.size) hA hnc hc (by omega)).mono ?_
    rintro e w3 ⟨A3, c3, rfl, hr3, hb3⟩
    have hB3 : Below w.heap.size w w3 := hB2.trans (hb3.mono hB2.size)
    go_wp2_with fail
    refine (JAll_any A _ c l _ (ht.below hB3 ht.1) ((Reads.below h hB3).wide hB3.size) hA hnc hc (by omega)).mono ?_
    rintro e w4 ⟨A4, c4, hs4, rfl, hown4, hp4, hb4⟩
    have hB4 : Below w.heap.size w w4 := hB3.trans (hb4.mono hB3.size)
    go_wp2_with fail
    refine (rJAll_any A _ c l _ ((Reads.below h hB4).wide hB4.size) hA hnc hc (by omega)).mono ?_
    rintro e w5 ⟨A5, c5, hs5, rfl, hown5, hp5, hb5⟩
    have hB5 : Below w.heap.size w w5 := hB4.trans (hb5.mono hB4.size)
    have s2 : Bts w5 w5.heap.size A2 _ _ := (((Reads.of_own hown2).below hb3).wide hb3.size |>.later hb4 (Nat.le_refl _)).wide hb4.size |>.later hb5 (Nat.le_refl _) |>.wide hb5.size
    have s3 : Bts w5 w5.heap.size A3 _ _ := (Reads.wide hr3 hb3.size |>.later hb4 (Nat.le_refl _)).wide hb4.size |>.later hb5 (Nat.le_refl _) |>.wide hb5.size
    have q2 := conv_bytes (P := Tryd.prog) 22 9 5 Tryd.underlying22 Tryd.underlying5 Tryd.underlying9 s2 c2
    have q3 := conv_bytes (P := Tryd.prog) 22 9 5 Tryd.underlying22 Tryd.underlying5 Tryd.underlying9 s3 c3
    have s4 : Reads w5 w5.heap.size 1 A4 hs4.length (hs4.map Hd.val) := ((Reads.of_own hown4).below hb5).wide hb5.size
    have s4p : Parts w5 w5.heap.size hs4 (jAll l).1 := (hp4.parts.below hb5 (Nat.le_refl _)).wide hb5.size
    have hl4 : hs4.length ≤ 1000000000 := by have := hp4.1; have := jAll_len l; omega
    have hl5 : hs5.length ≤ 1000000000 := by have := hp5.1; have := jAll_len l; omega
    have HS := Lib.hid (Same_any A4 c4 hs4 _ A5 c5 hs5 _ w5 _ _ s4 s4p (Reads.of_own hown5) hp5 hl4 hl5 rfl)
    generalize jGet l a = jg at *
    generalize jAll l = ja at *
    clear s2 s3 s4 s4p hl4 hl5 hown2 hr3 hown4 hp4 hown5 hp5 hb2 hb3 hb4 hb5 r1 hB2 hB3 hB4
    go_wp2_with fail
    refine HS.out.mono ?_
    rintro e w6 ⟨rfl, m6, rfl⟩
    go_wp2_with fail
    go_ret
    exact ⟨rfl, bel_drewN hB5 _⟩
end Go.Proofs.YtgelgkgmgjhmnaaDoor
