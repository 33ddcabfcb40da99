/-
  hachurelaw02.LebGets returns true whatever the bytes and the place.
-/
import Derived.Test.YtgelgkgmgjhmnaaLebAwake
import Derived.Test.YtgelgkgmgjhmnaaLebApart
import Derived.Test.YtgelgkgmgjhmnaaLebGet
import Derived.Deep.RegionWith
import Derived.Deep.RegionHeld3
import Derived.Deep.DrawnRows
import Derived.Deep.QuietTactic
import Derived.BigQuiet
namespace Go.Proofs.Ytgelgkgmgjhmnaa
open Go.RowKit
set_option linter.unusedVariables false
set_option linter.unusedSimpArgs false
attribute [local go_sem ↓] Go.wp_at_zero Go.wp_at_succ

theorem Bts.sub {w : World} {B : Nat} {b off n : Nat} {l : List UInt8} (h : Bts w B (some ⟨b, off, none⟩) n l) (k e : Nat) (hk : k ≤ e) (he : e ≤ n) :
    Bts w B (some ⟨b, off + k, none⟩) (e - k) ((l.drop k).take (e - k)) := by
  refine ⟨?_, fun hn => ?_⟩
  · have := h.len
    simp; omega
  · obtain ⟨ad, e1, hb, hc⟩ := h.2 (by omega)
    injection e1 with e1
    subst e1
    refine ⟨_, rfl, hb, fun j u hu => ?_⟩
    have := hc (k + j) u (by
      rw [← byts_take, ← byts_drop, List.getElem?_take] at hu
      split at hu
      · rwa [List.getElem?_drop] at hu
      · cases hu)
    rw [add_plain] at this ⊢
    rwa [Nat.add_assoc]

set_option maxHeartbeats 2000000 in
set_option maxRecDepth 100000 in
theorem LebGets_walk (A : Option Addr) (n c : Nat) (l : List UInt8) (a : Int) (w : World) (h : Bts w w.heap.size A n l) (hA : A = none → n = 0 ∧ c = 0) (hnc : n ≤ c) (hc : c ≤ maxLen) (h1 : -9223372036854775808 ≤ a) (h2 : a ≤ 9223372036854775807) :
    Calls Try.prog 5 #[.slice A n c, .int .i64 a] w fun e w' => e = .returned (.bool true) ∧ Below w.heap.size w w' := by
  unfold maxLen at hc
  have hlen := h.len
  subst hlen
  go_enter Try.func5, Try.ntmps5
  go_wp2_with fail
  refine (lebAwake _).mono ?_
  rintro e w1 ⟨rfl, hb1⟩
  by_cases hbig : 400 < l.length
  · go_wp2_with fail
    go_ret
    exact ⟨rfl, hb1⟩
  · have hr : Bts w1 w1.heap.size A l.length l := (Reads.below h hb1).wide hb1.size
    obtain ⟨⟨m, e, cd⟩, hv⟩ : ∃ r, lebAt l a = r := ⟨_, rfl⟩
    have G1 := Get_any A l.length c l a w1 hr hnc hc (by omega)
    have G2 := rGet_any A l.length c l a w1 hr hnc hc (by omega)
    rw [hv] at G1 G2
    simp only [getVal] at G1 G2
    have HG1 := Lib.hid G1
    have HG2 := Lib.hid G2
    have HV := Lib.hid hv
    clear G1 G2 hv
    by_cases hcd : cd = 0
    · subst hcd
      obtain ⟨k, rfl, hke, hel, hput, hm⟩ := lebAt_put HV.out
      obtain ⟨b, off, rfl, hb, hcell⟩ := hr.plain (by omega)
      have hsub := Bts.sub hr k e (by omega) hel
      rw [hput] at hsub
      have HM := Lib.hid hm
      have hsubd : Bts w1.drew w1.drew.heap.size (some ⟨b, off + k, none⟩) (e - k) (lebB m) := hsub
      clear hcell hput HV hm
      have i1 : (0 : Int) ≤ (k : Int) := by omega
      have i2 : (k : Int) ≤ (e : Int) := by omega
      have i3 : (e : Int) ≤ (l.length : Int) := by omega
      have i4 : (e : Int) ≤ (c : Int) := by omega
      have i5 : ¬ c = k := by omega
      have i6 : ((e : Int) - (k : Int)).toNat = e - k := by omega
      have i7 : ((c : Int) - (k : Int)).toNat = c - k := by omega
      have i8 : (k : Int) < (c : Int) := by omega
      have q1 := conv_bytes (P := Try.prog) (w := w1.drew) 24 9 5 Try.underlying24 Try.underlying5 Try.underlying9 hsub (c - k)
      go_wp2_with fail
      refine HG1.out.mono ?_
      rintro e1 w2 ⟨rfl, rfl⟩
      go_wp2_with fail
      refine HG2.out.mono ?_
      rintro e1 w2 ⟨rfl, rfl⟩
      go_wp2_with fail
      have Q1 := Lib.hid q1
      clear q1
      refine wp_region_noPanic ?_
      refine wp_region_held_drew (S := fun W => Sem.run Try.prog (convert 24 9 (Value.slice (some ⟨b, off + k, none⟩) (e - k) (c - k))) W = Result.ok (Value.string ⟨(lebB m).toArray⟩) W) (by kernel_rfl) ?_ (fun hHeld => ?_)
      · exact Q1.out
      refine wpAnyH_take (i := 0) (oi := _) (v := ?_) rfl (by kernel_rfl) (by kernel_rfl) (by kernel_rfl) (fun _ _ _ h => h) (Or.inl ⟨by rfl, ?_⟩) (by assumption) ?_
      rotate_left
      · (intro w hSw; (try dsimp only at hSw); go_simp; try with_reducible rfl)
      try simp only [List.getElem_toArray, List.getElem_cons_zero, List.getElem_cons_succ, Act.put, List.setIfInBounds_toArray, List.set_cons_zero, List.set_cons_succ]
      refine wpAnyH_take (i := 1) (oi := _) (v := ?_) rfl (by kernel_rfl) (by kernel_rfl) (by kernel_rfl) (fun _ _ _ h => h) (Or.inl ⟨by rfl, ?_⟩) (by assumption) ?_
      rotate_left
      · (intro w hSw; (try dsimp only at hSw); go_simp; try with_reducible rfl)
      try simp only [List.getElem_toArray, List.getElem_cons_zero, List.getElem_cons_succ, Act.put, List.setIfInBounds_toArray, List.set_cons_zero, List.set_cons_succ]
      refine wpAnyH_take (i := 2) (oi := _) (v := ?_) rfl (by kernel_rfl) (by kernel_rfl) (by kernel_rfl) (fun _ _ _ h => h) (Or.inl ⟨by rfl, ?_⟩) (by assumption) ?_
      rotate_left
      · (intro w hSw; (try dsimp only at hSw); go_simp; try with_reducible rfl)
      try simp only [List.getElem_toArray, List.getElem_cons_zero, List.getElem_cons_succ, Act.put, List.setIfInBounds_toArray, List.set_cons_zero, List.set_cons_succ]
      refine wpAnyH_take (i := 3) (oi := _) (v := ?_) rfl (by kernel_rfl) (by kernel_rfl) (by kernel_rfl) (fun _ _ _ h => h) (Or.inl ⟨by rfl, ?_⟩) (by assumption) ?_
      rotate_left
      · (intro w hSw; (try dsimp only at hSw); go_simp; try with_reducible rfl)
      try simp only [List.getElem_toArray, List.getElem_cons_zero, List.getElem_cons_succ, Act.put, List.setIfInBounds_toArray, List.set_cons_zero, List.set_cons_succ]
      refine wpAnyH_take (i := 6) (oi := _) (v := ?_) rfl (by kernel_rfl) (by kernel_rfl) (by kernel_rfl) (fun _ _ _ h => h) (Or.inl ⟨by rfl, ?_⟩) (by assumption) ?_
      rotate_left
      · (intro w hSw; (try dsimp only at hSw); go_simp; try with_reducible rfl)
      try simp only [List.getElem_toArray, List.getElem_cons_zero, List.getElem_cons_succ, Act.put, List.setIfInBounds_toArray, List.set_cons_zero, List.set_cons_succ]
      refine wpAnyH_take (i := 7) (oi := _) (v := ?_) rfl (by kernel_rfl) (by kernel_rfl) (by kernel_rfl) (fun _ _ _ h => h) (Or.inl ⟨by rfl, ?_⟩) (by assumption) ?_
      rotate_left
      · (intro w hSw; (try dsimp only at hSw); go_simp; try with_reducible rfl)
      try simp only [List.getElem_toArray, List.getElem_cons_zero, List.getElem_cons_succ, Act.put, List.setIfInBounds_toArray, List.set_cons_zero, List.set_cons_succ]
      refine wpAnyH_take (i := 8) (oi := _) (v := ?_) rfl (by kernel_rfl) (by kernel_rfl) (by kernel_rfl) (fun _ _ _ h => h) (Or.inl ⟨by rfl, ?_⟩) (by assumption) ?_
      rotate_left
      · (intro w hSw; (try dsimp only at hSw); go_simp; try with_reducible rfl)
      try simp only [List.getElem_toArray, List.getElem_cons_zero, List.getElem_cons_succ, Act.put, List.setIfInBounds_toArray, List.set_cons_zero, List.set_cons_succ]
      refine wpAnyH_take (i := 9) (oi := _) (v := ?_) rfl (by kernel_rfl) (by kernel_rfl) (by kernel_rfl) (fun _ _ _ h => h) (Or.inl ⟨by rfl, ?_⟩) (by assumption) ?_
      rotate_left
      · (intro w hSw; (try dsimp only at hSw); go_simp; try with_reducible rfl)
      try simp only [List.getElem_toArray, List.getElem_cons_zero, List.getElem_cons_succ, Act.put, List.setIfInBounds_toArray, List.set_cons_zero, List.set_cons_succ]
      refine wpAnyH_take (i := 10) (oi := _) (v := ?_) rfl (by kernel_rfl) (by kernel_rfl) (by kernel_rfl) (fun _ _ _ h => h) (Or.inl ⟨by rfl, ?_⟩) (by assumption) ?_
      rotate_left
      · (intro w hSw; (try dsimp only at hSw); go_simp; try with_reducible rfl)
      try simp only [List.getElem_toArray, List.getElem_cons_zero, List.getElem_cons_succ, Act.put, List.setIfInBounds_toArray, List.set_cons_zero, List.set_cons_succ]
      refine wpAnyH_ready (rs := [4]) (by kernel_rfl) (by simp) ?_
      refine AllReadyH.cons (o := _) rfl (fun K hK => ?_) AllReadyH.nil
      go_simp
      refine (PutNil m _ HM.out).mono ?_
      rintro e3 w3 ⟨A3, c3, rfl, hown3, hb3⟩
      have q3 := conv_bytes (P := Try.prog) 24 9 5 Try.underlying24 Try.underlying5 Try.underlying9 (Reads.of_own hown3) c3
      have Q4 := Lib.hid (conv_bytes (P := Try.prog) 24 9 5 Try.underlying24 Try.underlying5 Try.underlying9 (Reads.below hsubd hb3) (c - k))
      go_wp2_with fail
      refine hK.out _ _ ?_ (fun hHeld => ?_)
      · exact Q4.out
      clear hK K
      try simp only [List.getElem_toArray, List.getElem_cons_zero, List.getElem_cons_succ, Act.put, List.setIfInBounds_toArray, List.set_cons_zero, List.set_cons_succ]
      refine wpAnyH_ready (rs := [5]) (by kernel_rfl) (by simp) ?_
      refine AllReadyH.cons (o := _) rfl (fun K hK => ?_) AllReadyH.nil
      go_simp
      refine hK.out _ _ ?_ (fun hHeld => ?_)
      · exact Q4.out
      clear hK K
      try simp only [List.getElem_toArray, List.getElem_cons_zero, List.getElem_cons_succ, Act.put, List.setIfInBounds_toArray, List.set_cons_zero, List.set_cons_succ]
      refine wpAnyH_take (i := 11) (oi := _) (v := ?_) rfl (by kernel_rfl) (by kernel_rfl) (by kernel_rfl) (fun _ _ _ h => h) (Or.inl ⟨by rfl, ?_⟩) (by assumption) ?_
      rotate_left
      · (intro w hSw; (try dsimp only at hSw); go_simp; try with_reducible rfl)
      try simp only [List.getElem_toArray, List.getElem_cons_zero, List.getElem_cons_succ, Act.put, List.setIfInBounds_toArray, List.set_cons_zero, List.set_cons_succ]
      refine wpAnyH_take (i := 12) (oi := _) (v := ?_) rfl (by kernel_rfl) (by kernel_rfl) (by kernel_rfl) (fun _ _ _ h => h) (Or.inl ⟨by rfl, ?_⟩) (by assumption) ?_
      rotate_left
      · (intro w hSw; (try dsimp only at hSw); go_simp; try with_reducible rfl)
      try simp only [List.getElem_toArray, List.getElem_cons_zero, List.getElem_cons_succ, Act.put, List.setIfInBounds_toArray, List.set_cons_zero, List.set_cons_succ]
      refine wpAnyH_take (i := 13) (oi := _) (v := ?_) rfl (by kernel_rfl) (by kernel_rfl) (by kernel_rfl) (fun _ _ _ h => h) (Or.inl ⟨by rfl, ?_⟩) (by assumption) ?_
      rotate_left
      · (intro w hSw; (try dsimp only at hSw); go_simp; try with_reducible rfl)
      try simp only [List.getElem_toArray, List.getElem_cons_zero, List.getElem_cons_succ, Act.put, List.setIfInBounds_toArray, List.set_cons_zero, List.set_cons_succ]
      refine wpAnyH_done (by kernel_rfl) ?_ _
      refine NoPanic.normal ?_
      go_wp2_with fail
      go_ret
      exact ⟨rfl, hb1.drew.trans (hb3.mono hb1.size)⟩
    · have hcb : ((cd : Int) != 0) = true := by rw [bne_iff_ne]; omega
      go_wp2_with fail
      refine HG1.out.mono ?_
      rintro e1 w2 ⟨rfl, rfl⟩
      go_wp2_with fail
      refine HG2.out.mono ?_
      rintro e1 w2 ⟨rfl, rfl⟩
      go_wp2_with fail
      go_quiet (fail)
      go_wp2_with fail
      go_ret
      exact ⟨rfl, bel_drewN hb1 _⟩
end Go.Proofs.Ytgelgkgmgjhmnaa
