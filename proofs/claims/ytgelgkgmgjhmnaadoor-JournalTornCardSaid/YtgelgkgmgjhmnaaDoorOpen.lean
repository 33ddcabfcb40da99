/-
  crc.Open and the document's own compute openB.
-/
import Derived.Test.YtgelgkgmgjhmnaaDoorSeal
import Derived.Test.YtgelgkgmgjhmnaaDoorClone
namespace Go.Proofs.YtgelgkgmgjhmnaaDoor
open Go.RowKit
set_option linter.unusedVariables false
set_option linter.unusedSimpArgs false

/-- it returns new bytes and a code -/
def GivesBC (w : World) (r : List UInt8 × Nat) (e : Ending) (w' : World) : Prop :=
  ∃ A c, e = .returned (.tuple #[.slice A r.1.length c, .int .i64 (r.2 : Int)]) ∧ w'.ownsRow w.heap.size 5 1 (.slice A r.1.length c) r.1.length (byts r.1) ∧ Below w.heap.size w w'
/-- it returns bytes that are there and a code -/
def ShowsBC (w : World) (B : Nat) (r : List UInt8 × Nat) (e : Ending) (w' : World) : Prop :=
  ∃ A c, e = .returned (.tuple #[.slice A r.1.length c, .int .i64 (r.2 : Int)]) ∧ Bts w' B A r.1.length r.1 ∧ r.1.length ≤ c ∧ c ≤ 9223372036854775807 ∧ (A = none → r.1.length = 0 ∧ c = 0) ∧ Below w.heap.size w w'
theorem givesBC_nil {w w' : World} {k : Nat} (hb : Below w.heap.size w w') : GivesBC w ([], k) (.returned (.tuple #[.slice none 0 0, .int .i64 (k : Int)])) w' :=
  ⟨none, 0, rfl, World.ownsRow_nil _ _ _ _, hb⟩
theorem showsBC_nil {w w' : World} {B k : Nat} (hb : Below w.heap.size w w') : ShowsBC w B ([], k) (.returned (.tuple #[.slice none 0 0, .int .i64 (k : Int)])) w' :=
  ⟨none, 0, rfl, Reads.empty, Nat.le_refl _, by omega, fun _ => ⟨rfl, rfl⟩, hb⟩

theorem Bts.sub' {w : World} {B : Nat} {b off n : Nat} {l : List UInt8} (h : Bts w B (some ⟨b, off, none⟩) n l) (k e : Nat) (hk : k ≤ e) (he : e ≤ n) :
    Bts w B (some ⟨b, off + k, none⟩) (e - k) ((l.drop k).take (e - k)) := by
  refine ⟨?_, fun hn => ?_⟩
  · have := h.len
    simp; omega
  · obtain ⟨ad, e1, hb, hc⟩ := h.2 (by omega)
    injection e1 with e1
    subst e1
    refine ⟨_, rfl, hb, fun j u hu => ?_⟩
    have := hc (k + j) u (by
      rw [← byts_take, ← byts_drop, List.getElem?_take] at hu
      split at hu
      · rwa [List.getElem?_drop] at hu
      · cases hu)
    rw [add_plain] at this ⊢
    rwa [Nat.add_assoc]
theorem Bts.head {w : World} {B : Nat} {A : Option Addr} {n : Nat} {l : List UInt8} (h : Bts w B A n l) (k : Nat) (hk : k ≤ n) : Bts w B A k (l.take k) := by
  have := Reads.take h hk
  rwa [Nat.mul_one, byts_take] at this

set_option maxHeartbeats 1000000 in
theorem Open_any (A : Option Addr) (n c : Nat) (l : List UInt8) (w : World) (ht : Tab w) (h : Bts w w.heap.size A n l) (hA : A = none → n = 0 ∧ c = 0) (hnc : n ≤ c) (hc : c ≤ 9223372036854775807) (hn : n ≤ 35184372088832) :
    Calls Tryd.prog 15 #[.slice A n c] w (GivesBC w (openB l)) := by
  have hlen := h.len
  subst hlen
  by_cases h4 : l.length < 4
  · have HO : Hid (openB l = ([], 14)) := by unfold Hid openB; rw [if_pos h4]
    go_enter Tryd.func15, Tryd.ntmps15
    go_wp2_with fail
    go_ret2
    rw [HO.out]
    exact givesBC_nil (Below.refl _ _)
  · obtain ⟨b, off, rfl, hb, hcell⟩ := h.plain (by omega)
    clear hcell
    have i1 : IntKind.i64.wrap ((l.length : Int) - 4) = (l.length : Int) - 4 := IntWalk.i64_in _ (by omega)
    have i2 : (0 : Int) ≤ (l.length : Int) - 4 := by omega
    have i3 : (4 : Int) ≤ (l.length : Int) := by omega
    have i4 : ((l.length : Int) - 4).toNat = l.length - 4 := by omega
    have i5 : (l.length : Int) ≤ (c : Int) := by omega
    have i6 : ((l.length : Int) - 4) ≤ (l.length : Int) := by omega
    have i7 : ((l.length : Int) - 4) ≤ (c : Int) := by omega
    have i8 : ¬ c = l.length - 4 := by omega
    go_enter Tryd.func15, Tryd.ntmps15
    go_wp2_with fail
    go_quiet (fail)
    clear i1 i2 i3 i4 i5 i6 i7 i8
    go_wp2_with fail
    refine (Sum_any _ _ c (l.take (l.length - 4)) _ (ht.drewN _) (Bts.head h _ (by omega)) (by omega)).mono ?_
    rintro e w1 ⟨rfl, rfl⟩
    go_wp2_with fail
    refine (tail_any _ _ (crcMore_lt 0 _ (by omega))).mono ?_
    rintro e w2 ⟨A2, c2, rfl, hown2, hb2⟩
    have hbw : Below w.heap.size w w2 := (bel_drewN (Below.refl _ _) _).trans hb2
    have hr2 : Bts w2 w2.heap.size (some ⟨b, off, none⟩) l.length l := (Reads.below h hbw).wide hbw.size
    have hsub := Bts.sub' hr2 (l.length - 4) l.length (by omega) (Nat.le_refl _)
    rw [List.take_of_length_le (by simp)] at hsub
    have hq := Equal_any _ _ (c - (l.length - 4)) _ A2 _ c2 _ w2 _ _ hsub (Reads.of_own hown2)
    have hin := Bts.head hr2 (l.length - 4) (by omega)
    by_cases heq : l.drop (l.length - 4) = tailB (crcMore 0 (l.take (l.length - 4)))
    · have HO : Hid (openB l = (l.take (l.length - 4), 0)) := by unfold Hid openB; rw [if_neg h4, if_pos heq]
      rw [heq, beq_self_eq_true] at hq
      have HQ := Lib.hid hq
      clear hq heq hsub hown2
      go_wp2_with fail
      refine HQ.out.mono ?_
      rintro e w3 ⟨rfl, rfl⟩
      go_wp2_with fail
      refine (Clone_any _ _ c _ _ (fun h => by cases h) hin (by omega)).mono ?_
      rintro e w3 ⟨A3, c3, rfl, hown3, hb3⟩
      have HB : Below w.heap.size w w3 := hbw.trans (hb3.mono hbw.size)
      have HW := ownsRow_low hown3 hbw.size
      clear hown3 hb3 hin
      go_wp2_with fail
      go_ret2
      rw [HO.out]
      exact ⟨A3, c3, by simp, HW, HB⟩
    · have HO : Hid (openB l = ([], 10)) := by unfold Hid openB; rw [if_neg h4, if_neg heq]
      rw [beq_eq_false_iff_ne.2 heq] at hq
      have HQ := Lib.hid hq
      clear hq heq hsub hown2 hin
      go_wp2_with fail
      refine HQ.out.mono ?_
      rintro e w3 ⟨rfl, rfl⟩
      go_wp2_with fail
      go_ret2
      rw [HO.out]
      exact givesBC_nil hbw

set_option maxHeartbeats 1000000 in
theorem rOpen_any (B : Nat) (A : Option Addr) (n c : Nat) (l : List UInt8) (w : World) (hBw : B ≤ w.heap.size) (h : Bts w B A n l) (hA : A = none → n = 0 ∧ c = 0) (hnc : n ≤ c) (hc : c ≤ 9223372036854775807) (hn : n ≤ 35184372088832) :
    Calls Tryd.prog 16 #[.slice A n c] w (ShowsBC w B (openB l)) := by
  have hlen := h.len
  subst hlen
  by_cases h4 : l.length < 4
  · have HO : Hid (openB l = ([], 14)) := by unfold Hid openB; rw [if_pos h4]
    go_enter Tryd.func16, Tryd.ntmps16
    go_wp2_with fail
    go_ret2
    rw [HO.out]
    exact showsBC_nil (Below.refl _ _)
  · obtain ⟨b, off, rfl, hb, hcell⟩ := h.plain (by omega)
    clear hcell
    have i1 : IntKind.i64.wrap ((l.length : Int) - 4) = (l.length : Int) - 4 := IntWalk.i64_in _ (by omega)
    have i2 : (0 : Int) ≤ (l.length : Int) - 4 := by omega
    have i3 : (4 : Int) ≤ (l.length : Int) := by omega
    have i4 : ((l.length : Int) - 4).toNat = l.length - 4 := by omega
    have i5 : (l.length : Int) ≤ (c : Int) := by omega
    have i6 : ((l.length : Int) - 4) ≤ (l.length : Int) := by omega
    have i7 : ((l.length : Int) - 4) ≤ (c : Int) := by omega
    have i8 : ¬ c = l.length - 4 := by omega
    go_enter Tryd.func16, Tryd.ntmps16
    have hd : Bts w.drew w.drew.heap.size (some ⟨b, off, none⟩) l.length l := Reads.wide h hBw
    have hsub := Bts.sub' hd (l.length - 4) l.length (by omega) (Nat.le_refl _)
    rw [List.take_of_length_le (by simp)] at hsub
    have Q1 := Lib.hid (conv_bytes (P := Tryd.prog) 22 9 5 Tryd.underlying22 Tryd.underlying5 Tryd.underlying9 hsub (c - (l.length - 4)))
    have hin : Bts w B (some ⟨b, off, none⟩) (l.length - 4) (l.take (l.length - 4)) := Bts.head h _ (by omega)
    go_wp2_with fail
    refine wp_region_noPanic ?_
    refine wp_region_held_drew (S := fun W => Sem.run Tryd.prog (convert 22 9 (Value.slice (some ⟨b, off + (l.length - 4), none⟩) (l.length - (l.length - 4)) (c - (l.length - 4)))) W = Result.ok (Value.string ⟨(l.drop (l.length - 4)).toArray⟩) W) (by kernel_rfl) ?_ (fun hHeld => ?_)
    · exact Q1.out
    refine wpAnyH_take (i := 0) (oi := _) (v := ?_) rfl (by kernel_rfl) (by kernel_rfl) (by kernel_rfl) (fun _ _ _ h => h) (Or.inl ⟨by rfl, ?_⟩) (by assumption) ?_
    rotate_left
    · (intro w hSw; (try dsimp only at hSw); go_simp; try with_reducible rfl)
    try simp only [List.getElem_toArray, List.getElem_cons_zero, List.getElem_cons_succ, Act.put, List.setIfInBounds_toArray, List.set_cons_zero, List.set_cons_succ]
    refine wpAnyH_take (i := 1) (oi := _) (v := ?_) rfl (by kernel_rfl) (by kernel_rfl) (by kernel_rfl) (fun _ _ _ h => h) (Or.inl ⟨by rfl, ?_⟩) (by assumption) ?_
    rotate_left
    · (intro w hSw; (try dsimp only at hSw); go_simp; try with_reducible rfl)
    try simp only [List.getElem_toArray, List.getElem_cons_zero, List.getElem_cons_succ, Act.put, List.setIfInBounds_toArray, List.set_cons_zero, List.set_cons_succ]
    refine wpAnyH_take (i := 2) (oi := _) (v := ?_) rfl (by kernel_rfl) (by kernel_rfl) (by kernel_rfl) (fun _ _ _ h => h) (Or.inl ⟨by rfl, ?_⟩) (by assumption) ?_
    rotate_left
    · (intro w hSw; (try dsimp only at hSw); go_simp; try with_reducible rfl)
    try simp only [List.getElem_toArray, List.getElem_cons_zero, List.getElem_cons_succ, Act.put, List.setIfInBounds_toArray, List.set_cons_zero, List.set_cons_succ]
    refine wpAnyH_take (i := 6) (oi := _) (v := ?_) rfl (by kernel_rfl) (by kernel_rfl) (by kernel_rfl) (fun _ _ _ h => h) (Or.inl ⟨by rfl, ?_⟩) (by assumption) ?_
    rotate_left
    · (intro w hSw; (try dsimp only at hSw); go_simp; try with_reducible rfl)
    try simp only [List.getElem_toArray, List.getElem_cons_zero, List.getElem_cons_succ, Act.put, List.setIfInBounds_toArray, List.set_cons_zero, List.set_cons_succ]
    refine wpAnyH_take (i := 7) (oi := _) (v := ?_) rfl (by kernel_rfl) (by kernel_rfl) (by kernel_rfl) (fun _ _ _ h => h) (Or.inl ⟨by rfl, ?_⟩) (by assumption) ?_
    rotate_left
    · (intro w hSw; (try dsimp only at hSw); go_simp; try with_reducible rfl)
    try simp only [List.getElem_toArray, List.getElem_cons_zero, List.getElem_cons_succ, Act.put, List.setIfInBounds_toArray, List.set_cons_zero, List.set_cons_succ]
    refine wpAnyH_take (i := 8) (oi := _) (v := ?_) rfl (by kernel_rfl) (by kernel_rfl) (by kernel_rfl) (fun _ _ _ h => h) (Or.inl ⟨by rfl, ?_⟩) (by assumption) ?_
    rotate_left
    · (intro w hSw; (try dsimp only at hSw); go_simp; try with_reducible rfl)
    try simp only [List.getElem_toArray, List.getElem_cons_zero, List.getElem_cons_succ, Act.put, List.setIfInBounds_toArray, List.set_cons_zero, List.set_cons_succ]
    refine wpAnyH_take (i := 9) (oi := _) (v := ?_) rfl (by kernel_rfl) (by kernel_rfl) (by kernel_rfl) (fun _ _ _ h => h) (Or.inl ⟨by rfl, ?_⟩) (by assumption) ?_
    rotate_left
    · (intro w hSw; (try dsimp only at hSw); go_simp; try with_reducible rfl)
    try simp only [List.getElem_toArray, List.getElem_cons_zero, List.getElem_cons_succ, Act.put, List.setIfInBounds_toArray, List.set_cons_zero, List.set_cons_succ]
    refine wpAnyH_ready (rs := [3]) (by kernel_rfl) (by simp) ?_
    refine AllReadyH.cons (o := _) rfl (fun K hK => ?_) AllReadyH.nil
    go_simp
    refine (rSum_any _ _ c (l.take (l.length - 4)) _ (Bts.head hd _ (by omega)) (by omega)).mono ?_
    rintro e1 w1 ⟨rfl, rfl⟩
    go_wp2_with fail
    refine hK.out _ _ ?_ (fun hHeld => ?_)
    · exact Q1.out
    clear hK K
    try simp only [List.getElem_toArray, List.getElem_cons_zero, List.getElem_cons_succ, Act.put, List.setIfInBounds_toArray, List.set_cons_zero, List.set_cons_succ]
    refine wpAnyH_ready (rs := [4]) (by kernel_rfl) (by simp) ?_
    refine AllReadyH.cons (o := _) rfl (fun K hK => ?_) AllReadyH.nil
    go_simp
    refine (rTail_any _ _ (crcMore_lt 0 _ (by omega))).mono ?_
    rintro e2 w2 ⟨A2, c2, rfl, hown2, hb2⟩
    have q3 := conv_bytes (P := Tryd.prog) 22 9 5 Tryd.underlying22 Tryd.underlying5 Tryd.underlying9 (Reads.of_own hown2) c2
    have Q4 := Lib.hid (conv_bytes (P := Tryd.prog) 22 9 5 Tryd.underlying22 Tryd.underlying5 Tryd.underlying9 (Reads.below hsub hb2) (c - (l.length - 4)))
    go_wp2_with fail
    refine hK.out _ _ ?_ (fun hHeld => ?_)
    · exact Q4.out
    clear hK K
    try simp only [List.getElem_toArray, List.getElem_cons_zero, List.getElem_cons_succ, Act.put, List.setIfInBounds_toArray, List.set_cons_zero, List.set_cons_succ]
    refine wpAnyH_ready (rs := [5]) (by kernel_rfl) (by simp) ?_
    refine AllReadyH.cons (o := _) rfl (fun K hK => ?_) AllReadyH.nil
    go_simp
    refine hK.out _ _ ?_ (fun hHeld => ?_)
    · exact Q4.out
    clear hK K
    try simp only [List.getElem_toArray, List.getElem_cons_zero, List.getElem_cons_succ, Act.put, List.setIfInBounds_toArray, List.set_cons_zero, List.set_cons_succ]
    refine wpAnyH_take (i := 10) (oi := _) (v := ?_) rfl (by kernel_rfl) (by kernel_rfl) (by kernel_rfl) (fun _ _ _ h => h) (Or.inl ⟨by rfl, ?_⟩) (by assumption) ?_
    rotate_left
    · (intro w hSw; (try dsimp only at hSw); go_simp; try with_reducible rfl)
    try simp only [List.getElem_toArray, List.getElem_cons_zero, List.getElem_cons_succ, Act.put, List.setIfInBounds_toArray, List.set_cons_zero, List.set_cons_succ]
    refine wpAnyH_done (by kernel_rfl) ?_ _
    refine NoPanic.normal ?_
    have hbw : Below w.heap.size w w2 := (Below.refl _ _).drew.trans hb2
    have hin2 : Bts w2 B (some ⟨b, off, none⟩) (l.length - 4) (l.take (l.length - 4)) := Reads.later hin hbw hBw
    clear i1 i2 i4 i5 i6 i7 i8 q3 Q4 Q1 hsub hd hown2 hb2 hHeld
    go_wp2_with fail
    · have ha : (!tailB (crcMore 0 (List.take (l.length - 4) l)) == List.drop (l.length - 4) l) = true := by assumption
      have heq : ¬ l.drop (l.length - 4) = tailB (crcMore 0 (l.take (l.length - 4))) := fun hh => by rw [hh] at ha; simp at ha
      have HO : openB l = ([], 10) := by unfold openB; rw [if_neg h4, if_neg heq]
      go_ret2
      rw [HO]
      exact showsBC_nil hbw
    · have ha : (!tailB (crcMore 0 (List.take (l.length - 4) l)) == List.drop (l.length - 4) l) = false := by assumption
      have heq : l.drop (l.length - 4) = tailB (crcMore 0 (l.take (l.length - 4))) := by
        rw [Bool.not_eq_false', beq_iff_eq] at ha
        exact ha.symm
      have HO : openB l = (l.take (l.length - 4), 0) := by unfold openB; rw [if_neg h4, if_pos heq]
      have el : (l.take (l.length - 4)).length = l.length - 4 := by simp
      go_ret2
      rw [HO]
      refine ⟨some ⟨b, off, none⟩, c, by rw [el]; rfl, by rw [el]; exact hin2, by rw [el]; omega, hc, (fun h => by cases h), hbw⟩
end Go.Proofs.YtgelgkgmgjhmnaaDoor
