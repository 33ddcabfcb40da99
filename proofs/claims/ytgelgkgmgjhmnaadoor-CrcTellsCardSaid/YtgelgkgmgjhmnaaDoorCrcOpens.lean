/-
  hachurelaw03.CrcOpens returns true whatever the bytes.
-/
import Derived.Test.YtgelgkgmgjhmnaaDoorOpen
namespace Go.Proofs.YtgelgkgmgjhmnaaDoor
open Go.RowKit
set_option linter.unusedVariables false
set_option linter.unusedSimpArgs false

theorem byts_set (l : List UInt8) (k : Nat) (y : UInt8) : (byts l).set k (.int .u8 (y.toNat : Int)) = byts (l.set k y) := by
  unfold byts
  rw [List.map_set]
theorem xor255 (x : UInt8) : ∃ y : UInt8, bits .xor .u8 (x.toNat : Int) 255 = (y.toNat : Int) := by
  refine ⟨UInt8.ofNat (x.toNat ^^^ 255), ?_⟩
  have hx := UInt8.toNat_lt x
  have := u8_xor_nat x.toNat 255 (by omega) (by omega)
  have hl : x.toNat ^^^ 255 < 256 := Nat.xor_lt_two_pow (n := 8) (by omega) (by omega)
  rw [show (255 : Int) = ((255 : Nat) : Int) from rfl, this, UInt8.toNat_ofNat', Nat.mod_eq_of_lt hl]

set_option maxHeartbeats 4000000 in
set_option maxRecDepth 100000 in
theorem CrcOpens_walk (A : Option Addr) (n c : Nat) (l : List UInt8) (A' : Option Addr) (n' c' : Nat) (l' : List UInt8) (w : World) (ht : Tab w)
    (h : Bts w w.heap.size A n l) (hA : A = none → n = 0 ∧ c = 0) (hnc : n ≤ c) (hc : c ≤ maxLen) (h' : Bts w w.heap.size A' n' l') (hA' : A' = none → n' = 0 ∧ c' = 0) (hnc' : n' ≤ c') (hc' : c' ≤ maxLen) :
    Calls Tryd.prog 4 #[.slice A n c, .slice A' n' c'] w fun e w' => e = .returned (.bool true) ∧ Below w.heap.size w w' := by
  unfold maxLen at hc hc'
  have hlen := h.len
  have hlen' := h'.len
  subst hlen hlen'
  go_enter Tryd.func4, Tryd.ntmps4
  go_wp2_with fail
  refine (crcAwake _ ht).mono ?_
  rintro e w1 ⟨rfl, hb1⟩
  by_cases hbig : 2000 < l.length
  · go_wp2_with fail
    go_ret
    exact ⟨rfl, hb1⟩
  · by_cases hbig' : 2000 < l'.length
    · go_wp2_with fail
      go_ret
      exact ⟨rfl, hb1⟩
    · have hr : Bts w1 w1.heap.size A l.length l := (Reads.below h hb1).wide hb1.size
      go_wp2_with fail
      refine (Seal_any A _ c l _ (ht.below hb1 ht.1) hr (by omega)).mono ?_
      rintro e w2 ⟨A2, c2, rfl, hown2, hb2⟩
      rw [sealB_len] at hown2 ⊢
      obtain ⟨f1, f2, f3⟩ := own_facts hown2
      have hB2 : Below w.heap.size w w2 := hb1.trans (hb2.mono hb1.size)
      go_wp2_with fail
      refine (Open_any A2 _ c2 (sealB l) _ (ht.below hB2 ht.1) (Reads.of_own hown2) f3 f1 f2 (by omega)).mono ?_
      rw [open_seal]
      rintro e w3 ⟨A3, c3, rfl, hown3, hb3⟩
      have hB3 : Below w.heap.size w w3 := hB2.trans (hb3.mono hB2.size)
      have hr3 : Bts w3 w3.heap.size A' l'.length l' := (Reads.below h' hB3).wide hB3.size
      go_wp2_with fail
      refine (Open_any A' _ c' l' _ (ht.below hB3 ht.1) hr3 hA' hnc' hc' (by omega)).mono ?_
      rintro e w4 ⟨A4, c4, rfl, hown4, hb4⟩
      have hB4 : Below w.heap.size w w4 := hB3.trans (hb4.mono hB3.size)
      have hr4 : Bts w4 w4.heap.size A' l'.length l' := (Reads.below h' hB4).wide hB4.size
      go_wp2_with fail
      refine (rOpen_any A' _ c' l' _ hr4 hA' hnc' hc' (by omega)).mono ?_
      rintro e w5 ⟨A5, c5, rfl, hr5, _, _, _, hb5⟩
      have hB5 : Below w.heap.size w w5 := hB4.trans (hb5.mono hB4.size)
      have r1d : Bts w5.drew w5.drew.heap.size A l.length l := (Reads.below h hB5).wide hB5.size
      have r2d : Bts w5.drew w5.drew.heap.size A2 (l.length + 4) (sealB l) := ((((Reads.of_own hown2).below hb3).later hb4 hb3.size).later hb5 (Nat.le_trans hb3.size hb4.size)).wide (Nat.le_trans hb3.size (Nat.le_trans hb4.size hb5.size))
      have r3d : Bts w5.drew w5.drew.heap.size A3 l.length l := (((Reads.of_own hown3).below hb4).later hb5 hb4.size).wide (Nat.le_trans hb4.size hb5.size)
      have r4d : Bts w5.drew w5.drew.heap.size A4 (openB l').1.length (openB l').1 := ((Reads.of_own hown4).below hb5).wide hb5.size
      have r5d : Bts w5.drew w5.drew.heap.size A5 (openB l').1.length (openB l').1 := hr5
      have Q5 := Lib.hid (And.intro (conv_bytes (P := Tryd.prog) 22 9 5 Tryd.underlying22 Tryd.underlying5 Tryd.underlying9 r2d c2) (And.intro (conv_bytes (P := Tryd.prog) 22 9 5 Tryd.underlying22 Tryd.underlying5 Tryd.underlying9 r3d c3) (And.intro (conv_bytes (P := Tryd.prog) 22 9 5 Tryd.underlying22 Tryd.underlying5 Tryd.underlying9 r1d c) (And.intro (conv_bytes (P := Tryd.prog) 22 9 5 Tryd.underlying22 Tryd.underlying5 Tryd.underlying9 r4d c4) (conv_bytes (P := Tryd.prog) 22 9 5 Tryd.underlying22 Tryd.underlying5 Tryd.underlying9 r5d c5)))))
      have hown4' : w5.ownsRow w3.heap.size 5 1 (.slice A4 (openB l').1.length c4) (openB l').1.length (byts (openB l').1) := ownsRow_below hown4 hb5 (Nat.le_refl _)
      clear hown2 hown3 hown4 hr hr3 hr4 hr5 hb2 hb3 hb4 hb5 f1 f2 f3
      go_wp2_with fail
      refine wp_region_noPanic ?_
      refine wp_region_held_drew (S := fun W => Sem.run Tryd.prog (convert 22 9 (Value.slice A2 (l.length + 4) c2)) W = Result.ok (Value.string ⟨(sealB l).toArray⟩) W ∧ Sem.run Tryd.prog (convert 22 9 (Value.slice A3 l.length c3)) W = Result.ok (Value.string ⟨(l).toArray⟩) W ∧ Sem.run Tryd.prog (convert 22 9 (Value.slice A l.length c)) W = Result.ok (Value.string ⟨(l).toArray⟩) W ∧ Sem.run Tryd.prog (convert 22 9 (Value.slice A4 (openB l').1.length c4)) W = Result.ok (Value.string ⟨((openB l').1).toArray⟩) W ∧ Sem.run Tryd.prog (convert 22 9 (Value.slice A5 (openB l').1.length c5)) W = Result.ok (Value.string ⟨((openB l').1).toArray⟩) W) (by kernel_rfl) ?_ (fun hHeld => ?_)
      · exact Q5.out
      refine wpAnyH_take (i := 0) (oi := _) (v := ?_) rfl (by kernel_rfl) (by kernel_rfl) (by kernel_rfl) (fun _ _ _ h => h) (Or.inl ⟨by rfl, ?_⟩) (by assumption) ?_
      rotate_left
      · (intro w hSw; (try dsimp only at hSw); go_simp; try with_reducible rfl)
      try simp only [List.getElem_toArray, List.getElem_cons_zero, List.getElem_cons_succ, Act.put, List.setIfInBounds_toArray, List.set_cons_zero, List.set_cons_succ]
      refine wpAnyH_take (i := 1) (oi := _) (v := ?_) rfl (by kernel_rfl) (by kernel_rfl) (by kernel_rfl) (fun _ _ _ h => h) (Or.inl ⟨by rfl, ?_⟩) (by assumption) ?_
      rotate_left
      · (intro w hSw; (try dsimp only at hSw); go_simp; try with_reducible rfl)
      try simp only [List.getElem_toArray, List.getElem_cons_zero, List.getElem_cons_succ, Act.put, List.setIfInBounds_toArray, List.set_cons_zero, List.set_cons_succ]
      refine wpAnyH_take (i := 2) (oi := _) (v := ?_) rfl (by kernel_rfl) (by kernel_rfl) (by kernel_rfl) (fun _ _ _ h => h) (Or.inl ⟨by rfl, ?_⟩) (by assumption) ?_
      rotate_left
      · (intro w hSw; (try dsimp only at hSw); go_simp; try with_reducible rfl)
      try simp only [List.getElem_toArray, List.getElem_cons_zero, List.getElem_cons_succ, Act.put, List.setIfInBounds_toArray, List.set_cons_zero, List.set_cons_succ]
      refine wpAnyH_ready (rs := [3]) (by kernel_rfl) (by simp) ?_
      refine AllReadyH.cons (o := _) rfl (fun K hK => ?_) AllReadyH.nil
      go_simp
      refine (rSeal_any A _ c l _ r1d (by omega)).mono ?_
      rintro e6 w6 ⟨A6, c6, rfl, hown6, hb6⟩
      have q6 := conv_bytes (P := Tryd.prog) 22 9 5 Tryd.underlying22 Tryd.underlying5 Tryd.underlying9 (Reads.of_own hown6) c6
      have Q6 := Lib.hid (And.intro (conv_bytes (P := Tryd.prog) 22 9 5 Tryd.underlying22 Tryd.underlying5 Tryd.underlying9 (Reads.below r2d hb6) c2) (And.intro (conv_bytes (P := Tryd.prog) 22 9 5 Tryd.underlying22 Tryd.underlying5 Tryd.underlying9 (Reads.below r3d hb6) c3) (And.intro (conv_bytes (P := Tryd.prog) 22 9 5 Tryd.underlying22 Tryd.underlying5 Tryd.underlying9 (Reads.below r1d hb6) c) (And.intro (conv_bytes (P := Tryd.prog) 22 9 5 Tryd.underlying22 Tryd.underlying5 Tryd.underlying9 (Reads.below r4d hb6) c4) (conv_bytes (P := Tryd.prog) 22 9 5 Tryd.underlying22 Tryd.underlying5 Tryd.underlying9 (Reads.below r5d hb6) c5)))))
      go_wp2_with fail
      refine hK.out _ _ ?_ (fun hHeld => ?_)
      · exact Q6.out
      clear hK K
      try simp only [List.getElem_toArray, List.getElem_cons_zero, List.getElem_cons_succ, Act.put, List.setIfInBounds_toArray, List.set_cons_zero, List.set_cons_succ]
      refine wpAnyH_ready (rs := [4]) (by kernel_rfl) (by simp) ?_
      refine AllReadyH.cons (o := _) rfl (fun K hK => ?_) AllReadyH.nil
      go_simp
      refine hK.out _ _ ?_ (fun hHeld => ?_)
      · exact Q6.out
      clear hK K
      try simp only [List.getElem_toArray, List.getElem_cons_zero, List.getElem_cons_succ, Act.put, List.setIfInBounds_toArray, List.set_cons_zero, List.set_cons_succ]
      refine wpAnyH_take (i := 5) (oi := _) (v := ?_) rfl (by kernel_rfl) (by kernel_rfl) (by kernel_rfl) (fun _ _ _ h => h) (Or.inl ⟨by rfl, ?_⟩) (by assumption) ?_
      rotate_left
      · (intro w hSw; (try dsimp only at hSw); go_simp; try with_reducible rfl)
      try simp only [List.getElem_toArray, List.getElem_cons_zero, List.getElem_cons_succ, Act.put, List.setIfInBounds_toArray, List.set_cons_zero, List.set_cons_succ]
      refine wpAnyH_take (i := 6) (oi := _) (v := ?_) rfl (by kernel_rfl) (by kernel_rfl) (by kernel_rfl) (fun _ _ _ h => h) (Or.inl ⟨by rfl, ?_⟩) (by assumption) ?_
      rotate_left
      · (intro w hSw; (try dsimp only at hSw); go_simp; try with_reducible rfl)
      try simp only [List.getElem_toArray, List.getElem_cons_zero, List.getElem_cons_succ, Act.put, List.setIfInBounds_toArray, List.set_cons_zero, List.set_cons_succ]
      refine wpAnyH_take (i := 7) (oi := _) (v := ?_) rfl (by kernel_rfl) (by kernel_rfl) (by kernel_rfl) (fun _ _ _ h => h) (Or.inl ⟨by rfl, ?_⟩) (by assumption) ?_
      rotate_left
      · (intro w hSw; (try dsimp only at hSw); go_simp; try with_reducible rfl)
      try simp only [List.getElem_toArray, List.getElem_cons_zero, List.getElem_cons_succ, Act.put, List.setIfInBounds_toArray, List.set_cons_zero, List.set_cons_succ]
      refine wpAnyH_take (i := 8) (oi := _) (v := ?_) rfl (by kernel_rfl) (by kernel_rfl) (by kernel_rfl) (fun _ _ _ h => h) (Or.inl ⟨by rfl, ?_⟩) (by assumption) ?_
      rotate_left
      · (intro w hSw; (try dsimp only at hSw); go_simp; try with_reducible rfl)
      try simp only [List.getElem_toArray, List.getElem_cons_zero, List.getElem_cons_succ, Act.put, List.setIfInBounds_toArray, List.set_cons_zero, List.set_cons_succ]
      refine wpAnyH_take (i := 9) (oi := _) (v := ?_) rfl (by kernel_rfl) (by kernel_rfl) (by kernel_rfl) (fun _ _ _ h => h) (Or.inl ⟨by rfl, ?_⟩) (by assumption) ?_
      rotate_left
      · (intro w hSw; (try dsimp only at hSw); go_simp; try with_reducible rfl)
      try simp only [List.getElem_toArray, List.getElem_cons_zero, List.getElem_cons_succ, Act.put, List.setIfInBounds_toArray, List.set_cons_zero, List.set_cons_succ]
      refine wpAnyH_take (i := 10) (oi := _) (v := ?_) rfl (by kernel_rfl) (by kernel_rfl) (by kernel_rfl) (fun _ _ _ h => h) (Or.inl ⟨by rfl, ?_⟩) (by assumption) ?_
      rotate_left
      · (intro w hSw; (try dsimp only at hSw); go_simp; try with_reducible rfl)
      try simp only [List.getElem_toArray, List.getElem_cons_zero, List.getElem_cons_succ, Act.put, List.setIfInBounds_toArray, List.set_cons_zero, List.set_cons_succ]
      refine wpAnyH_take (i := 11) (oi := _) (v := ?_) rfl (by kernel_rfl) (by kernel_rfl) (by kernel_rfl) (fun _ _ _ h => h) (Or.inl ⟨by rfl, ?_⟩) (by assumption) ?_
      rotate_left
      · (intro w hSw; (try dsimp only at hSw); go_simp; try with_reducible rfl)
      try simp only [List.getElem_toArray, List.getElem_cons_zero, List.getElem_cons_succ, Act.put, List.setIfInBounds_toArray, List.set_cons_zero, List.set_cons_succ]
      refine wpAnyH_take (i := 12) (oi := _) (v := ?_) rfl (by kernel_rfl) (by kernel_rfl) (by kernel_rfl) (fun _ _ _ h => h) (Or.inl ⟨by rfl, ?_⟩) (by assumption) ?_
      rotate_left
      · (intro w hSw; (try dsimp only at hSw); go_simp; try with_reducible rfl)
      try simp only [List.getElem_toArray, List.getElem_cons_zero, List.getElem_cons_succ, Act.put, List.setIfInBounds_toArray, List.set_cons_zero, List.set_cons_succ]
      refine wpAnyH_take (i := 13) (oi := _) (v := ?_) rfl (by kernel_rfl) (by kernel_rfl) (by kernel_rfl) (fun _ _ _ h => h) (Or.inl ⟨by rfl, ?_⟩) (by assumption) ?_
      rotate_left
      · (intro w hSw; (try dsimp only at hSw); go_simp; try with_reducible rfl)
      try simp only [List.getElem_toArray, List.getElem_cons_zero, List.getElem_cons_succ, Act.put, List.setIfInBounds_toArray, List.set_cons_zero, List.set_cons_succ]
      refine wpAnyH_take (i := 14) (oi := _) (v := ?_) rfl (by kernel_rfl) (by kernel_rfl) (by kernel_rfl) (fun _ _ _ h => h) (Or.inl ⟨by rfl, ?_⟩) (by assumption) ?_
      rotate_left
      · (intro w hSw; (try dsimp only at hSw); go_simp; try with_reducible rfl)
      try simp only [List.getElem_toArray, List.getElem_cons_zero, List.getElem_cons_succ, Act.put, List.setIfInBounds_toArray, List.set_cons_zero, List.set_cons_succ]
      refine wpAnyH_take (i := 15) (oi := _) (v := ?_) rfl (by kernel_rfl) (by kernel_rfl) (by kernel_rfl) (fun _ _ _ h => h) (Or.inl ⟨by rfl, ?_⟩) (by assumption) ?_
      rotate_left
      · (intro w hSw; (try dsimp only at hSw); go_simp; try with_reducible rfl)
      try simp only [List.getElem_toArray, List.getElem_cons_zero, List.getElem_cons_succ, Act.put, List.setIfInBounds_toArray, List.set_cons_zero, List.set_cons_succ]
      refine wpAnyH_take (i := 16) (oi := _) (v := ?_) rfl (by kernel_rfl) (by kernel_rfl) (by kernel_rfl) (fun _ _ _ h => h) (Or.inl ⟨by rfl, ?_⟩) (by assumption) ?_
      rotate_left
      · (intro w hSw; (try dsimp only at hSw); go_simp; try with_reducible rfl)
      try simp only [List.getElem_toArray, List.getElem_cons_zero, List.getElem_cons_succ, Act.put, List.setIfInBounds_toArray, List.set_cons_zero, List.set_cons_succ]
      refine wpAnyH_take (i := 17) (oi := _) (v := ?_) rfl (by kernel_rfl) (by kernel_rfl) (by kernel_rfl) (fun _ _ _ h => h) (Or.inl ⟨by rfl, ?_⟩) (by assumption) ?_
      rotate_left
      · (intro w hSw; (try dsimp only at hSw); go_simp; try with_reducible rfl)
      try simp only [List.getElem_toArray, List.getElem_cons_zero, List.getElem_cons_succ, Act.put, List.setIfInBounds_toArray, List.set_cons_zero, List.set_cons_succ]
      refine wpAnyH_take (i := 18) (oi := _) (v := ?_) rfl (by kernel_rfl) (by kernel_rfl) (by kernel_rfl) (fun _ _ _ h => h) (Or.inl ⟨by rfl, ?_⟩) (by assumption) ?_
      rotate_left
      · (intro w hSw; (try dsimp only at hSw); go_simp; try with_reducible rfl)
      try simp only [List.getElem_toArray, List.getElem_cons_zero, List.getElem_cons_succ, Act.put, List.setIfInBounds_toArray, List.set_cons_zero, List.set_cons_succ]
      refine wpAnyH_take (i := 19) (oi := _) (v := ?_) rfl (by kernel_rfl) (by kernel_rfl) (by kernel_rfl) (fun _ _ _ h => h) (Or.inl ⟨by rfl, ?_⟩) (by assumption) ?_
      rotate_left
      · (intro w hSw; (try dsimp only at hSw); go_simp; try with_reducible rfl)
      try simp only [List.getElem_toArray, List.getElem_cons_zero, List.getElem_cons_succ, Act.put, List.setIfInBounds_toArray, List.set_cons_zero, List.set_cons_succ]
      refine wpAnyH_take (i := 20) (oi := _) (v := ?_) rfl (by kernel_rfl) (by kernel_rfl) (by kernel_rfl) (fun _ _ _ h => h) (Or.inl ⟨by rfl, ?_⟩) (by assumption) ?_
      rotate_left
      · (intro w hSw; (try dsimp only at hSw); go_simp; try with_reducible rfl)
      try simp only [List.getElem_toArray, List.getElem_cons_zero, List.getElem_cons_succ, Act.put, List.setIfInBounds_toArray, List.set_cons_zero, List.set_cons_succ]
      refine wpAnyH_take (i := 21) (oi := _) (v := ?_) rfl (by kernel_rfl) (by kernel_rfl) (by kernel_rfl) (fun _ _ _ h => h) (Or.inl ⟨by rfl, ?_⟩) (by assumption) ?_
      rotate_left
      · (intro w hSw; (try dsimp only at hSw); go_simp; try with_reducible rfl)
      try simp only [List.getElem_toArray, List.getElem_cons_zero, List.getElem_cons_succ, Act.put, List.setIfInBounds_toArray, List.set_cons_zero, List.set_cons_succ]
      refine wpAnyH_take (i := 22) (oi := _) (v := ?_) rfl (by kernel_rfl) (by kernel_rfl) (by kernel_rfl) (fun _ _ _ h => h) (Or.inl ⟨by rfl, ?_⟩) (by assumption) ?_
      rotate_left
      · (intro w hSw; (try dsimp only at hSw); go_simp; try with_reducible rfl)
      try simp only [List.getElem_toArray, List.getElem_cons_zero, List.getElem_cons_succ, Act.put, List.setIfInBounds_toArray, List.set_cons_zero, List.set_cons_succ]
      refine wpAnyH_take (i := 23) (oi := _) (v := ?_) rfl (by kernel_rfl) (by kernel_rfl) (by kernel_rfl) (fun _ _ _ h => h) (Or.inl ⟨by rfl, ?_⟩) (by assumption) ?_
      rotate_left
      · (intro w hSw; (try dsimp only at hSw); go_simp; try with_reducible rfl)
      try simp only [List.getElem_toArray, List.getElem_cons_zero, List.getElem_cons_succ, Act.put, List.setIfInBounds_toArray, List.set_cons_zero, List.set_cons_succ]
      refine wpAnyH_take (i := 24) (oi := _) (v := ?_) rfl (by kernel_rfl) (by kernel_rfl) (by kernel_rfl) (fun _ _ _ h => h) (Or.inl ⟨by rfl, ?_⟩) (by assumption) ?_
      rotate_left
      · (intro w hSw; (try dsimp only at hSw); go_simp; try with_reducible rfl)
      try simp only [List.getElem_toArray, List.getElem_cons_zero, List.getElem_cons_succ, Act.put, List.setIfInBounds_toArray, List.set_cons_zero, List.set_cons_succ]
      refine wpAnyH_take (i := 25) (oi := _) (v := ?_) rfl (by kernel_rfl) (by kernel_rfl) (by kernel_rfl) (fun _ _ _ h => h) (Or.inl ⟨by rfl, ?_⟩) (by assumption) ?_
      rotate_left
      · (intro w hSw; (try dsimp only at hSw); go_simp; try with_reducible rfl)
      try simp only [List.getElem_toArray, List.getElem_cons_zero, List.getElem_cons_succ, Act.put, List.setIfInBounds_toArray, List.set_cons_zero, List.set_cons_succ]
      refine wpAnyH_take (i := 26) (oi := _) (v := ?_) rfl (by kernel_rfl) (by kernel_rfl) (by kernel_rfl) (fun _ _ _ h => h) (Or.inl ⟨by rfl, ?_⟩) (by assumption) ?_
      rotate_left
      · (intro w hSw; (try dsimp only at hSw); go_simp; try with_reducible rfl)
      try simp only [List.getElem_toArray, List.getElem_cons_zero, List.getElem_cons_succ, Act.put, List.setIfInBounds_toArray, List.set_cons_zero, List.set_cons_succ]
      refine wpAnyH_take (i := 27) (oi := _) (v := ?_) rfl (by kernel_rfl) (by kernel_rfl) (by kernel_rfl) (fun _ _ _ h => h) (Or.inl ⟨by rfl, ?_⟩) (by assumption) ?_
      rotate_left
      · (intro w hSw; (try dsimp only at hSw); go_simp; try with_reducible rfl)
      try simp only [List.getElem_toArray, List.getElem_cons_zero, List.getElem_cons_succ, Act.put, List.setIfInBounds_toArray, List.set_cons_zero, List.set_cons_succ]
      refine wpAnyH_take (i := 28) (oi := _) (v := ?_) rfl (by kernel_rfl) (by kernel_rfl) (by kernel_rfl) (fun _ _ _ h => h) (Or.inl ⟨by rfl, ?_⟩) (by assumption) ?_
      rotate_left
      · (intro w hSw; (try dsimp only at hSw); go_simp; try with_reducible rfl)
      try simp only [List.getElem_toArray, List.getElem_cons_zero, List.getElem_cons_succ, Act.put, List.setIfInBounds_toArray, List.set_cons_zero, List.set_cons_succ]
      refine wpAnyH_done (by kernel_rfl) ?_ _
      refine NoPanic.normal ?_
      have hb6' : Below w5.heap.size w5 w6 := ((Below.refl _ _).drew).trans hb6
      have hB6 : Below w.heap.size w w6 := hB5.trans (hb6'.mono hB5.size)
      have hown6' := ownsRow_low (ownsRow_below hown4' hb6' (Nat.le_refl _)) hB3.size
      have r6 : Bts w6 w.heap.size A' l'.length l' := Reads.below h' hB6
      have q7 := conv_bytes (P := Tryd.prog) 22 9 5 Tryd.underlying22 Tryd.underlying5 Tryd.underlying9 r6 c'
      generalize hgen : (openB l').1 = d at *
      generalize (openB l').2 = cd at *
      have hd2 : d.length ≤ 9223372036854775807 := Nat.le_trans (own_facts hown6').1 (own_facts hown6').2.1
      clear hHeld q6 Q6 Q5 r1d r2d r3d r4d r5d hown4' hown6 hb6 hb6' hB5 hB4 hB3 hB2 hgen
      go_wp2_with fail
      go_loopw [13] (fun i wr => ∃ (k : Nat) (ds : List UInt8), k ≤ d.length ∧ i = .int .i64 k ∧ ds.length = d.length ∧ wr.ownsRow w.heap.size 5 1 (.slice A4 d.length c4) d.length (byts ds) ∧ Below w.heap.size w wr) (fun i _ => d.length - (intOf i).toNat)
      case atStart => exact ⟨0, d, by omega, rfl, rfl, hown6', hB6⟩
      case round =>
        obtain ⟨k, ds, hk, rfl, hds, hown, hbr⟩ := hrel
        have HDS := Lib.hid hds
        clear hds hown6' q7 r6
        by_cases hlt : k < d.length
        · obtain ⟨g, cap, hv, hbg, hltg⟩ := hown.form (by omega)
          have hA4 : A4 = some ⟨g, 0, none⟩ := by injection hv
          subst hA4
          clear hv
          have hkd : k < ds.length := by have := HDS.out; omega
          have hcx : wr.cell? ⟨g, k, none⟩ = some (.int .u8 (ds[k].toNat : Int)) := by
            have := hown.cells (g := g) rfl k _ (byts_at ds k hkd)
            rwa [add_plain, Nat.zero_add] at this
          have hfz : wr.frozen? ⟨g, k, none⟩ = false := hown.frozenAt k
          obtain ⟨y, hy⟩ := xor255 ds[k]
          have hst := hown.stored k (.int .u8 (y.toNat : Int))
          rw [byts_set] at hst
          obtain ⟨x, hx⟩ : ∃ x : UInt8, ds[k] = x := ⟨_, rfl⟩
          rw [hx] at hcx hy
          have HST := Lib.hid hst
          clear hst hx hown
          go_wp2_with fail
          go_roundw
          case rel =>
            refine ⟨k + 1, ds.set k y, by omega, by go_num, by rw [List.length_set]; exact HDS.out, HST.out.1, hbr.setCell hbg _⟩
          case measure => simp [intOf]; omega
        · have r7 : Bts wr w.heap.size A' l'.length l' := Reads.below h' hbr
          have q8 := conv_bytes (P := Tryd.prog) 22 9 5 Tryd.underlying22 Tryd.underlying5 Tryd.underlying9 r7 c'
          clear hown
          go_wp2_with fail
          go_ret
          exact ⟨by simp, hbr⟩
end Go.Proofs.YtgelgkgmgjhmnaaDoor
