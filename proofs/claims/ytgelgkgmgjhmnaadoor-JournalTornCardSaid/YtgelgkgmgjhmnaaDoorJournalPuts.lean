/-
  hachurelaw40.JournalPuts returns true whatever the bytes.
-/
import Derived.Test.YtgelgkgmgjhmnaaDoorJournal
namespace Go.Proofs.YtgelgkgmgjhmnaaDoor
open Go.RowKit
set_option linter.unusedVariables false
set_option linter.unusedSimpArgs false

theorem jourAwake (w : World) (ht : Tab w) : Calls Tryd.prog 18 #[] w fun e w' => e = .returned (.bool true) ∧ Below w.heap.size w w' := by
  have h9 : ([] ++ recordB [] : List UInt8) = [1, 0, 0, 0, 0] := by decide +kernel
  have hp := JPut_any none 0 0 [] none 0 0 [] w ht Reads.empty (fun _ => ⟨rfl, rfl⟩) Reads.empty (by omega) (by omega)
  rw [h9] at hp
  have HP := Lib.hid hp
  clear hp h9
  go_enter Tryd.func18, Tryd.ntmps18
  go_wp2_with fail
  refine HP.out.mono ?_
  rintro e w1 ⟨A1, c1, rfl, hown1, hb1⟩
  have q1 : Sem.run Tryd.prog (convert 22 9 (Value.slice A1 5 c1)) w1 = Result.ok (Value.string ⟨#[1, 0, 0, 0, 0]⟩) w1 := conv_bytes (P := Tryd.prog) 22 9 5 Tryd.underlying22 Tryd.underlying5 Tryd.underlying9 (Reads.of_own hown1) c1
  clear hown1
  go_wp2_with fail
  go_ret
  exact ⟨rfl, hb1⟩

set_option maxHeartbeats 4000000 in
set_option maxRecDepth 100000 in
theorem JournalPuts_walk (A1 : Option Addr) (n1 c1 : Nat) (l1 : List UInt8) (B1 : Option Addr) (n2 d1 : Nat) (l2 : List UInt8) (C1 : Option Addr) (n3 e1 : Nat) (l3 : List UInt8) (w : World) (ht : Tab w)
    (h : Bts w w.heap.size A1 n1 l1) (hA : A1 = none → n1 = 0 ∧ c1 = 0) (hnc : n1 ≤ c1) (hc : c1 ≤ maxLen) (h' : Bts w w.heap.size B1 n2 l2) (hA' : B1 = none → n2 = 0 ∧ d1 = 0) (hnc' : n2 ≤ d1) (hc' : d1 ≤ maxLen) (h'' : Bts w w.heap.size C1 n3 l3) (hA'' : C1 = none → n3 = 0 ∧ e1 = 0) (hnc'' : n3 ≤ e1) (hc'' : e1 ≤ maxLen) :
    Calls Tryd.prog 6 #[.slice A1 n1 c1, .slice B1 n2 d1, .slice C1 n3 e1] w fun e w' => e = .returned (.bool true) ∧ Below w.heap.size w w' := by
  obtain ⟨i0, hi0, hz0, hz1, hz2⟩ := info_parts info_u8
  unfold maxLen at hc hc' hc''
  have hlen := h.len
  have hlen' := h'.len
  have hlen'' := h''.len
  subst hlen hlen' hlen''
  go_enter Tryd.func6, Tryd.ntmps6
  go_wp2_with fail
  refine (jourAwake _ ht).mono ?_
  rintro e w1 ⟨rfl, hb1⟩
  by_cases hbig : 500 < l1.length ∨ 500 < l2.length ∨ 500 < l3.length
  · rcases (show (500 < l1.length) ∨ (l1.length ≤ 500 ∧ 500 < l2.length) ∨ (l1.length ≤ 500 ∧ l2.length ≤ 500 ∧ 500 < l3.length) from by omega) with hh | ⟨hh, hh2⟩ | ⟨hh, hh2, hh3⟩
    all_goals
      clear hbig
      go_wp2_with fail
      go_ret
      exact ⟨rfl, hb1⟩
  · have b1 : l1.length ≤ 500 := by omega
    have b2 : l2.length ≤ 500 := by omega
    have b3 : l3.length ≤ 500 := by omega
    clear hbig
    go_wp2_with fail
    refine (JPut_any A1 _ c1 l1 B1 _ d1 l2 _ (ht.below hb1 ht.1) ((Reads.below h hb1).wide hb1.size) hA ((Reads.below h' hb1).wide hb1.size) (by omega) (by omega)).mono ?_
    rintro e w2 ⟨A2, c2, rfl, hown2, hb2⟩
    simp only [List.length_append] at hown2 ⊢
    have hB2 : Below w.heap.size w w2 := hb1.trans (hb2.mono hb1.size)
    have hrl := recordB_len l2
    have hl10 := lebB_len (l2.length + 1)
    have hrl2 : (recordB l2).length ≤ 600 := by omega
    have r1d : Bts w2.drew w2.drew.heap.size A1 l1.length l1 := (Reads.below h hB2).wide hB2.size
    have r2d : Bts w2.drew w2.drew.heap.size B1 l2.length l2 := (Reads.below h' hB2).wide hB2.size
    have r3d : Bts w2.drew w2.drew.heap.size A2 (l1.length + (recordB l2).length) (l1 ++ recordB l2) := Reads.of_own hown2
    have Q2 := Lib.hid (And.intro (conv_bytes (P := Tryd.prog) 22 9 5 Tryd.underlying22 Tryd.underlying5 Tryd.underlying9 r3d c2) (conv_bytes (P := Tryd.prog) 22 9 5 Tryd.underlying22 Tryd.underlying5 Tryd.underlying9 r1d c1))
    have hcat := cat_list l1 (recordB l2)
    have hsz : ¬ (9223372036854775807 < l1.length + (recordB l2).length) := by omega
    have HRL := Lib.hid hrl
    have HG := Lib.hid (jGet_put l1 l2 l3 (by omega))
    clear hrl hown2 hb2 hl10
    go_wp2_with fail
    refine wp_region_noPanic ?_
    refine wp_region_held_drew (S := fun W => Sem.run Tryd.prog (convert 22 9 (Value.slice A2 (l1.length + (recordB l2).length) c2)) W = Result.ok (Value.string ⟨(l1 ++ recordB l2).toArray⟩) W ∧ Sem.run Tryd.prog (convert 22 9 (Value.slice A1 l1.length c1)) W = Result.ok (Value.string ⟨(l1).toArray⟩) W) (by kernel_rfl) ?_ (fun hHeld => ?_)
    · exact Q2.out
    refine wpAnyH_take (i := 0) (oi := _) (v := ?_) rfl (by kernel_rfl) (by kernel_rfl) (by kernel_rfl) (fun _ _ _ h => h) (Or.inl ⟨by rfl, ?_⟩) (by assumption) ?_
    rotate_left
    · (intro w hSw; (try dsimp only at hSw); go_simp; try with_reducible rfl)
    try simp only [List.getElem_toArray, List.getElem_cons_zero, List.getElem_cons_succ, Act.put, List.setIfInBounds_toArray, List.set_cons_zero, List.set_cons_succ]
    refine wpAnyH_take (i := 1) (oi := _) (v := ?_) rfl (by kernel_rfl) (by kernel_rfl) (by kernel_rfl) (fun _ _ _ h => h) (Or.inl ⟨by rfl, ?_⟩) (by assumption) ?_
    rotate_left
    · (intro w hSw; (try dsimp only at hSw); go_simp; try with_reducible rfl)
    try simp only [List.getElem_toArray, List.getElem_cons_zero, List.getElem_cons_succ, Act.put, List.setIfInBounds_toArray, List.set_cons_zero, List.set_cons_succ]
    refine wpAnyH_take (i := 2) (oi := _) (v := ?_) rfl (by kernel_rfl) (by kernel_rfl) (by kernel_rfl) (fun _ _ _ h => h) (Or.inl ⟨by rfl, ?_⟩) (by assumption) ?_
    rotate_left
    · (intro w hSw; (try dsimp only at hSw); go_simp; try with_reducible rfl)
    try simp only [List.getElem_toArray, List.getElem_cons_zero, List.getElem_cons_succ, Act.put, List.setIfInBounds_toArray, List.set_cons_zero, List.set_cons_succ]
    refine wpAnyH_take (i := 3) (oi := _) (v := ?_) rfl (by kernel_rfl) (by kernel_rfl) (by kernel_rfl) (fun _ _ _ h => h) (Or.inl ⟨by rfl, ?_⟩) (by assumption) ?_
    rotate_left
    · (intro w hSw; (try dsimp only at hSw); go_simp; try with_reducible rfl)
    try simp only [List.getElem_toArray, List.getElem_cons_zero, List.getElem_cons_succ, Act.put, List.setIfInBounds_toArray, List.set_cons_zero, List.set_cons_succ]
    refine wpAnyH_take (i := 4) (oi := _) (v := ?_) rfl (by kernel_rfl) (by kernel_rfl) (by kernel_rfl) (fun _ _ _ h => h) (Or.inl ⟨by rfl, ?_⟩) (by assumption) ?_
    rotate_left
    · (intro w hSw; (try dsimp only at hSw); go_simp; try with_reducible rfl)
    try simp only [List.getElem_toArray, List.getElem_cons_zero, List.getElem_cons_succ, Act.put, List.setIfInBounds_toArray, List.set_cons_zero, List.set_cons_succ]
    refine wpAnyH_take (i := 5) (oi := _) (v := ?_) rfl (by kernel_rfl) (by kernel_rfl) (by kernel_rfl) (fun _ _ _ h => h) (Or.inl ⟨by rfl, ?_⟩) (by assumption) ?_
    rotate_left
    · (intro w hSw; (try dsimp only at hSw); go_simp; try with_reducible rfl)
    try simp only [List.getElem_toArray, List.getElem_cons_zero, List.getElem_cons_succ, Act.put, List.setIfInBounds_toArray, List.set_cons_zero, List.set_cons_succ]
    refine wpAnyH_take (i := 6) (oi := _) (v := ?_) rfl (by kernel_rfl) (by kernel_rfl) (by kernel_rfl) (fun _ _ _ h => h) (Or.inl ⟨by rfl, ?_⟩) (by assumption) ?_
    rotate_left
    · (intro w hSw; (try dsimp only at hSw); go_simp; try with_reducible rfl)
    try simp only [List.getElem_toArray, List.getElem_cons_zero, List.getElem_cons_succ, Act.put, List.setIfInBounds_toArray, List.set_cons_zero, List.set_cons_succ]
    refine wpAnyH_take (i := 7) (oi := _) (v := ?_) rfl (by kernel_rfl) (by kernel_rfl) (by kernel_rfl) (fun _ _ _ h => h) (Or.inl ⟨by rfl, ?_⟩) (by assumption) ?_
    rotate_left
    · (intro w hSw; (try dsimp only at hSw); go_simp; try with_reducible rfl)
    try simp only [List.getElem_toArray, List.getElem_cons_zero, List.getElem_cons_succ, Act.put, List.setIfInBounds_toArray, List.set_cons_zero, List.set_cons_succ]
    refine wpAnyH_ready (rs := [8]) (by kernel_rfl) (by simp) ?_
    refine AllReadyH.cons (o := _) rfl (fun K hK => ?_) AllReadyH.nil
    go_simp
    refine (Record_any B1 _ d1 l2 _ r2d (by omega)).mono ?_
    rintro e6 w6 ⟨A6, c6, rfl, hown6, hb6⟩
    have q6 := conv_bytes (P := Tryd.prog) 22 9 5 Tryd.underlying22 Tryd.underlying5 Tryd.underlying9 (Reads.of_own hown6) c6
    have Q6 := Lib.hid (And.intro (conv_bytes (P := Tryd.prog) 22 9 5 Tryd.underlying22 Tryd.underlying5 Tryd.underlying9 (Reads.below r3d hb6) c2) (conv_bytes (P := Tryd.prog) 22 9 5 Tryd.underlying22 Tryd.underlying5 Tryd.underlying9 (Reads.below r1d hb6) c1))
    go_wp2_with fail
    refine hK.out _ _ ?_ (fun hHeld => ?_)
    · exact Q6.out
    clear hK K
    try simp only [List.getElem_toArray, List.getElem_cons_zero, List.getElem_cons_succ, Act.put, List.setIfInBounds_toArray, List.set_cons_zero, List.set_cons_succ]
    refine wpAnyH_ready (rs := [9]) (by kernel_rfl) (by simp) ?_
    refine AllReadyH.cons (o := _) rfl (fun K hK => ?_) AllReadyH.nil
    go_simp
    refine hK.out _ _ ?_ (fun hHeld => ?_)
    · exact Q6.out
    clear hK K
    try simp only [List.getElem_toArray, List.getElem_cons_zero, List.getElem_cons_succ, Act.put, List.setIfInBounds_toArray, List.set_cons_zero, List.set_cons_succ]
    refine wpAnyH_take (i := 10) (oi := _) (v := ?_) rfl (by kernel_rfl) (by kernel_rfl) (by kernel_rfl) (fun _ _ _ h => h) (Or.inl ⟨by rfl, ?_⟩) (by assumption) ?_
    rotate_left
    · (intro w hSw; (try dsimp only at hSw); go_simp; try with_reducible rfl)
    try simp only [List.getElem_toArray, List.getElem_cons_zero, List.getElem_cons_succ, Act.put, List.setIfInBounds_toArray, List.set_cons_zero, List.set_cons_succ]
    refine wpAnyH_take (i := 11) (oi := _) (v := ?_) rfl (by kernel_rfl) (by kernel_rfl) (by kernel_rfl) (fun _ _ _ h => h) (Or.inl ⟨by rfl, ?_⟩) (by assumption) ?_
    rotate_left
    · (intro w hSw; (try dsimp only at hSw); go_simp; try with_reducible rfl)
    try simp only [List.getElem_toArray, List.getElem_cons_zero, List.getElem_cons_succ, Act.put, List.setIfInBounds_toArray, List.set_cons_zero, List.set_cons_succ]
    refine wpAnyH_take (i := 12) (oi := _) (v := ?_) rfl (by kernel_rfl) (by kernel_rfl) (by kernel_rfl) (fun _ _ _ h => h) (Or.inl ⟨by rfl, ?_⟩) (by assumption) ?_
    rotate_left
    · (intro w hSw; (try dsimp only at hSw); go_simp; try with_reducible rfl)
    try simp only [List.getElem_toArray, List.getElem_cons_zero, List.getElem_cons_succ, Act.put, List.setIfInBounds_toArray, List.set_cons_zero, List.set_cons_succ]
    refine wpAnyH_done (by kernel_rfl) ?_ _
    refine NoPanic.normal ?_
    have hb6' : Below w2.heap.size w2 w6 := ((Below.refl _ _).drew).trans hb6
    have hB6 : Below w.heap.size w w6 := hB2.trans (hb6'.mono hB2.size)
    have s3 : Bts w6 w6.heap.size A2 (l1.length + (recordB l2).length) (l1 ++ recordB l2) := (Reads.below r3d hb6).wide hb6.size
    have s5 : Bts w6 w6.heap.size C1 l3.length l3 := (Reads.below h'' hB6).wide hB6.size
    have hown0 : (w6.alloc (.cells #[] 5)).ownsRow w6.heap.size 5 1 (.slice (some ⟨w6.heap.size, 0, none⟩) 0 0) 0 [] := World.ownsRow_made w6 #[] 0 (Nat.le_refl _) (by simp) (by simp)
    have t3 : Reads (w6.alloc (.cells #[] 5)) w6.heap.size 1 A2 (l1.length + (recordB l2).length) (byts (l1 ++ recordB l2)) := Reads.alloc s3 (Nat.le_refl _) _
    have t5 : Reads (w6.alloc (.cells #[] 5)) w6.heap.size 1 C1 l3.length (byts l3) := Reads.alloc s5 (Nat.le_refl _) _
    clear hHeld q6 Q6 Q2 r1d r2d r3d hown6 hb6 hb6' hcat hsz
    go_wp2_with (first | (at_builtin; refine wpList_append_appl _ rfl (.tmp 47) (.tmp 48) _ rfl w6.heap.size 5 i0 _ 1 1 Tryd.underlying22 hi0 hz0 hz1 hz2 rfl (by omega) (.slice (some ⟨w6.heap.size, 0, none⟩) 0 0) 0 [] rfl (.inl hown0) w6.heap.size A2 (l1.length + (recordB l2).length) c2 (byts (l1 ++ recordB l2)) rfl t3 (byts_one _) (.inr hown0) (by simp only [maxLen]; omega) (by omega) (by simp) ?_; intro v7 w7 hown7 hB7 hg7 hat7; simp only [Nat.zero_add, List.nil_append] at hown7; obtain ⟨A7, c7, rfl, _⟩ := own_shape hown7; have t6 := t5.later hB7 (Nat.le_refl _)) | (at_builtin; refine wpList_append_appl _ rfl (.tmp 49) (.tmp 50) _ rfl w6.heap.size 5 i0 _ 1 1 Tryd.underlying22 hi0 hz0 hz1 hz2 rfl (by omega) (.slice A7 (l1.length + (recordB l2).length) c7) _ _ rfl (.inl hown7) w6.heap.size C1 l3.length e1 (byts l3) rfl t6 (byts_one _) (.inr hown7) (by simp only [maxLen]; omega) (by omega) (by have := hB7.size; simp at this; omega) ?_; intro v8 w8 hown8 hB8 hg8 hat8; obtain ⟨A8, c8, rfl, f8⟩ := own_shape hown8))
    rw [← byts_append] at hown8
    have hB8' : Below w.heap.size w w8 := (hB6.alloc hB6.size _).trans ((hB7.mono hB6.size).trans (hB8.mono hB6.size))
    have G := JGet_any A8 _ c8 _ (l1.length : Int) w8 (ht.below hB8' ht.1) (Reads.of_own hown8) f8.2.2 f8.1 f8.2.1 (by omega)
    rw [HG.out] at G
    refine G.mono ?_
    rintro e w9 ⟨A9, c9, rfl, hown9, hb9⟩
    have hB9 : Below w.heap.size w w9 := hB8'.trans (hb9.mono hB8'.size)
    have q9 := conv_bytes (P := Tryd.prog) 22 9 5 Tryd.underlying22 Tryd.underlying5 Tryd.underlying9 (Reads.of_own hown9) c9
    have r9 : Bts w9 w9.heap.size B1 l2.length l2 := (Reads.below h' hB9).wide hB9.size
    have q10 := conv_bytes (P := Tryd.prog) 22 9 5 Tryd.underlying22 Tryd.underlying5 Tryd.underlying9 r9 d1
    clear G HG hown9 hown8 hown7 hB8 hB7 hg7 hg8 hat7 hat8 t3 t5 t6 s3 s5 hown0 r9 hb9
    go_wp2_with fail
    go_ret
    exact ⟨rfl, hB9⟩
end Go.Proofs.YtgelgkgmgjhmnaaDoor
