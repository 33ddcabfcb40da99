/-
  journal.All and the document's own compute jAll; the document's Same tells lists of bytes apart.
-/
import Derived.Test.YtgelgkgmgjhmnaaDoorJournal
namespace Go.Proofs.YtgelgkgmgjhmnaaDoor
open Go.RowKit
set_option linter.unusedVariables false
set_option linter.unusedSimpArgs false

theorem info_bs : (Tryd.prog.info? 22).map (fun i => (i.zero, i.size, i.bytes)) = some (some (.slice none 0 0), 1, 24) := by kernel_rfl

theorem own_apart {w : World} {b b' : Nat} {e e' : TypeId} {s s' n n' : Nat} {v v' : Value} {xs xs' : List Value} (h : w.ownsRow b e s v n xs) (h' : w.ownsRow b' e' s' v' n' xs') (hne : e ≠ e') : v.ownBlock = none ∨ v.ownBlock ≠ v'.ownBlock := by
  rcases h.2 with ⟨rfl, _⟩ | ⟨g, cap, cur, rfl, _, hh, _⟩
  · exact .inl rfl
  · rcases h'.2 with ⟨rfl, _⟩ | ⟨g', cap', cur', rfl, _, hh', _⟩
    · exact .inr (by simp [Value.ownBlock])
    · refine .inr fun he => ?_
      have : g = g' := by simpa [Value.ownBlock] using he
      subst this
      rw [hh] at hh'
      injection hh' with hh'
      injection hh' with _ ht
      exact hne ht

/-- slices of bytes of the call's own -/
def OwnParts (w : World) (base : Nat) (hs : List Hd) (ls : List (List UInt8)) : Prop :=
  hs.length = ls.length ∧ ∀ (k : Nat) (h1 : k < hs.length) (h2 : k < ls.length), w.ownsRow base 5 1 hs[k].val hs[k].n (byts ls[k])
theorem OwnParts.parts {w : World} {base : Nat} {hs : List Hd} {ls : List (List UInt8)} (h : OwnParts w base hs ls) : Parts w w.heap.size hs ls :=
  ⟨h.1, fun k h1 h2 => Reads.of_own (h.2 k h1 h2)⟩
theorem OwnParts.below {w w' : World} {base B : Nat} {hs : List Hd} {ls : List (List UInt8)} (h : OwnParts w base hs ls) (hb : Below B w w') (hB : w.heap.size ≤ B) : OwnParts w' base hs ls :=
  ⟨h.1, fun k h1 h2 => ownsRow_below (h.2 k h1 h2) hb hB⟩
theorem OwnParts.kept {w w' : World} {base b : Nat} {hs : List Hd} {ls : List (List UInt8)} {n : Nat} {v : Value} {xs : List Value} (h : OwnParts w base hs ls) (ho : w.ownsRow b 22 1 v n xs) (hg : w.grownBy w' v.ownBlock) : OwnParts w' base hs ls :=
  ⟨h.1, fun k h1 h2 => (h.2 k h1 h2).kept hg (own_apart (h.2 k h1 h2) ho (by decide))⟩
theorem OwnParts.snoc {w : World} {base : Nat} {hs : List Hd} {ls : List (List UInt8)} {h : Hd} {l : List UInt8} (hp : OwnParts w base hs ls) (ho : w.ownsRow base 5 1 h.val h.n (byts l)) : OwnParts w base (hs ++ [h]) (ls ++ [l]) := by
  refine ⟨by simp [hp.1], fun k h1 h2 => ?_⟩
  by_cases hk : k < hs.length
  · have hk2 : k < ls.length := by rw [← hp.1]; exact hk
    simp only [List.getElem_append_left hk, List.getElem_append_left hk2]
    exact hp.2 k hk hk2
  · have e1 : k = hs.length := by simp at h1; omega
    subst e1
    have e2 : hs.length = ls.length := hp.1
    simp only [List.getElem_append_right (Nat.le_refl _), Nat.sub_self, List.getElem_cons_zero]
    have : (ls ++ [l])[hs.length] = l := by simp [e2]
    rw [this]
    exact ho
theorem Parts.snoc {w : World} {B : Nat} {hs : List Hd} {ls : List (List UInt8)} {h : Hd} {l : List UInt8} (hp : Parts w B hs ls) (ho : Bts w B h.ad h.n l) : Parts w B (hs ++ [h]) (ls ++ [l]) := by
  refine ⟨by simp [hp.1], fun k h1 h2 => ?_⟩
  by_cases hk : k < hs.length
  · have hk2 : k < ls.length := by rw [← hp.1]; exact hk
    simp only [List.getElem_append_left hk, List.getElem_append_left hk2]
    exact hp.2 k hk hk2
  · have e1 : k = hs.length := by simp at h1; omega
    subst e1
    have e2 : hs.length = ls.length := hp.1
    simp only [List.getElem_append_right (Nat.le_refl _), Nat.sub_self, List.getElem_cons_zero]
    have : (ls ++ [l])[hs.length] = l := by simp [e2]
    rw [this]
    exact ho
theorem Parts.wide {w : World} {B B' : Nat} {hs : List Hd} {ls : List (List UInt8)} (h : Parts w B hs ls) (hB : B ≤ B') : Parts w B' hs ls := ⟨h.1, fun k h1 h2 => Reads.wide (h.2 k h1 h2) hB⟩

/-- it returns new slices of bytes, and a place -/
def GivesLs (w : World) (r : List (List UInt8) × Nat) (e : Ending) (w' : World) : Prop :=
  ∃ A c hs, e = .returned (.tuple #[.slice A hs.length c, .int .i64 (r.2 : Int)]) ∧ w'.ownsRow w.heap.size 22 1 (.slice A hs.length c) hs.length (hs.map Hd.val) ∧ OwnParts w' w.heap.size hs r.1 ∧ Below w.heap.size w w'
/-- .. or such that show them -/
def ShowsLs (w : World) (r : List (List UInt8) × Nat) (e : Ending) (w' : World) : Prop :=
  ∃ A c hs, e = .returned (.tuple #[.slice A hs.length c, .int .i64 (r.2 : Int)]) ∧ w'.ownsRow w.heap.size 22 1 (.slice A hs.length c) hs.length (hs.map Hd.val) ∧ Parts w' w'.heap.size hs r.1 ∧ Below w.heap.size w w'

set_option maxHeartbeats 1000000 in
theorem JAll_any (A : Option Addr) (n c : Nat) (l : List UInt8) (w : World) (ht : Tab w) (h : Bts w w.heap.size A n l) (hA : A = none → n = 0 ∧ c = 0) (hnc : n ≤ c) (hc : c ≤ 9223372036854775807) (hn : n ≤ 1000000) :
    Calls Tryd.prog 23 #[.slice A n c] w (GivesLs w (jAll l)) := by
  obtain ⟨i0, hi0, hz0, hz1, hz2⟩ := info_parts info_bs
  have hlen := h.len
  subst hlen
  go_enter Tryd.func23, Tryd.ntmps23
  go_wp2_with fail
  go_loopw [4, 5, 6, 7, 8] (fun v t _ _ _ wr => ∃ (k a : Nat) (acc : List (List UInt8)) (hs : List Hd) (A2 : Option Addr) (c2 : Nat), v = .slice A2 hs.length c2 ∧ t = .int .i64 a ∧ k ≤ a ∧ a ≤ l.length ∧ hs.length = k ∧ Hid (jAll l = (acc ++ (jAllF (l.length + 1 - k) l a).1, (jAllF (l.length + 1 - k) l a).2)) ∧ wr.ownsRow w.heap.size 22 1 (.slice A2 hs.length c2) hs.length (hs.map Hd.val) ∧ OwnParts wr w.heap.size hs acc ∧ Below w.heap.size w wr) (fun _ t _ _ _ _ => l.length + 1 - (intOf t).toNat)
  case atStart => exact ⟨0, 0, [], [], none, 0, rfl, rfl, by omega, by omega, rfl, by simp [Hid, jAll], World.ownsRow_nil _ _ _ _, ⟨rfl, fun k h1 => by simp at h1⟩, Below.refl _ _⟩
  case round =>
    obtain ⟨k, a, acc, hs, A2, c2, rfl, rfl, hka, hal, rfl, HJ, hown, hpt, hbr⟩ := hrel
    have G := JGet_any A _ c l (a : Int) wr (ht.below hbr ht.1) ((Reads.below h hbr).wide hbr.size) hA hnc hc (by omega)
    obtain ⟨⟨r, b, cd⟩, hv⟩ : ∃ r, jGet l (a : Int) = r := ⟨_, rfl⟩
    rw [hv] at G
    have HG := Lib.hid G
    clear G
    by_cases hcd : cd = 0
    · subst hcd
      obtain ⟨f1, f2, f3⟩ := jGet_fwd hv
      have HJ2 : Hid (jAll l = (acc ++ [r] ++ (jAllF (l.length + 1 - (hs.length + 1)) l b).1, (jAllF (l.length + 1 - (hs.length + 1)) l b).2)) := by
        show _ = _
        have e : l.length + 1 - hs.length = (l.length + 1 - (hs.length + 1)) + 1 := by omega
        rw [HJ.out, e, jAllF_more hv]
        simp
      clear HJ hv
      go_wp2_with fail
      refine HG.out.mono ?_
      rintro e w2 ⟨A3, c3, rfl, hown3, hb3⟩
      have hown2 := ownsRow_below hown hb3 (Nat.le_refl _)
      have hpt2 := hpt.below hb3 (Nat.le_refl _)
      have hB2 : Below w.heap.size w w2 := hbr.trans (hb3.mono hbr.size)
      have hown3' := ownsRow_low hown3 hbr.size
      clear hown hpt HG hown3 hb3
      go_wp2_with (at_builtin; refine wpList_append_appl _ rfl (.tmp 20) (.tmp 22) _ rfl w.heap.size 22 i0 _ 1 24 Tryd.underlying39 hi0 hz0 hz1 hz2 rfl (by omega) (.slice A2 hs.length c2) _ _ rfl (.inl (hown2.alloc _)) (w2.heap.size + 1) (some ⟨w2.heap.size, 0, none⟩) 1 1 [.slice A3 r.length c3] rfl (reads_new1 _ _ _) (by simp [Value.oneCell']) (.inl (by omega)) (by simp only [maxLen]; omega) (by omega) (by have := hB2.size; simp; omega) ?_; intro v4 w4 hown4 hB4 hg4 hat4; obtain ⟨A4, c4, rfl, _⟩ := own_shape hown4)
      have hpt4 : OwnParts w4 w.heap.size (hs ++ [⟨A3, r.length, c3⟩]) (acc ++ [r]) := by
        have p1 : OwnParts (w2.alloc (.cells #[.slice A3 r.length c3] 22)) w.heap.size hs acc := hpt2.below ((Below.refl _ _).alloc (Nat.le_refl _) _) (Nat.le_refl _)
        have p2 : (w2.alloc (.cells #[.slice A3 r.length c3] 22)).ownsRow w.heap.size 5 1 (Hd.val ⟨A3, r.length, c3⟩) r.length (byts r) := hown3'.alloc _
        exact (OwnParts.snoc p1 p2).kept (hown2.alloc _) hg4
      have hB4' : Below w.heap.size w w4 := (hB2.alloc hB2.size _).trans hB4
      go_roundw
      case rel =>
        refine ⟨hs.length + 1, b, acc ++ [r], hs ++ [⟨A3, r.length, c3⟩], A4, c4, by simp, rfl, by omega, f2, by simp, HJ2, ?_, hpt4, hB4'⟩
        simpa [Hd.val] using hown4
      case measure => simp [intOf]; omega
    · have hcb : ((cd : Int) != 0) = true := by rw [bne_iff_ne]; omega
      have HJ2 : Hid (jAll l = (acc, a)) := by
        show _ = _
        rw [HJ.out, jAllF_end (by rw [hv]; exact hcd)]
        simp
      clear HJ hv hcd
      go_wp2_with fail
      refine HG.out.mono ?_
      rintro e w2 ⟨A3, c3, rfl, hown3, hb3⟩
      have hown2 := Lib.hid (ownsRow_below hown hb3 (Nat.le_refl _))
      have hpt2 := hpt.below hb3 (Nat.le_refl _)
      have hB2 : Below w.heap.size w w2 := hbr.trans (hb3.mono hbr.size)
      clear hown hpt HG hown3 hb3
      go_wp2_with fail
      go_ret2
      rw [HJ2.out]
      exact ⟨A2, c2, hs, rfl, hown2.out, hpt2, hB2⟩
set_option maxHeartbeats 1000000 in
theorem rJAll_any (A : Option Addr) (n c : Nat) (l : List UInt8) (w : World) (h : Bts w w.heap.size A n l) (hA : A = none → n = 0 ∧ c = 0) (hnc : n ≤ c) (hc : c ≤ 9223372036854775807) (hn : n ≤ 1000000) :
    Calls Tryd.prog 24 #[.slice A n c] w (ShowsLs w (jAll l)) := by
  obtain ⟨i0, hi0, hz0, hz1, hz2⟩ := info_parts info_bs
  have hlen := h.len
  subst hlen
  go_enter Tryd.func24, Tryd.ntmps24
  have hown0 : (w.alloc (.cells #[] 22)).ownsRow w.heap.size 22 1 (.slice (some ⟨w.heap.size, 0, none⟩) 0 0) 0 [] := World.ownsRow_made w #[] 0 (Nat.le_refl _) (by simp) (by simp)
  go_wp2_with fail
  go_loopw [4, 5, 6, 7, 8, 9] (fun v t ct _ _ _ wr => ∃ (k a : Nat) (acc : List (List UInt8)) (hs : List Hd) (A2 : Option Addr) (c2 : Nat), v = .slice A2 hs.length c2 ∧ t = .int .i64 a ∧ ct = .int .i64 k ∧ k ≤ a ∧ a ≤ l.length ∧ hs.length = k ∧ Hid (jAll l = (acc ++ (jAllF (l.length + 1 - k) l a).1, (jAllF (l.length + 1 - k) l a).2)) ∧ wr.ownsRow w.heap.size 22 1 (.slice A2 hs.length c2) hs.length (hs.map Hd.val) ∧ Parts wr w.heap.size hs acc ∧ Below w.heap.size w wr) (fun _ t _ _ _ _ _ => l.length + 1 - (intOf t).toNat)
  case atStart => exact ⟨0, 0, [], [], _, 0, rfl, rfl, rfl, by omega, by omega, rfl, by simp [Hid, jAll], hown0, ⟨rfl, fun k h1 => by simp at h1⟩, (Below.refl _ _).alloc (Nat.le_refl _) _⟩
  case round =>
    obtain ⟨k, a, acc, hs, A2, c2, rfl, rfl, rfl, hka, hal, rfl, HJ, hown, hpt, hbr⟩ := hrel
    clear hown0
    have G := rJGet_any w.heap.size A _ c l (a : Int) wr hbr.size (Reads.below h hbr) hA hnc hc (by omega)
    obtain ⟨⟨r, b, cd⟩, hv⟩ : ∃ r, jGet l (a : Int) = r := ⟨_, rfl⟩
    rw [hv] at G
    have HG := Lib.hid G
    clear G
    by_cases hcd : cd = 0
    · subst hcd
      obtain ⟨f1, f2, f3⟩ := jGet_fwd hv
      have HJ2 : Hid (jAll l = (acc ++ [r] ++ (jAllF (l.length + 1 - (hs.length + 1)) l b).1, (jAllF (l.length + 1 - (hs.length + 1)) l b).2)) := by
        show _ = _
        have e : l.length + 1 - hs.length = (l.length + 1 - (hs.length + 1)) + 1 := by omega
        rw [HJ.out, e, jAllF_more hv]
        simp
      clear HJ hv
      go_wp2_with fail
      refine HG.out.mono ?_
      rintro e w2 ⟨A3, c3, rfl, hown3, hb3⟩
      have hown2 := ownsRow_below hown hb3 (Nat.le_refl _)
      have hpt2 := hpt.below hb3 hbr.size
      have hB2 : Below w.heap.size w w2 := hbr.trans (hb3.mono hbr.size)
      clear hown hpt HG hb3
      go_wp2_with (at_builtin; refine wpList_append_appl _ rfl (.tmp 28) (.tmp 30) _ rfl w.heap.size 22 i0 _ 1 24 Tryd.underlying39 hi0 hz0 hz1 hz2 rfl (by omega) (.slice A2 hs.length c2) _ _ rfl (.inl (hown2.alloc _)) (w2.heap.size + 1) (some ⟨w2.heap.size, 0, none⟩) 1 1 [.slice A3 r.length c3] rfl (reads_new1 _ _ _) (by simp [Value.oneCell']) (.inl (by omega)) (by simp only [maxLen]; omega) (by omega) (by have := hB2.size; simp; omega) ?_; intro v4 w4 hown4 hB4 hg4 hat4; obtain ⟨A4, c4, rfl, _⟩ := own_shape hown4)
      have hpt4 : Parts w4 w.heap.size (hs ++ [⟨A3, r.length, c3⟩]) (acc ++ [r]) := by
        have hbb : Below w.heap.size w2 w4 := ((Below.refl _ _).alloc hB2.size _).trans hB4
        exact (Parts.snoc hpt2 hown3).below hbb (Nat.le_refl _)
      have hB4' : Below w.heap.size w w4 := (hB2.alloc hB2.size _).trans hB4
      go_roundw
      case rel =>
        refine ⟨hs.length + 1, b, acc ++ [r], hs ++ [⟨A3, r.length, c3⟩], A4, c4, by simp, rfl, by go_num, by omega, f2, by simp, HJ2, ?_, hpt4, hB4'⟩
        simpa [Hd.val] using hown4
      case measure => simp [intOf]; omega
    · have hcb : ((cd : Int) != 0) = true := by rw [bne_iff_ne]; omega
      have HJ2 : Hid (jAll l = (acc, a)) := by
        show _ = _
        rw [HJ.out, jAllF_end (by rw [hv]; exact hcd)]
        simp
      clear HJ hv hcd
      go_wp2_with fail
      refine HG.out.mono ?_
      rintro e w2 ⟨A3, c3, rfl, hown3, hb3⟩
      have hown2 := Lib.hid (ownsRow_below hown hb3 (Nat.le_refl _))
      have hpt2 := hpt.below hb3 hbr.size
      have hB2 : Below w.heap.size w w2 := hbr.trans (hb3.mono hbr.size)
      clear hown hpt HG hown3 hb3
      go_wp2_with fail
      go_ret2
      rw [HJ2.out]
      exact ⟨A2, c2, hs, rfl, hown2.out, hpt2.wide hB2.size, hB2⟩

theorem reads_plain {w : World} {B n : Nat} {A : Option Addr} {xs : List Value} (h : Reads w B 1 A n xs) {k : Nat} (hk : k < n) : ∃ b off, A = some ⟨b, off, none⟩ ∧ ∀ j u, xs[j]? = some u → w.cell? ⟨b, off + j, none⟩ = some u := by
  obtain ⟨ad, e, hb, hc⟩ := h.2 (by omega)
  obtain ⟨b, off, spot⟩ := ad
  have hl : 0 < xs.length := by have := h.1; omega
  have h0 := hc 0 xs[0] (List.getElem?_eq_getElem hl)
  have hs : spot = none := by simpa [Addr.add] using World.cell?_spot h0
  subst hs
  refine ⟨b, off, e, fun j u hu => ?_⟩
  have := hc j u hu
  rwa [add_plain] at this

set_option maxHeartbeats 1000000 in
theorem Same_any (A : Option Addr) (c : Nat) (hs : List Hd) (ls : List (List UInt8)) (A' : Option Addr) (c' : Nat) (hs' : List Hd) (ls' : List (List UInt8)) (w : World) (B B' : Nat)
    (h : Reads w B 1 A hs.length (hs.map Hd.val)) (hp : Parts w B hs ls) (h' : Reads w B' 1 A' hs'.length (hs'.map Hd.val)) (hp' : Parts w B' hs' ls') (hn : hs.length ≤ 1000000000) (hn' : hs'.length ≤ 1000000000) (heq : ls = ls') :
    Calls Tryd.prog 25 #[.slice A hs.length c, .slice A' hs'.length c'] w fun e w' => e = .returned (.bool true) ∧ ∃ m, w' = w.drewN m := by
  subst heq
  have hll : hs.length = hs'.length := hp.1.trans hp'.1.symm
  have HLL := Lib.hid hll
  have e1 : ((hs.length : Int) == (hs'.length : Int)) = true := by rw [beq_iff_eq]; omega
  have e2 : ((hs.length : Int) != (hs'.length : Int)) = false := by rw [hll]; simp
  clear hll
  go_enter Tryd.func25, Tryd.ntmps25
  go_wp2_with fail
  go_loopw [5] (fun i wr => ∃ (k m : Nat), k ≤ hs.length ∧ i = .int .i64 k ∧ wr = w.drewN m) (fun i _ => hs.length - (intOf i).toNat)
  case atStart => exact ⟨0, 0, by omega, rfl, rfl⟩
  case round =>
    obtain ⟨k, m, hk, rfl, rfl⟩ := hrel
    by_cases hlt : k < hs.length
    · have hlt' : k < hs'.length := by have := HLL.out; omega
      have hl1 : k < ls.length := by have := hp.1; omega
      obtain ⟨b1, o1, rfl, hc1⟩ := reads_plain h hlt
      obtain ⟨b2, o2, rfl, hc2⟩ := reads_plain h' hlt'
      have k1 := hc1 k hs[k].val (by simp [hlt])
      have k2 := hc2 k hs'[k].val (by simp [hlt'])
      have p1 := hp.2 k hlt hl1
      have p2 := hp'.2 k hlt' hl1
      obtain ⟨⟨a1, n1, d1⟩, hh1⟩ : ∃ x, hs[k] = x := ⟨_, rfl⟩
      obtain ⟨⟨a2, n2, d2⟩, hh2⟩ : ∃ x, hs'[k] = x := ⟨_, rfl⟩
      rw [hh1] at k1 p1
      rw [hh2] at k2 p2
      simp only [Hd.val] at k1 k2 p1 p2
      have q1 : ∀ q, Sem.run Tryd.prog (convert 22 9 (.slice a1 n1 d1)) (w.drewN q) = Result.ok (.string ⟨(ls[k]).toArray⟩) (w.drewN q) := fun q => conv_bytes (P := Tryd.prog) 22 9 5 Tryd.underlying22 Tryd.underlying5 Tryd.underlying9 (Reads.drewN p1 q) d1
      have q2 : ∀ q, Sem.run Tryd.prog (convert 22 9 (.slice a2 n2 d2)) (w.drewN q) = Result.ok (.string ⟨(ls[k]).toArray⟩) (w.drewN q) := fun q => conv_bytes (P := Tryd.prog) 22 9 5 Tryd.underlying22 Tryd.underlying5 Tryd.underlying9 (Reads.drewN p2 q) d2
      have j1 : (0 : Int) ≤ (k : Int) := by omega
      have j2 : (k : Int) < (hs.length : Int) := by omega
      have j3 : (k : Int) < (hs'.length : Int) := by omega
      clear hc1 hc2 p1 p2 hh1 hh2 h h' hp hp'
      go_wp2_with fail
      go_quiet (fail)
      go_wp2_with fail
      go_roundw
      case rel => exact ⟨k + 1, _, by omega, by go_num, rfl⟩
      case measure => simp [intOf]; omega
    · go_wp2_with fail
      go_ret
      exact ⟨rfl, _, rfl⟩
end Go.Proofs.YtgelgkgmgjhmnaaDoor
