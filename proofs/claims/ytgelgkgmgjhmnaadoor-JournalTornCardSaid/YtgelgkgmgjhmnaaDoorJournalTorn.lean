/-
  hachurelaw40.JournalTorn returns true whatever the records and the cut.
-/
import Derived.Test.YtgelgkgmgjhmnaaDoorJournalAll
import Derived.Test.YtgelgkgmgjhmnaaDoorJournalPuts
import Derived.Test.YtgelgkgmgjhmnaaDoorTornPlain
import Derived.StillTailTactics
namespace Go.Proofs.YtgelgkgmgjhmnaaDoor
open Go.RowKit
set_option linter.unusedVariables false
set_option linter.unusedSimpArgs false

theorem byts_set' (l : List UInt8) (k : Nat) (y : UInt8) : (byts l).set k (.int .u8 (y.toNat : Int)) = byts (l.set k y) := by
  unfold byts
  rw [List.map_set]
theorem take_all {ls : List (List UInt8)} {k : Nat} (h : k < ls.length) (hk : ∀ r ∈ ls.take k, r.length ≤ 100) (h2 : ls[k].length ≤ 100) : ∀ r ∈ ls.take (k + 1), r.length ≤ 100 := by
  intro r hr
  rw [List.take_succ_eq_append_getElem h, List.mem_append, List.mem_singleton] at hr
  rcases hr with hr | rfl
  · exact hk r hr
  · exact h2

/-- slices of bytes of the call's own, whatever they hold -/
def OwnAny (w : World) (base : Nat) (hs : List Hd) : Prop := ∀ (k : Nat) (h1 : k < hs.length), ∃ ds : List UInt8, w.ownsRow base 5 1 hs[k].val hs[k].n (byts ds)
theorem own_store {w : World} {base g c n k : Nat} {xs : List Value} {h : Hd} {ds : List UInt8} (ho : w.ownsRow base 5 1 (.slice (some ⟨g, 0, none⟩) n c) n xs) (hh : w.ownsRow base 5 1 h.val h.n (byts ds)) (y : UInt8) :
    ∃ ds' : List UInt8, (w.setCell ⟨g, k, none⟩ (.int .u8 (y.toNat : Int))).ownsRow base 5 1 h.val h.n (byts ds') := by
  have hg := (ho.stored k (.int .u8 (y.toNat : Int))).2
  by_cases hb : h.val.ownBlock = some g
  · have hv : h.val = .slice (some ⟨g, 0, none⟩) h.n h.c := by
      rcases hh.2 with ⟨h1, _⟩ | ⟨g', cap, cur, h1, _⟩
      · rw [h1] at hb; simp [Value.ownBlock] at hb
      · have : g' = g := by rw [h1] at hb; simpa [Value.ownBlock] using hb
        subst this
        have h2 : h.val = .slice h.ad h.n h.c := rfl
        rw [h2] at h1 ⊢
        injection h1 with e1 e2 e3
        rw [e1]
    rw [hv] at hh ⊢
    have := (hh.stored k (.int .u8 (y.toNat : Int))).1
    rw [byts_set'] at this
    exact ⟨_, this⟩
  · exact ⟨ds, hh.kept hg (.inr hb)⟩
theorem OwnAny.store {w : World} {base g c n k : Nat} {xs : List Value} {hs : List Hd} (h : OwnAny w base hs) (ho : w.ownsRow base 5 1 (.slice (some ⟨g, 0, none⟩) n c) n xs) (y : UInt8) : OwnAny (w.setCell ⟨g, k, none⟩ (.int .u8 (y.toNat : Int))) base hs := fun j hj => by
  obtain ⟨ds, hd⟩ := h j hj
  exact own_store ho hd y
theorem heads_store {w : World} {base b g c n k m : Nat} {xs ys : List Value} {v : Value} (h : w.ownsRow b 22 1 v m ys) (ho : w.ownsRow base 5 1 (.slice (some ⟨g, 0, none⟩) n c) n xs) (u : Value) : (w.setCell ⟨g, k, none⟩ u).ownsRow b 22 1 v m ys := by
  have hg := (ho.stored k u).2
  exact h.kept hg (own_apart h ho (by decide))
theorem xor85 (x : UInt8) : ∃ y : UInt8, bits .xor .u8 (x.toNat : Int) 85 = (y.toNat : Int) := by
  refine ⟨UInt8.ofNat (x.toNat ^^^ 85), ?_⟩
  have hx := UInt8.toNat_lt x
  have := u8_xor_nat x.toNat 85 (by omega) (by omega)
  have hl : x.toNat ^^^ 85 < 256 := Nat.xor_lt_two_pow (n := 8) (by omega) (by omega)
  rw [show (85 : Int) = ((85 : Nat) : Int) from rfl, this, UInt8.toNat_ofNat', Nat.mod_eq_of_lt hl]

set_option maxHeartbeats 4000000 in
set_option maxRecDepth 100000 in
theorem JournalTorn_walk (A : Option Addr) (c : Nat) (hs : List Hd) (ls : List (List UInt8)) (A2 : Option Addr) (n2 c2 : Nat) (l2 : List UInt8) (cut : Int) (w : World) (ht : Tab w)
    (h : Reads w w.heap.size 1 A hs.length (hs.map Hd.val)) (hp : Parts w w.heap.size hs ls) (hcb : hs.length ≤ maxLen)
    (h' : Bts w w.heap.size A2 n2 l2) (hA' : A2 = none → n2 = 0 ∧ c2 = 0) (hnc' : n2 ≤ c2) (hc' : c2 ≤ maxLen) (h1 : -9223372036854775808 ≤ cut) (h2 : cut ≤ 9223372036854775807) :
    Calls Tryd.prog 8 #[.slice A hs.length c, .slice A2 n2 c2, .int .i64 cut] w fun e w' => e = .returned (.bool true) ∧ Below w.heap.size w w' := by
  obtain ⟨i0, hi0, hz0, hz1, hz2⟩ := info_parts info_u8
  unfold maxLen at hcb hc'
  have hlen := h'.len
  subst hlen
  go_enter Tryd.func8, Tryd.ntmps8
  go_wp2_with fail
  refine (jourAwake _ ht).mono ?_
  rintro e w1 ⟨rfl, hb1⟩
  by_cases hbig : 20 < hs.length ∨ 100 < l2.length
  · rcases (show (20 < hs.length) ∨ (hs.length ≤ 20 ∧ 100 < l2.length) from by omega) with hh | ⟨hh, hh2⟩
    all_goals
      clear hbig
      go_wp2_with fail
      go_ret
      exact ⟨rfl, hb1⟩
  · have b1 : hs.length ≤ 20 := by omega
    have b2 : l2.length ≤ 100 := by omega
    clear hbig
    have hown0 : (w1.alloc (.cells #[] 5)).ownsRow w.heap.size 5 1 (.slice (some ⟨w1.heap.size, 0, none⟩) 0 0) 0 [] := World.ownsRow_made w1 #[] 0 hb1.size (by simp) (by simp)
    have d1 : decide (20 < (hs.length : Int)) = false := by simp; omega
    have d2 : decide (100 < (l2.length : Int)) = false := by simp; omega
    have HLL := Lib.hid hp.1
    go_wp2_with fail
    go_loopw [7, 8, 9, 10] (fun v i _ _ wr => ∃ (k : Nat) (A3 : Option Addr) (c3 : Nat), k ≤ hs.length ∧ i = .int .i64 k ∧ v = .slice A3 (recsB (ls.take k)).length c3 ∧ wr.ownsRow w.heap.size 5 1 (.slice A3 (recsB (ls.take k)).length c3) (recsB (ls.take k)).length (byts (recsB (ls.take k))) ∧ Below w.heap.size w wr ∧ Hid (∀ r ∈ ls.take k, r.length ≤ 100)) (fun _ i _ _ _ => hs.length - (intOf i).toNat)
    case atStart => exact ⟨0, some ⟨w1.heap.size, 0, none⟩, 0, by omega, rfl, by simp [recsB], by simpa [recsB, byts] using hown0, hb1.alloc hb1.size _, fun r hr => by simp at hr⟩
    case round =>
      obtain ⟨k, A3, c3, hk, rfl, rfl, hown, hbr, HR⟩ := hrel
      clear hown0
      have hrb : (recsB (ls.take k)).length ≤ 2280 := by have := recsB_bound _ HR.out; simp only [List.length_take] at this; omega
      by_cases hlt : k < hs.length
      · obtain ⟨b, off, rfl, hcl⟩ := reads_plain (h.below hbr) hlt
        have hlk : k < ls.length := by have := HLL.out; omega
        have hck := hcl k hs[k].val (by simp [hlt])
        have pk := hp.2 k hlt hlk
        have HTS := Lib.hid (show recsB (ls.take (k + 1)) = recsB (ls.take k) ++ recordB ls[k] by rw [List.take_succ_eq_append_getElem hlk, recsB_snoc])
        have HTA := Lib.hid (take_all hlk HR.out)
        obtain ⟨⟨a1, n1, e1⟩, hh1⟩ : ∃ x, hs[k] = x := ⟨_, rfl⟩
        rw [hh1] at hck pk
        simp only [Hd.val] at hck pk
        have pl := Bts.len pk
        obtain ⟨f1, f2, f3⟩ := own_facts hown
        clear hcl hh1
        by_cases h100 : 100 < n1
        · clear hown
          go_wp2_with fail
          go_ret
          exact ⟨rfl, hbr⟩
        · have HP := Lib.hid (JPut_any A3 _ c3 _ a1 n1 e1 ls[k] wr (ht.below hbr ht.1) (Reads.of_own hown) f3 ((Reads.below pk hbr).wide hbr.size) (by omega) (by omega))
          clear hown f1 f2 f3
          go_wp2_with fail
          refine HP.out.mono ?_
          rintro e w2 ⟨A4, c4, rfl, hown4, hb4⟩
          have HO := ownsRow_low hown4 hbr.size
          have HB : Below w.heap.size w w2 := hbr.trans (hb4.mono hbr.size)
          have HL : Hid (ls[k].length ≤ 100) := by unfold Hid; omega
          clear hown4 hb4 HP pk hck pl
          go_wp2_with fail
          go_roundw
          case rel => exact ⟨k + 1, A4, c4, by omega, by go_num, by rw [HTS.out]; simp, by rw [HTS.out]; exact HO, HB, HTA.out HL.out⟩
          case measure => simp [intOf]; omega
      · have ek : ls.take k = ls := List.take_of_length_le (by have := HLL.out; omega)
        rw [ek] at hown hrb HR ⊢
        clear ek
        go_wp2_with fail
        refine (Record_any A2 _ c2 l2 _ ((Reads.below h' hbr).wide hbr.size) (by omega)).mono ?_
        rintro e w2 ⟨A4, c4, rfl, hown4, hb4⟩
        have hB2 : Below w.heap.size w w2 := hbr.trans (hb4.mono hbr.size)
        by_cases hcut : cut < 0 ∨ ((recordB l2).length : Int) ≤ cut
        · rcases (show cut < 0 ∨ (0 ≤ cut ∧ ((recordB l2).length : Int) ≤ cut) from by omega) with hh | ⟨hh, hh2⟩
          all_goals
            clear hcut hown hown4
            go_wp2_with fail
            go_ret
            exact ⟨rfl, hB2⟩
        · obtain ⟨j, rfl⟩ := Int.eq_ofNat_of_zero_le (show 0 ≤ cut by omega)
          have hj : j < (recordB l2).length := by omega
          have hrl : (recordB l2).length ≤ 200 := by have := recordB_len l2; have := lebB_len (l2.length + 1); omega
          obtain ⟨f1, f2, f3⟩ := own_facts hown4
          have hjc : j ≤ c4 := by omega
          clear hcut
          go_wp2_with fail
          refine wp_region_noPanic ?_
          refine wp_region_held_drew (S := fun _ => True) (by kernel_rfl) trivial (fun hHeld => ?_)
          refine wpAnyH_take (i := 1) (oi := _) (v := ?_) rfl (by kernel_rfl) (by kernel_rfl) (by kernel_rfl) (fun _ _ _ h => h) (Or.inl ⟨by rfl, ?_⟩) (by assumption) ?_
          rotate_left
          · (intro w hSw; (try dsimp only at hSw); go_simp; try with_reducible rfl)
          try simp only [List.getElem_toArray, List.getElem_cons_zero, List.getElem_cons_succ, Act.put, List.setIfInBounds_toArray, List.set_cons_zero, List.set_cons_succ]
          refine wpAnyH_take (i := 3) (oi := _) (v := ?_) rfl (by kernel_rfl) (by kernel_rfl) (by kernel_rfl) (fun _ _ _ h => h) (Or.inl ⟨by rfl, ?_⟩) (by assumption) ?_
          rotate_left
          · (intro w hSw; (try dsimp only at hSw); go_simp; try with_reducible rfl)
          try simp only [List.getElem_toArray, List.getElem_cons_zero, List.getElem_cons_succ, Act.put, List.setIfInBounds_toArray, List.set_cons_zero, List.set_cons_succ]
          refine wpAnyH_take (i := 4) (oi := _) (v := ?_) rfl (by kernel_rfl) (by kernel_rfl) (by kernel_rfl) (fun _ _ _ h => h) (Or.inl ⟨by rfl, ?_⟩) (by assumption) ?_
          rotate_left
          · (intro w hSw; (try dsimp only at hSw); go_simp; try with_reducible rfl)
          try simp only [List.getElem_toArray, List.getElem_cons_zero, List.getElem_cons_succ, Act.put, List.setIfInBounds_toArray, List.set_cons_zero, List.set_cons_succ]
          refine wpAnyH_take (i := 5) (oi := _) (v := ?_) rfl (by kernel_rfl) (by kernel_rfl) (by kernel_rfl) (fun _ _ _ h => h) (Or.inl ⟨by rfl, ?_⟩) (by assumption) ?_
          rotate_left
          · (intro w hSw; (try dsimp only at hSw); go_simp; try with_reducible rfl)
          try simp only [List.getElem_toArray, List.getElem_cons_zero, List.getElem_cons_succ, Act.put, List.setIfInBounds_toArray, List.set_cons_zero, List.set_cons_succ]
          refine wpAnyH_ready (rs := [0]) (by kernel_rfl) (by simp) ?_
          refine AllReadyH.cons (o := _) rfl (fun K hK => ?_) AllReadyH.nil
          go_simp
          refine hK.out _ _ ?_ (fun hHeld => ?_)
          · trivial
          clear hK K
          try simp only [List.getElem_toArray, List.getElem_cons_zero, List.getElem_cons_succ, Act.put, List.setIfInBounds_toArray, List.set_cons_zero, List.set_cons_succ]
          have hown0 : ((w2.alloc (.cells #[] 5)).drew).ownsRow w.heap.size 5 1 (.slice (some ⟨w2.heap.size, 0, none⟩) 0 0) 0 [] := World.ownsRow_made w2.drew #[] 0 hB2.size (by simp) (by simp)
          have s3 : Reads ((w2.alloc (.cells #[] 5)).drew) w2.heap.size 1 A3 (recsB ls).length (byts (recsB ls)) := ((Reads.of_own (ownsRow_below hown hb4 (Nat.le_refl _))).alloc (Nat.le_refl _) _)
          have s4 : Reads ((w2.alloc (.cells #[] 5)).drew) w2.heap.size 1 A4 j (byts ((recordB l2).take j)) := ((Bts.head (Reads.of_own hown4) j (by omega)) : Reads _ _ _ _ _ _).alloc (Nat.le_refl _) _
          refine wpAnyH_ready (rs := [2]) (by kernel_rfl) (by simp) ?_
          refine AllReadyH.cons (o := _) rfl (fun K hK => ?_) AllReadyH.nil
          rw [if_pos (by rfl)]
          refine wp_append_appl _ (.tmp 65) (.tmp 66) _ rfl w.heap.size 5 i0 _ 1 1 Tryd.underlying22 hi0 hz0 hz1 hz2 rfl (by omega) (.slice (some ⟨w2.heap.size, 0, none⟩) 0 0) 0 [] (by rfl) (.inl hown0) w2.heap.size A3 (recsB ls).length c3 (byts (recsB ls)) (by rfl) s3 (byts_one _) (.inr hown0) (by simp only [maxLen]; omega) (by omega) (by have := hB2.size; simp; omega) ?_
          intro v5 w5 hown5 hB5 hg5 hat5
          simp only [Nat.zero_add, List.nil_append] at hown5
          obtain ⟨A5, c5, rfl, _⟩ := own_shape hown5
          have s5 : Reads w5 w2.heap.size 1 A4 j (byts ((recordB l2).take j)) := s4.grown hg5 (by simp) (fun g hg => by simp [Value.ownBlock] at hg; omega)
          refine hK.out _ _ trivial (fun hHeld => ?_)
          clear hK K
          try simp only [List.getElem_toArray, List.getElem_cons_zero, List.getElem_cons_succ, Act.put, List.setIfInBounds_toArray, List.set_cons_zero, List.set_cons_succ]
          refine wpAnyH_ready (rs := [6]) (by kernel_rfl) (by simp) ?_
          refine AllReadyH.cons (o := _) rfl (fun K hK => ?_) AllReadyH.nil
          rw [if_pos (by rfl)]
          refine wp_append_appl _ (.tmp 67) (.tmp 70) _ rfl w.heap.size 5 i0 _ 1 1 Tryd.underlying22 hi0 hz0 hz1 hz2 rfl (by omega) (.slice A5 (recsB ls).length c5) _ _ (by rfl) (.inl hown5) w2.heap.size A4 j c4 (byts ((recordB l2).take j)) (by rfl) s5 (byts_one _) (.inr hown5) (by simp only [maxLen]; omega) (by omega) (by have := hB2.size; have := hB5.size; simp at this; omega) ?_
          intro v6 w6 hown6 hB6 hg6 hat6
          obtain ⟨A6, c6, rfl, f6⟩ := own_shape hown6
          refine hK.out _ _ trivial (fun hHeld => ?_)
          clear hK K
          try simp only [List.getElem_toArray, List.getElem_cons_zero, List.getElem_cons_succ, Act.put, List.setIfInBounds_toArray, List.set_cons_zero, List.set_cons_succ]
          refine wpAnyH_take (i := 7) (oi := _) (v := ?_) rfl (by kernel_rfl) (by kernel_rfl) (by kernel_rfl) (fun _ _ _ h => h) (Or.inl ⟨by rfl, ?_⟩) (by assumption) ?_
          rotate_left
          · (intro w hSw; (try dsimp only at hSw); go_simp; try with_reducible rfl)
          try simp only [List.getElem_toArray, List.getElem_cons_zero, List.getElem_cons_succ, Act.put, List.setIfInBounds_toArray, List.set_cons_zero, List.set_cons_succ]
          refine wpAnyH_done (by kernel_rfl) ?_ _
          refine NoPanic.normal ?_
          rw [← byts_append] at hown6
          have hB6' : Below w.heap.size w w6 := (hB2.alloc hB2.size _).drew.trans (hB5.trans hB6)
          have hls : ∀ r ∈ ls, r.length ≤ 1048576 := fun r hr => by have := HR.out r hr; omega
          have hja := jAll_cut ls l2 j hls (by omega) hj
          have HA1 := JAll_any A6 _ c6 _ w6 (ht.below hB6' ht.1) (Reads.of_own hown6) f6.2.2 f6.1 f6.2.1 (by omega)
          rw [hja] at HA1
          have HA := Lib.hid HA1
          have HJ := Lib.hid hja
          have HF := Lib.hid f6
          have q6 := conv_bytes (P := Tryd.prog) 22 9 5 Tryd.underlying22 Tryd.underlying5 Tryd.underlying9 (Reads.of_own hown6) c6
          clear hja HA1 hls hown0 s3 s4 s5 hown5 hB5 hg5 hg6 hat5 hat6 hown hown4 hb4 f1 f2 f3 hHeld hB6 f6
          go_wp2_with fail
          refine HA.out.mono ?_
          rintro e w7 ⟨A7, c7, hs7, rfl, hown7, hp7, hb7⟩
          have hB7 : Below w.heap.size w w7 := hB6'.trans (hb7.mono hB6'.size)
          have hl7 : hs7.length = hs.length := by rw [hp7.1]; exact HLL.out.symm
          have HS := Lib.hid (Same_any A7 c7 hs7 ls A c hs ls w7 _ _ (Reads.of_own hown7) hp7.parts (h.below hB7) (hp.below hB7 (Nat.le_refl _)) (by omega) (by omega) rfl)
          have HL7 := Lib.hid hl7
          clear hl7 HA q6
          go_wp2_with fail
          refine HS.out.mono ?_
          rintro e w8 ⟨rfl, m8, rfl⟩
          have I0 : (w7.drewN m8).ownsRow w6.heap.size 22 1 (.slice A7 hs7.length c7) hs7.length (hs7.map Hd.val) ∧ OwnAny (w7.drewN m8) w6.heap.size hs7 ∧ Below w6.heap.size w6 (w7.drewN m8) := ⟨hown7, fun k hk => ⟨_, hp7.2 k hk (by rw [← hp7.1]; exact hk)⟩, bel_drewN hb7 _⟩
          have HI0 := Lib.hid I0
          have b7 : hs7.length ≤ 20 := by have := HL7.out; omega
          clear I0 hown7 hp7 hb7 HS HL7
          go_wp2_with fail
          go_loopw [16, 17] (fun i _ wr => ∃ k : Nat, k ≤ hs7.length ∧ i = .int .i64 k ∧ wr.ownsRow w6.heap.size 22 1 (.slice A7 hs7.length c7) hs7.length (hs7.map Hd.val) ∧ OwnAny wr w6.heap.size hs7 ∧ Below w6.heap.size w6 wr) (fun i _ _ => hs7.length - (intOf i).toNat)
          case atStart => exact ⟨0, by omega, rfl, HI0.out⟩
          case round =>
            obtain ⟨q, hq, rfl, hoh, hoa, hbr6⟩ := hrel
            clear HI0
            by_cases hlt7 : q < hs7.length
            · obtain ⟨wo, hwo⟩ : ∃ wo : World, wo = wr := ⟨_, rfl⟩
              obtain ⟨g7, cap7, hv7, hbg7, hltg7⟩ := hoh.form (by omega)
              have hA7 : A7 = some ⟨g7, 0, none⟩ := by injection hv7
              subst hA7
              subst hwo
              clear hv7
              obtain ⟨⟨a1, n1, e1⟩, hh1⟩ : ∃ x, hs7[q] = x := ⟨_, rfl⟩
              have hcellH : ∀ W : World, W.ownsRow w6.heap.size 22 1 (.slice (some ⟨g7, 0, none⟩) hs7.length c7) hs7.length (hs7.map Hd.val) → W.cell? ⟨g7, q, none⟩ = some (.slice a1 n1 e1) := fun W hW => by
                have := hW.cells (g := g7) rfl q (.slice a1 n1 e1) (by rw [List.getElem?_map, List.getElem?_eq_getElem hlt7, hh1]; rfl)
                rwa [add_plain, Nat.zero_add] at this
              have HCH := Lib.hid hcellH
              have HH1 := Lib.hid hh1
              clear hcellH hh1
              have hn1 : n1 ≤ 9223372036854775807 := by
                obtain ⟨ds, hd⟩ := hoa q hlt7
                rw [HH1.out] at hd
                simp only [Hd.val] at hd
                have := own_facts hd
                omega
              go_wp2_with fail
              go_loopw [17] (fun t wr => ∃ i : Nat, i ≤ n1 ∧ t = .int .i64 i ∧ wr.ownsRow w6.heap.size 22 1 (.slice (some ⟨g7, 0, none⟩) hs7.length c7) hs7.length (hs7.map Hd.val) ∧ OwnAny wr w6.heap.size hs7 ∧ Below w6.heap.size w6 wr) (fun t _ => n1 - (intOf t).toNat)
              case atStart => exact ⟨0, by omega, rfl, hoh, hoa, hbr6⟩
              case round =>
                obtain ⟨i, hi, rfl, hoh2, hoa2, hbr7⟩ := hrel
                clear hoh hoa hbr6
                have hc1 := HCH.out _ hoh2
                by_cases hil : i < n1
                · obtain ⟨ds, hd⟩ := hoa2 q hlt7
                  rw [HH1.out] at hd
                  simp only [Hd.val] at hd
                  obtain ⟨g2, cap2, hv2, hbg2, hltg2⟩ := hd.form (by omega)
                  have ha1 : a1 = some ⟨g2, 0, none⟩ := by injection hv2
                  subst ha1
                  clear hv2
                  have hdl : i < ds.length := by have := hd.1; simp at this; omega
                  have hc2x : wr.cell? ⟨g2, i, none⟩ = some (.int .u8 (ds[i].toNat : Int)) := by
                    have := hd.cells (g := g2) rfl i _ (byts_at ds i hdl)
                    rwa [add_plain, Nat.zero_add] at this
                  have hfz : wr.frozen? ⟨g2, i, none⟩ = false := hd.frozenAt i
                  obtain ⟨x, hx⟩ : ∃ x : UInt8, ds[i] = x := ⟨_, rfl⟩
                  rw [hx] at hc2x
                  obtain ⟨y, hy⟩ := xor85 x
                  have K1 := Lib.hid (heads_store (k := i) hoh2 hd (.int .u8 (y.toNat : Int)))
                  have K2 := Lib.hid (hoa2.store (k := i) hd y)
                  have K3 : Hid (Below w6.heap.size w6 (wr.setCell ⟨g2, i, none⟩ (.int .u8 (y.toNat : Int)))) := hbr7.setCell hbg2 _
                  have j1 : (0 : Int) ≤ (q : Int) := by omega
                  have j2 : (q : Int) < (hs7.length : Int) := by omega
                  have j3 : (0 : Int) ≤ (i : Int) := by omega
                  have j4 : (i : Int) < (n1 : Int) := by omega
                  clear hoh2 hoa2 hbr7 hd hx
                  go_wp2_with fail
                  go_still_tail 14, (by kernel_rfl)
                  go_wp2_with fail
                  go_roundw
                  case rel => exact ⟨i + 1, by omega, by go_num, K1.out, K2.out, K3.out.drew⟩
                  case measure => simp [intOf]; omega
                · have K1 := Lib.hid hoh2
                  clear hoh2
                  go_wp2_with fail
                  go_roundw
                  case rel => exact ⟨q + 1, by omega, by go_num, K1.out, hoa2, hbr7⟩
                  case measure => simp [intOf]; omega
            · have hBw : Below w.heap.size w wr := hB6'.trans (hbr6.mono hB6'.size)
              have r6 := (Reads.of_own hown6).below hbr6
              have HA1 := JAll_any A6 _ c6 _ wr (ht.below hBw ht.1) (Reads.wide r6 hbr6.size) HF.out.2.2 HF.out.1 HF.out.2.1 (by omega)
              rw [HJ.out] at HA1
              have HA := Lib.hid HA1
              clear HA1 hoh hoa
              go_wp2_with fail
              refine HA.out.mono ?_
              rintro e w9 ⟨A9, c9, hs9, rfl, hown9, hp9, hb9⟩
              have hB9 : Below w.heap.size w w9 := hBw.trans (hb9.mono hBw.size)
              have hl9 : hs9.length = hs.length := by rw [hp9.1]; exact HLL.out.symm
              have HS := Lib.hid (Same_any A9 c9 hs9 ls A c hs ls w9 _ _ (Reads.of_own hown9) hp9.parts (h.below hB9) (hp.below hB9 (Nat.le_refl _)) (by omega) (by omega) rfl)
              have q9 := conv_bytes (P := Tryd.prog) 22 9 5 Tryd.underlying22 Tryd.underlying5 Tryd.underlying9 (Reads.later r6 hb9 hbr6.size) c6
              clear hl9 HA hown9 hp9 hb9
              go_wp2_with fail
              refine HS.out.mono ?_
              rintro e w10 ⟨rfl, m10, rfl⟩
              go_wp2_with fail
              go_ret
              exact ⟨rfl, bel_drewN hB9 _⟩
end Go.Proofs.YtgelgkgmgjhmnaaDoor
