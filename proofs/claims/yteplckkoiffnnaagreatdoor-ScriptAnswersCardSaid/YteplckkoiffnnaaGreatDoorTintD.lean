/-
  tint: must, band.
-/
import Derived.Test.YteplckkoiffnnaaGreatDoorTintC
import Derived.Test.YteplckkoiffnnaaGreatDoorTintShelf
import Derived.Test.YteplckkoiffnnaaGreatDoorSyDefer
namespace Go.Proofs.YteplckkoiffnnaaGreatDoor
open Go.RowKit
open Sy
set_option linter.unusedVariables false
set_option linter.unusedSimpArgs false
set_option maxRecDepth 100000
set_option maxHeartbeats 4000000

/-- what is thrown -/
def wrongCh : List PanicEntry := [{ v := .iface 335 (.agg #[.int .i64 12]), recovered := false }]
abbrev isWrong (ch : List PanicEntry) : Prop := ch = wrongCh
theorem sMust {R : HP} : PureR Tryz.prog R 199 [.bool true] (.tuple #[]) := by
  refine fn_of_run0 false Tryz.func199 rfl hmix rfl fun w0 => ?_
  conv => whnf
  refine iff_f rfl ?_
  conv => whnf
  exact ⟨trivial, fin_pure rfl rfl⟩
theorem sMustNo {R : HP} : PanR Tryz.prog R 199 [.bool false] [] isWrong R := by
  refine pan_of_run0 _ _ false Tryz.func199 rfl hmix rfl fun w0 => ?_
  conv => whnf
  refine iff_t rfl ?_
  conv => whnf
  exact ⟨trivial, OpAt.panic 335 (.agg #[.int .i64 12]) rfl rfl rfl rfl (fun w s => s) trivial⟩
theorem sRuneLen {R : HP} {c : Nat} (h : SignN c) : PureR Tryz.prog R 277 [.int .i32 (c : Int)] (.int .i64 ((utfN c).length : Int)) := PureR.of_below fun w _ => (Any.utf8_RuneLen lays118 (c : Int) w).mono fun e w' ⟨he, hw⟩ => by
  have e2 : Lib.runeLen (c : Int) = ((utfN c).length : Int) := by
    unfold SignN at h
    unfold Lib.runeLen utfN
    rw [if_neg (by omega)]
    by_cases h1 : c < 128
    · rw [if_pos (by omega), if_pos h1]; rfl
    · rw [if_neg (by omega), if_neg h1]
      by_cases h2 : c < 2048
      · rw [if_pos (by omega), if_pos h2]; rfl
      · rw [if_neg (by omega), if_neg h2, if_neg (by omega), if_pos (by omega)]; rfl
  subst hw
  exact ⟨by rw [he, e2], Below.refl _ _⟩
theorem at_is {s : List UInt8} {k : Nat} (hk : k < s.length) : (byteAt (bs s) k = 58) ↔ s[k]? = some 58 := by
  rw [byteAt_bs, List.getElem?_eq_getElem hk]
  simp only [Option.getD_some, Option.some.injEq]
  exact u8_is 58
theorem sBand {R : HP} (hN : ∀ w, Sat R w → NumW w) {s : List UInt8} (hl : s.length ≤ 1048576) {b : Bd} (h : bandV s = some b) : PureR Tryz.prog R 200 [.string (bs s)] (.agg #[.int .i64 b.f, .int .i32 b.s]) := by
  unfold bandV at h
  split at h
  rotate_left
  · cases h
  rename_i hc
  obtain ⟨h1, h2, h3, h4, h5⟩ := hc
  injection h with h
  subst h
  rcases hx : scan s 0 with ⟨n, e, q⟩
  rw [hx] at h1 h2 h3 h4 h5
  simp only at h1 h2 h3 h4 h5 ⊢
  subst h1
  obtain ⟨k, rfl, hk, ht, hb⟩ := scan_fine hx
  simp only [Int.toNat_natCast] at h2 h3 h4 h5 ⊢
  have hsc : ∀ R' : HP, (∀ w, Sat R' w → Sat R w) → PureR Tryz.prog R' 52 [.string (bs s), .int .i64 0] (.tuple #[.int .i64 n, .int .i64 (k : Int), .int .i64 0]) := fun R' h => by
    have := sScan (R := R') (fun w s => hN w (h w s)) s hl 0
    rw [hx] at this
    exact this
  clear hx ht
  have h3' := (at_is h2).2 h3
  have hex : (bs s).extract (k + 1) (bs s).size = bs (s.drop (k + 1)) := by rw [bs_extract, bs_size, List.take_length]
  have hql : (s.drop (k + 1)).length = s.length - (k + 1) := List.length_drop
  generalize s.drop (k + 1) = q at *
  have hex' : (bs s).extract ((k : Int) + 1).toNat (((bs s).size : Int)).toNat = bs q := by rw [show ((k : Int) + 1).toNat = k + 1 by omega, Int.toNat_natCast, hex]
  have hd := decode_bs q 0
  rw [List.drop_zero] at hd
  rcases hde : dec q with ⟨c, k1⟩
  rw [hde] at hd h4 h5
  simp only at hd h4 h5 ⊢
  have hlen := utf_dec hde h4
  have hq0 : 0 < q.length := by
    cases q with
    | nil => exact absurd hlen.1.symm (by simp [utfN_ne])
    | cons a q => simp
  have hu : (utfN c).length = k1 := by rw [← hlen.1, List.length_take]; omega
  have hsg : ∀ R' : HP, (∀ w, Sat R' w → Sat R w) → PureR Tryz.prog R' 266 [.int .i32 (c : Int)] (.bool true) := fun R' _ => by
    have := sTSign (R := R') (c : Int)
    rw [decide_eq_true ⟨by omega, by simpa using h4⟩] at this
    exact this
  have hrl : ∀ R' : HP, (∀ w, Sat R' w → Sat R w) → _ := fun R' _ => sRuneLen (R := R') h4
  refine fn_of_run0 false Tryz.func200 rfl hmix rfl fun w0 => ?_
  conv => whnf
  refine ⟨trivial, CallAt.pure (fun R' hR' => hsc R' hR') ?_⟩
  conv => whnf
  refine ⟨fun _ => ?_, fun h => absurd h (by decide)⟩
  conv => whnf
  refine ⟨fun _ => ?_, fun h => absurd h (by rw [decide_eq_true (by rw [bs_size]; omega)]; decide)⟩
  conv => whnf
  refine ⟨⟨trivial, by rw [bs_size]; omega⟩, CallAt.pure (fun R' hR' => (by rw [decide_eq_true (by simpa using h3')]; exact sMust)) ?_⟩
  conv => whnf
  refine ⟨by rw [bs_size]; refine ⟨⟨trivial, ?_⟩, ?_⟩ <;> (try unfold rng) <;> omega, OpAt.range (bs q) rfl (congrArg Value.string hex') rfl rfl fun ib => ?_⟩
  conv => whnf
  refine ⟨trivial, LoopAt.of (α := Bool) [0, 2, 3, 4, 7, 35] (fun f => [(6, .v (.int .i64 (cond f 1 0)))]) (fun f => [(1, 333, [.v (.int .i64 (cond f n 0)), .v (.int .i32 (cond f (c : Int) 0))]), (0, 333, [.v (.int .i64 0), .v (.int .i32 0)])]) (fun f => [itH ib (bs q) (cond f k1 0)]) (fun _ => True) (fun f => cond f 0 1) false trivial
    (Le.of (Nat.le_of_ble_eq_true rfl) (Nat.zero_le _) ⟨⟨rfl, rfl⟩, ⟨rfl, rfl⟩, ⟨rfl, rfl⟩, ⟨rfl, rfl⟩, ⟨rfl, rfl⟩, ⟨rfl, rfl⟩, ⟨rfl, rfl⟩, trivial⟩ ⟨⟨rfl, rfl, rfl, rfl⟩, ⟨rfl, rfl, rfl, rfl⟩, trivial⟩ fun h s => sub_same s) ?_⟩
  rintro f -
  cases f
  · conv => whnf
    refine ⟨trivial, OpAt.next ib (bs q) 0 [] rfl (fun h s => s) rfl rfl (by rw [bs_size]; omega) ?_⟩
    rw [hd]
    conv => whnf
    refine iff_t rfl ?_
    conv => whnf
    refine ⟨fun _ => ?_, fun h => absurd h (by decide)⟩
    conv => whnf
    refine ⟨trivial, CallAt.pure (fun R' hR' => hsg R' (fun w s => (hR' w s).rest)) ?_⟩
    conv => whnf
    refine ⟨trivial, CallAt.pure (fun R' hR' => sMust) ?_⟩
    conv => whnf
    refine ⟨⟨trivial, by unfold rng; simp only [cond]; omega⟩, .mk true trivial (by decide) (Le.of (Nat.le_of_ble_eq_true rfl) (Nat.zero_le _) ⟨⟨rfl, rfl⟩, ⟨rfl, rfl⟩, ⟨rfl, rfl⟩, ⟨rfl, rfl⟩, ⟨rfl, rfl⟩, ⟨rfl, rfl⟩, ⟨rfl, rfl⟩, trivial⟩ ⟨⟨rfl, rfl, rfl, rfl⟩, ⟨rfl, rfl, rfl, rfl⟩, trivial⟩ fun h s => ?_)⟩
    simp only [Nat.zero_add] at s
    exact sub_same s
  · conv => whnf
    refine ⟨trivial, OpAt.nextEnd ib (bs q) k1 [] rfl (fun h s => s) rfl rfl (by rw [bs_size]; omega) ?_⟩
    conv => whnf
    refine iff_f rfl ?_
    conv => whnf
    refine ⟨fun _ => ?_, fun h => absurd h (by decide)⟩
    conv => whnf
    refine ⟨trivial, CallAt.pure (fun R' hR' => hrl R' (fun w s => (hR' w s).rest)) ?_⟩
    conv => whnf
    refine ⟨by rw [bs_size]; refine ⟨⟨trivial, ?_⟩, ?_⟩ <;> unfold rng <;> omega, CallAt.pure (fun R' hR' => (by rw [decide_eq_true (by rw [bs_size, hu]; omega)]; exact sMust)) ?_⟩
    conv => whnf
    exact ⟨trivial, fin_drop rfl⟩
/-- a call that panics, and takes nothing -/
theorem CallAt.pan0 {G : Gl} {f : FuncId} {args : List Value} {st : St} {K : SV → St → Prop} {X : List PanicEntry → Prop} (hc : ∀ R' : HP, (∀ w, Sat R' w → Sat (sepL st.h G.R) w) → PanR G.P R' f args [] X R') (hX : ∀ ch, X ch → G.X ch) (hRX : ∀ w, Sat (sepL st.h G.R) w → Sat G.RX w) (ha : axAt G.AX st) : CallAt G f args st K := by
  refine .px ha fun ρ w mm => ?_
  obtain ⟨h, h1, h2, _⟩ := mm.hp
  refine Calls.mono (hc (sepL st.h G.R) (fun w s => s) w ⟨h, h1, h2⟩) ?_
  rintro e w' ⟨ch, rfl, k1, k2, k3⟩
  exact ⟨ch, rfl, hX _ k1, hRX _ k2, mm.wd.trans k3⟩
theorem sBandNo {R : HP} (hN : ∀ w, Sat R w → NumW w) {s : List UInt8} (hl : s.length ≤ 1048576) (h : bandV s = none) : PanR Tryz.prog R 200 [.string (bs s)] [] isWrong R := by
  unfold bandV at h
  split at h
  · cases h
  rename_i hc
  clear h
  have hsc0 : ∀ R' : HP, (∀ w, Sat R' w → Sat R w) → _ := fun R' h => sScan (R := R') (fun w s => hN w (h w s)) s hl 0
  rcases hx : scan s 0 with ⟨n, e, q⟩
  rw [hx] at hc
  simp only at hc
  have hsc : ∀ R' : HP, (∀ w, Sat R' w → Sat R w) → PureR Tryz.prog R' 52 [.string (bs s), .int .i64 0] (.tuple #[.int .i64 n, .int .i64 e, .int .i64 q]) := fun R' h => by
    have := hsc0 R' h
    rw [hx] at this
    exact this
  clear hsc0
  by_cases hq : q = 0
  · subst hq
    obtain ⟨k, rfl, hk, ht, hb⟩ := scan_fine hx
    clear hx ht
    simp only [Int.toNat_natCast, true_and] at hc
    by_cases h2 : k < s.length
    · by_cases h3 : s[k]? = some 58
      · have h3' := (at_is h2).2 h3
        have hc : ¬ (SignN (dec (s.drop (k + 1))).1 ∧ (dec (s.drop (k + 1))).2 = (s.drop (k + 1)).length) := fun c => hc ⟨h2, h3, c⟩
        have hex : (bs s).extract (k + 1) (bs s).size = bs (s.drop (k + 1)) := by rw [bs_extract, bs_size, List.take_length]
        generalize s.drop (k + 1) = q at *
        have hex' : (bs s).extract ((k : Int) + 1).toNat (((bs s).size : Int)).toNat = bs q := by rw [show ((k : Int) + 1).toNat = k + 1 by omega, Int.toNat_natCast, hex]
        have hd := decode_bs q 0
        rw [List.drop_zero] at hd
        rcases hde : dec q with ⟨c, k1⟩
        rw [hde] at hd hc
        simp only at hd hc
        have hlen : SignN c → k1 < q.length := fun h => by
          have h5 := (utf_dec hde h).2
          have h6 : k1 ≠ q.length := fun e => hc ⟨h, e⟩
          omega
        have hk1 : SignN c → k1 ≠ 0 := fun h e => by
          have h5 := (utf_dec hde h).1
          rw [e] at h5
          exact utfN_ne c h5.symm
        have hsg : ∀ R' : HP, PureR Tryz.prog R' 266 [.int .i32 (c : Int)] (.bool (decide (SignN c))) := fun R' => by
          have := sTSign (R := R') (c : Int)
          rw [show decide (SignI (c : Int)) = decide (SignN c) from decide_eq_decide.2 ⟨fun h => by simpa using h.2, fun h => ⟨by omega, by simpa using h⟩⟩] at this
          exact this
        refine pan_of_run0 _ _ false Tryz.func200 rfl hmix rfl fun w0 => ?_
        conv => whnf
        refine ⟨trivial, CallAt.pure (fun R' hR' => hsc R' hR') ?_⟩
        conv => whnf
        refine ⟨fun _ => ?_, fun h => absurd h (by decide)⟩
        conv => whnf
        refine ⟨fun _ => ?_, fun h => absurd h (by rw [decide_eq_true (by rw [bs_size]; omega)]; decide)⟩
        conv => whnf
        refine ⟨⟨trivial, by rw [bs_size]; omega⟩, CallAt.pure (fun R' hR' => (by rw [decide_eq_true (by simpa using h3')]; exact sMust)) ?_⟩
        conv => whnf
        refine ⟨by rw [bs_size]; refine ⟨⟨trivial, ?_⟩, ?_⟩ <;> (try unfold rng) <;> omega, OpAt.range (bs q) rfl (congrArg Value.string hex') rfl rfl fun ib => ?_⟩
        conv => whnf
        refine ⟨trivial, LoopAt.of (α := Bool) [0, 2, 3, 4, 7, 35] (fun f => [(6, .v (.int .i64 (cond f 1 0)))]) (fun f => [(1, 333, [.v (.int .i64 (cond f n 0)), .v (.int .i32 (cond f (c : Int) 0))]), (0, 333, [.v (.int .i64 0), .v (.int .i32 0)])]) (fun f => [itH ib (bs q) (cond f k1 0)]) (fun f => f = true → SignN c) (fun f => cond f 0 1) false (fun h => by cases h)
          (Le.of (Nat.le_of_ble_eq_true rfl) (Nat.zero_le _) ⟨⟨rfl, rfl⟩, ⟨rfl, rfl⟩, ⟨rfl, rfl⟩, ⟨rfl, rfl⟩, ⟨rfl, rfl⟩, ⟨rfl, rfl⟩, ⟨rfl, rfl⟩, trivial⟩ ⟨⟨rfl, rfl, rfl, rfl⟩, ⟨rfl, rfl, rfl, rfl⟩, trivial⟩ fun h s => sub_same s) ?_⟩
        rintro f hf
        cases f
        · conv => whnf
          by_cases hq0 : 0 < q.length
          · refine ⟨trivial, OpAt.next ib (bs q) 0 [] rfl (fun h s => s) rfl rfl (by rw [bs_size]; omega) ?_⟩
            rw [hd]
            conv => whnf
            refine iff_t rfl ?_
            conv => whnf
            refine ⟨fun _ => ?_, fun h => absurd h (by decide)⟩
            conv => whnf
            refine ⟨trivial, CallAt.pure (fun R' hR' => hsg R') ?_⟩
            conv => whnf
            by_cases hs : SignN c
            · rw [decide_eq_true hs]
              refine ⟨trivial, CallAt.pure (fun R' hR' => sMust) ?_⟩
              conv => whnf
              refine ⟨⟨trivial, by unfold rng; simp only [cond]; omega⟩, .mk true (fun _ => hs) (by decide) (Le.of (Nat.le_of_ble_eq_true rfl) (Nat.zero_le _) ⟨⟨rfl, rfl⟩, ⟨rfl, rfl⟩, ⟨rfl, rfl⟩, ⟨rfl, rfl⟩, ⟨rfl, rfl⟩, ⟨rfl, rfl⟩, ⟨rfl, rfl⟩, trivial⟩ ⟨⟨rfl, rfl, rfl, rfl⟩, ⟨rfl, rfl, rfl, rfl⟩, trivial⟩ fun h s => ?_)⟩
              simp only [Nat.zero_add] at s
              exact sub_same s
            · rw [decide_eq_false hs]
              exact ⟨trivial, CallAt.pan0 (fun R' hR' => sMustNo) (fun ch h => h) (fun w s => s.rest) trivial⟩
          · refine ⟨trivial, OpAt.nextEnd ib (bs q) 0 [] rfl (fun h s => s) rfl rfl (by rw [bs_size]; omega) ?_⟩
            conv => whnf
            refine iff_f rfl ?_
            conv => whnf
            refine ⟨fun h => absurd h (by decide), fun _ => ?_⟩
            conv => whnf
            exact ⟨trivial, CallAt.pan0 (fun R' hR' => sMustNo) (fun ch h => h) (fun w s => s.rest) trivial⟩
        · have hs := hf rfl
          have hk1 := hk1 hs
          conv => whnf
          refine ⟨trivial, OpAt.next ib (bs q) k1 [] rfl (fun h s => s) rfl rfl (by rw [bs_size]; exact hlen hs) ?_⟩
          generalize Utf8.decode (bs q) k1 = z
          conv => whnf
          refine iff_t rfl ?_
          conv => whnf
          refine ⟨fun h => absurd (of_decide_eq_true h) (by omega), fun _ => ?_⟩
          conv => whnf
          exact ⟨trivial, CallAt.pan0 (fun R' hR' => sMustNo) (fun ch h => h) (fun w s => s.rest) trivial⟩
      · have h3' : ¬ byteAt (bs s) k = 58 := fun c => h3 ((at_is h2).1 c)
        refine pan_of_run0 _ _ false Tryz.func200 rfl hmix rfl fun w0 => ?_
        conv => whnf
        refine ⟨trivial, CallAt.pure (fun R' hR' => hsc R' hR') ?_⟩
        conv => whnf
        refine ⟨fun _ => ?_, fun h => absurd h (by decide)⟩
        conv => whnf
        refine ⟨fun _ => ?_, fun h => absurd h (by rw [decide_eq_true (by rw [bs_size]; omega)]; decide)⟩
        conv => whnf
        exact ⟨⟨trivial, by rw [bs_size]; omega⟩, CallAt.pan0 (fun R' hR' => (by rw [decide_eq_false (by simpa using h3')]; exact sMustNo)) (fun ch h => h) (fun w s => s) trivial⟩
    · refine pan_of_run0 _ _ false Tryz.func200 rfl hmix rfl fun w0 => ?_
      conv => whnf
      refine ⟨trivial, CallAt.pure (fun R' hR' => hsc R' hR') ?_⟩
      conv => whnf
      refine ⟨fun _ => ?_, fun h => absurd h (by decide)⟩
      conv => whnf
      refine ⟨fun h => absurd (of_decide_eq_true h) (by rw [bs_size]; omega), fun _ => ?_⟩
      conv => whnf
      exact ⟨trivial, CallAt.pan0 (fun R' hR' => sMustNo) (fun ch h => h) (fun w s => s) trivial⟩
  · refine pan_of_run0 _ _ false Tryz.func200 rfl hmix rfl fun w0 => ?_
    conv => whnf
    refine ⟨trivial, CallAt.pure (fun R' hR' => hsc R' hR') ?_⟩
    conv => whnf
    refine ⟨fun h => absurd (of_decide_eq_true h) hq, fun _ => ?_⟩
    conv => whnf
    exact ⟨trivial, CallAt.pan0 (fun R' hR' => sMustNo) (fun ch h => h) (fun w s => s) trivial⟩
end Go.Proofs.YteplckkoiffnnaaGreatDoor
