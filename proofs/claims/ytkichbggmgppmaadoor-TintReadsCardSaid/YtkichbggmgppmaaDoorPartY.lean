/-
  Texts of the proofs, one behind the other: TintN, TintO, TintR.
-/
import Derived.Test.YtkichbggmgppmaaDoorPartW
/-
  The document's Rune: the sign at the head of a text.
-/
namespace Go.Proofs.YtkichbggmgppmaaDoor
open Go.RowKit
open Sy
set_option linter.unusedVariables false
set_option linter.unusedSimpArgs false
set_option maxRecDepth 100000
set_option maxHeartbeats 4000000

def xN (x : List UInt8) (k : Nat) : Int := (((x[k]?).getD 0).toNat : Int)
def candI (x : List UInt8) : Nat → Int
  | 1 => xN x 0
  | 2 => (xN x 0 - 192) * 64 + xN x 1 - 128
  | _ => (xN x 0 - 224) * 4096 + (xN x 1 - 128) * 64 + xN x 2 - 128
theorem cand_utf {x : List UInt8} {c k : Nat} (h : x.take k = utfN c) (hk : k = (utfN c).length) (hs : SignN c) : candI x k = (c : Int) := by
  unfold SignN at hs
  unfold utfN at h hk
  split at h
  · rename_i h1
    rw [if_pos h1] at hk
    simp only [List.length_cons, List.length_nil] at hk
    subst hk
    rcases x with _ | ⟨a, x⟩
    · simp at h
    simp at h
    subst h
    show (((u8 c).toNat : Nat) : Int) = c
    rw [u8_nat (by omega)]
  · rename_i h1
    rw [if_neg h1] at hk
    split at h
    · rename_i h2
      rw [if_pos h2] at hk
      simp only [List.length_cons, List.length_nil] at hk
      subst hk
      rcases x with _ | ⟨a, _ | ⟨b, x⟩⟩
      · simp at h
      · simp at h
      simp at h
      obtain ⟨rfl, rfl⟩ := h
      show ((((u8 (192 + c / 64)).toNat : Nat) : Int) - 192) * 64 + (((u8 (128 + c % 64)).toNat : Nat) : Int) - 128 = c
      rw [u8_nat (by omega), u8_nat (by omega)]
      omega
    · rename_i h2
      rw [if_neg h2] at hk
      simp only [List.length_cons, List.length_nil] at hk
      subst hk
      rcases x with _ | ⟨a, _ | ⟨b, _ | ⟨d, x⟩⟩⟩
      · simp at h
      · simp at h
      · simp at h
      simp at h
      obtain ⟨rfl, rfl, rfl⟩ := h
      show ((((u8 (224 + c / 4096)).toNat : Nat) : Int) - 224) * 4096 + ((((u8 (128 + c / 64 % 64)).toNat : Nat) : Int) - 128) * 64 + (((u8 (128 + c % 64)).toNat : Nat) : Int) - 128 = c
      rw [u8_nat (by omega), u8_nat (by omega), u8_nat (by omega)]
      omega
def Hit (x : List UInt8) (n : Nat) : Prop := SignI (candI x n) ∧ utfN (candI x n).toNat = x.take n
theorem rune_hit {x : List UInt8} {n : Nat} (hl : n ≤ x.length) (h : Hit x n) : runeV x = (candI x n, n) := by
  obtain ⟨h1, h2⟩ := h
  have := runeV_of h1 (x.drop n)
  rw [h2, List.take_append_drop, List.length_take, Nat.min_eq_left hl] at this
  exact this
theorem rune_miss {x : List UInt8} (h : ∀ n, 1 ≤ n → n ≤ 3 → n ≤ x.length → ¬ Hit x n) : runeV x = (0, 0) := by
  rcases hr : runeV x with ⟨r, k⟩
  by_cases hk : k = 0
  · subst hk
    unfold runeV at hr
    split at hr
    · rename_i hc
      rcases hd : dec x with ⟨c, j⟩
      rw [hd] at hr hc
      injection hr with e1 e2
      simp only at e2 hc
      subst e2
      exact absurd (utf_dec hd hc.1).1.symm (utfN_ne c)
    · exact hr.symm
  · exfalso
    obtain ⟨h1, h2, h3⟩ := runeV_some hr hk
    have hl : k = (utfN r.toNat).length := by rw [← h2, List.length_take]; omega
    have hu := utfN_len r.toNat
    have e := cand_utf h2 hl h1.2
    have e' : candI x k = r := by rw [e]; exact Int.toNat_of_nonneg h1.1
    exact h k (by omega) (by omega) h3 ⟨by rw [e']; exact h1, by rw [e', h2]⟩
theorem xN_lt (x : List UInt8) (k : Nat) : 0 ≤ xN x k ∧ xN x k ≤ 255 := by
  unfold xN
  have := ((x[k]?).getD 0).toNat_lt
  omega
theorem byte_i32 (x : List UInt8) (k : Nat) : IntKind.i32.wrap (byteAt (bs x) k) = xN x k := by
  rw [byteAt_bs]
  exact i32_inN (by have := xN_lt x k; unfold xN at this; omega)
theorem sRune33 {R : HP} (x : List UInt8) (hl : x.length ≤ 1048576) : PureR Tryd.prog R 56 [.string (bs x)] (.tuple #[.int .i32 (runeV x).1, .int .i64 ((runeV x).2 : Int)]) := by
  have hit := fun n => rune_hit (x := x) (n := n)
  have miss := rune_miss (x := x)
  have hb : ∀ k, byteAt (bs x) k = xN x k := fun k => byteAt_bs x k
  generalize runeV x = rv at *
  refine fn_of_run0 false Tryd.func56 rfl hmix rfl fun w0 => ?_
  conv => whnf
  refine ⟨trivial, LoopAt.of (α := Nat) [0] (fun n => [(4, .v (.int .i64 (n : Int)))]) (fun _ => []) (fun _ => []) (fun n => 1 ≤ n ∧ n ≤ 4 ∧ ∀ m, 1 ≤ m → m < n → m ≤ x.length → ¬ Hit x m) (fun n => 4 - n) 1 ⟨by omega, by omega, fun m h1 h2 => by omega⟩
    (Le.of (Nat.le_of_ble_eq_true rfl) (Nat.zero_le _) ⟨⟨rfl, rfl⟩, ⟨rfl, rfl⟩, trivial⟩ trivial fun h s => sub_same s) ?_⟩
  rintro n ⟨h1, h4, hm⟩
  rcases (show n = 1 ∨ n = 2 ∨ n = 3 ∨ n = 4 by omega) with rfl | rfl | rfl | rfl
  · conv => whnf
    refine ⟨fun _ => ?_, fun h => absurd h (by simp)⟩
    conv => whnf
    refine ⟨fun h5 => ?_, fun h5 => ?_⟩
    · have g5 : 1 ≤ x.length := by simp [bs_size] at h5; omega
      have hr := hit 1 g5
      have hn : ¬ Hit x 1 → ∀ m, 1 ≤ m → m < 1 + 1 → m ≤ x.length → ¬ Hit x m := fun h m h1 h2 h3 => by
        rcases Nat.lt_or_ge m 1 with c | c
        · exact hm m h1 c h3
        · rw [show m = 1 by omega]; exact h
      unfold Hit at hr hn
      conv => whnf
      repeat (first | (refine ⟨fun _ => ?_, fun h => absurd h (by decide)⟩; conv => whnf) | (refine ⟨fun h => absurd h (by decide), fun _ => ?_⟩; conv => whnf))
      rw [show byteAt (bs x) (Int.toNat 0) = candI x 1 from hb 0]
      have hc : -2147483648 ≤ candI x 1 ∧ candI x 1 ≤ 2147483647 := by have := xN_lt x 0; show -2147483648 ≤ xN x 0 ∧ xN x 0 ≤ 2147483647; omega
      generalize candI x 1 = r at *
      refine ⟨⟨⟨trivial, by rw [bs_size]; omega⟩, by unfold rng; omega⟩, ?_⟩
      have hrs := fun R' => sRSign (R := R') r
      by_cases hs : SignI r
      · rw [decide_eq_true hs] at hrs
        have hs2 := hs.2
        obtain ⟨c, rfl⟩ : ∃ c : Nat, r = (c : Int) := ⟨r.toNat, by have := hs.1; omega⟩
        rw [Int.toNat_natCast] at hr hn hs2
        refine RegAt.groups [([.T 0], 1), ([.H 1], 2), ([.T 2, .T 3, .T 6, .T 7, .T 8, .H 4, .H 5], 9), ([.T 9], 10), ([.T 10], 11)] hmix (by kernel_rfl) ?_
        conv => whnf
        refine ⟨trivial, CallAt.pure (fun R' hR' => hrs R') ?_⟩
        conv => whnf
        refine ⟨fun _ => ?_, fun h => absurd h (by simp)⟩
        conv => whnf
        refine ⟨⟨trivial, by omega, by omega, by rw [bs_size]; omega⟩, CallAt.fn (pre := []) _ (fun h s => s) (fun R' _ => sBytes hs2) ?_⟩
        rintro r hs' ⟨g, rfl, rfl⟩
        conv => whnf
        refine ⟨trivial, ⟨⟨rfl, rfl⟩, fun h s => sub_tail s⟩, ?_⟩
        conv => whnf
        refine ⟨trivial, OpAt.bytesStr g (utfN c).length (utfN c).length (utfN c) [] rfl (fun h s => s) rfl rfl rfl rfl rfl ?_⟩
        conv => whnf
        refine ⟨trivial, ⟨⟨rfl, rfl⟩, fun h s => sub_tail s⟩, ?_⟩
        conv => whnf
        refine ⟨trivial, ?_⟩
        conv => whnf
        have ex : (bs x).extract (Int.toNat 0) (Int.toNat ((1 : Nat) : Int)) = bs (x.take 1) := by rw [bs_extract]; rfl
        rw [ex]
        refine ⟨fun h6 => ?_, fun h6 => ?_⟩
        · have h6 := bs_inj.1 (of_decide_eq_true h6)
          rw [hr ⟨hs, h6⟩]
          conv => whnf
          exact ⟨trivial, fin_drop rfl⟩
        · have h6 : utfN c ≠ x.take 1 := fun e => by rw [e] at h6; simp at h6
          conv => whnf
          refine ⟨⟨trivial, by unfold rng; omega⟩, .mk 2 ⟨by omega, by omega, hn fun h => h6 h.2⟩ (by omega) (Le.of (Nat.le_of_ble_eq_true rfl) (Nat.zero_le _) ⟨⟨rfl, rfl⟩, ⟨rfl, rfl⟩, trivial⟩ trivial fun h s => sub_nil s)⟩
      · rw [decide_eq_false hs] at hrs
        refine RegAt.groups [([.T 0], 1), ([.H 1], 2), ([.T 2, .T 3, .T 6, .T 7, .T 8, .H 4, .H 5], 9), ([.T 9], 10), ([.T 10], 11)] hmix (by kernel_rfl) ?_
        conv => whnf
        refine ⟨trivial, CallAt.pure (fun R' hR' => hrs R') ?_⟩
        conv => whnf
        refine ⟨fun h => absurd h (by simp), fun _ => ?_⟩
        conv => whnf
        refine ⟨trivial, ⟨⟨rfl, rfl⟩, fun h s => sub_same s⟩, ?_⟩
        conv => whnf
        refine ⟨trivial, ⟨⟨rfl, rfl⟩, fun h s => sub_same s⟩, ?_⟩
        conv => whnf
        refine ⟨trivial, ?_⟩
        conv => whnf
        refine ⟨⟨trivial, by unfold rng; omega⟩, .mk 2 ⟨by omega, by omega, hn fun h => hs h.1⟩ (by omega) (Le.of (Nat.le_of_ble_eq_true rfl) (Nat.zero_le _) ⟨⟨rfl, rfl⟩, ⟨rfl, rfl⟩, trivial⟩ trivial fun h s => sub_nil s)⟩
    · have g5 : ¬ 1 ≤ x.length := by simp [bs_size] at h5; omega
      rw [miss fun n h1 h2 h3 => by omega]
      conv => whnf
      exact ⟨trivial, fin_pure rfl rfl⟩
  · conv => whnf
    refine ⟨fun _ => ?_, fun h => absurd h (by simp)⟩
    conv => whnf
    refine ⟨fun h5 => ?_, fun h5 => ?_⟩
    · have g5 : 2 ≤ x.length := by simp [bs_size] at h5; omega
      have hr := hit 2 g5
      have hn : ¬ Hit x 2 → ∀ m, 1 ≤ m → m < 2 + 1 → m ≤ x.length → ¬ Hit x m := fun h m h1 h2 h3 => by
        rcases Nat.lt_or_ge m 2 with c | c
        · exact hm m h1 c h3
        · rw [show m = 2 by omega]; exact h
      unfold Hit at hr hn
      conv => whnf
      repeat (first | (refine ⟨fun _ => ?_, fun h => absurd h (by decide)⟩; conv => whnf) | (refine ⟨fun h => absurd h (by decide), fun _ => ?_⟩; conv => whnf))
      refine ⟨trivial, RegAt.quiet hmix (by kernel_rfl) ?_⟩
      conv => whnf
      rw [show byteAt (bs x) (Int.toNat 0) = xN x 0 from hb 0, show byteAt (bs x) (Int.toNat 1) = xN x 1 from hb 1, show (xN x 0 - 192) * 64 + xN x 1 - 128 = candI x 2 from rfl]
      have b0 := xN_lt x 0
      have b1 := xN_lt x 1
      have hc : -2147483648 ≤ candI x 2 ∧ candI x 2 ≤ 2147483647 := by show -2147483648 ≤ (xN x 0 - 192) * 64 + xN x 1 - 128 ∧ (xN x 0 - 192) * 64 + xN x 1 - 128 ≤ 2147483647; omega
      generalize candI x 2 = r at *
      refine ⟨?_, ?_⟩
      · repeat' apply And.intro
        all_goals first | exact True.intro | (unfold rng; omega) | (rw [bs_size]; omega) | omega
      conv => whnf
      repeat (first | (refine ⟨fun _ => ?_, fun h => absurd h (by decide)⟩; conv => whnf) | (refine ⟨fun h => absurd h (by decide), fun _ => ?_⟩; conv => whnf))
      refine ⟨trivial, ?_⟩
      have hrs := fun R' => sRSign (R := R') r
      by_cases hs : SignI r
      · rw [decide_eq_true hs] at hrs
        have hs2 := hs.2
        obtain ⟨c, rfl⟩ : ∃ c : Nat, r = (c : Int) := ⟨r.toNat, by have := hs.1; omega⟩
        rw [Int.toNat_natCast] at hr hn hs2
        refine RegAt.groups [([.T 0], 1), ([.H 1], 2), ([.T 2, .T 3, .T 6, .T 7, .T 8, .H 4, .H 5], 9), ([.T 9], 10), ([.T 10], 11)] hmix (by kernel_rfl) ?_
        conv => whnf
        refine ⟨trivial, CallAt.pure (fun R' hR' => hrs R') ?_⟩
        conv => whnf
        refine ⟨fun _ => ?_, fun h => absurd h (by simp)⟩
        conv => whnf
        refine ⟨⟨trivial, by omega, by omega, by rw [bs_size]; omega⟩, CallAt.fn (pre := []) _ (fun h s => s) (fun R' _ => sBytes hs2) ?_⟩
        rintro r hs' ⟨g, rfl, rfl⟩
        conv => whnf
        refine ⟨trivial, ⟨⟨rfl, rfl⟩, fun h s => sub_tail s⟩, ?_⟩
        conv => whnf
        refine ⟨trivial, OpAt.bytesStr g (utfN c).length (utfN c).length (utfN c) [] rfl (fun h s => s) rfl rfl rfl rfl rfl ?_⟩
        conv => whnf
        refine ⟨trivial, ⟨⟨rfl, rfl⟩, fun h s => sub_tail s⟩, ?_⟩
        conv => whnf
        refine ⟨trivial, ?_⟩
        conv => whnf
        have ex : (bs x).extract (Int.toNat 0) (Int.toNat ((2 : Nat) : Int)) = bs (x.take 2) := by rw [bs_extract]; rfl
        rw [ex]
        refine ⟨fun h6 => ?_, fun h6 => ?_⟩
        · have h6 := bs_inj.1 (of_decide_eq_true h6)
          rw [hr ⟨hs, h6⟩]
          conv => whnf
          exact ⟨trivial, fin_drop rfl⟩
        · have h6 : utfN c ≠ x.take 2 := fun e => by rw [e] at h6; simp at h6
          conv => whnf
          refine ⟨⟨trivial, by unfold rng; omega⟩, .mk 3 ⟨by omega, by omega, hn fun h => h6 h.2⟩ (by omega) (Le.of (Nat.le_of_ble_eq_true rfl) (Nat.zero_le _) ⟨⟨rfl, rfl⟩, ⟨rfl, rfl⟩, trivial⟩ trivial fun h s => sub_nil s)⟩
      · rw [decide_eq_false hs] at hrs
        refine RegAt.groups [([.T 0], 1), ([.H 1], 2), ([.T 2, .T 3, .T 6, .T 7, .T 8, .H 4, .H 5], 9), ([.T 9], 10), ([.T 10], 11)] hmix (by kernel_rfl) ?_
        conv => whnf
        refine ⟨trivial, CallAt.pure (fun R' hR' => hrs R') ?_⟩
        conv => whnf
        refine ⟨fun h => absurd h (by simp), fun _ => ?_⟩
        conv => whnf
        refine ⟨trivial, ⟨⟨rfl, rfl⟩, fun h s => sub_same s⟩, ?_⟩
        conv => whnf
        refine ⟨trivial, ⟨⟨rfl, rfl⟩, fun h s => sub_same s⟩, ?_⟩
        conv => whnf
        refine ⟨trivial, ?_⟩
        conv => whnf
        refine ⟨⟨trivial, by unfold rng; omega⟩, .mk 3 ⟨by omega, by omega, hn fun h => hs h.1⟩ (by omega) (Le.of (Nat.le_of_ble_eq_true rfl) (Nat.zero_le _) ⟨⟨rfl, rfl⟩, ⟨rfl, rfl⟩, trivial⟩ trivial fun h s => sub_nil s)⟩
    · have g5 : ¬ 2 ≤ x.length := by simp [bs_size] at h5; omega
      rw [miss fun n h1 h2 h3 => hm n h1 (by omega) h3]
      conv => whnf
      exact ⟨trivial, fin_pure rfl rfl⟩
  · conv => whnf
    refine ⟨fun _ => ?_, fun h => absurd h (by simp)⟩
    conv => whnf
    refine ⟨fun h5 => ?_, fun h5 => ?_⟩
    · have g5 : 3 ≤ x.length := by simp [bs_size] at h5; omega
      have hr := hit 3 g5
      have hn : ¬ Hit x 3 → ∀ m, 1 ≤ m → m < 3 + 1 → m ≤ x.length → ¬ Hit x m := fun h m h1 h2 h3 => by
        rcases Nat.lt_or_ge m 3 with c | c
        · exact hm m h1 c h3
        · rw [show m = 3 by omega]; exact h
      unfold Hit at hr hn
      conv => whnf
      repeat (first | (refine ⟨fun _ => ?_, fun h => absurd h (by decide)⟩; conv => whnf) | (refine ⟨fun h => absurd h (by decide), fun _ => ?_⟩; conv => whnf))
      refine ⟨trivial, RegAt.quiet hmix (by kernel_rfl) ?_⟩
      conv => whnf
      rw [show byteAt (bs x) (Int.toNat 0) = xN x 0 from hb 0, show byteAt (bs x) (Int.toNat 1) = xN x 1 from hb 1, show byteAt (bs x) (Int.toNat 2) = xN x 2 from hb 2, show (xN x 0 - 224) * 4096 + (xN x 1 - 128) * 64 + xN x 2 - 128 = candI x 3 from rfl]
      have b0 := xN_lt x 0
      have b1 := xN_lt x 1
      have b2 := xN_lt x 2
      have hc : -2147483648 ≤ candI x 3 ∧ candI x 3 ≤ 2147483647 := by show -2147483648 ≤ (xN x 0 - 224) * 4096 + (xN x 1 - 128) * 64 + xN x 2 - 128 ∧ (xN x 0 - 224) * 4096 + (xN x 1 - 128) * 64 + xN x 2 - 128 ≤ 2147483647; omega
      generalize candI x 3 = r at *
      refine ⟨?_, ?_⟩
      · repeat' apply And.intro
        all_goals first | exact True.intro | (unfold rng; omega) | (rw [bs_size]; omega) | omega
      conv => whnf
      repeat (first | (refine ⟨fun _ => ?_, fun h => absurd h (by decide)⟩; conv => whnf) | (refine ⟨fun h => absurd h (by decide), fun _ => ?_⟩; conv => whnf))
      refine ⟨trivial, ?_⟩
      have hrs := fun R' => sRSign (R := R') r
      by_cases hs : SignI r
      · rw [decide_eq_true hs] at hrs
        have hs2 := hs.2
        obtain ⟨c, rfl⟩ : ∃ c : Nat, r = (c : Int) := ⟨r.toNat, by have := hs.1; omega⟩
        rw [Int.toNat_natCast] at hr hn hs2
        refine RegAt.groups [([.T 0], 1), ([.H 1], 2), ([.T 2, .T 3, .T 6, .T 7, .T 8, .H 4, .H 5], 9), ([.T 9], 10), ([.T 10], 11)] hmix (by kernel_rfl) ?_
        conv => whnf
        refine ⟨trivial, CallAt.pure (fun R' hR' => hrs R') ?_⟩
        conv => whnf
        refine ⟨fun _ => ?_, fun h => absurd h (by simp)⟩
        conv => whnf
        refine ⟨⟨trivial, by omega, by omega, by rw [bs_size]; omega⟩, CallAt.fn (pre := []) _ (fun h s => s) (fun R' _ => sBytes hs2) ?_⟩
        rintro r hs' ⟨g, rfl, rfl⟩
        conv => whnf
        refine ⟨trivial, ⟨⟨rfl, rfl⟩, fun h s => sub_tail s⟩, ?_⟩
        conv => whnf
        refine ⟨trivial, OpAt.bytesStr g (utfN c).length (utfN c).length (utfN c) [] rfl (fun h s => s) rfl rfl rfl rfl rfl ?_⟩
        conv => whnf
        refine ⟨trivial, ⟨⟨rfl, rfl⟩, fun h s => sub_tail s⟩, ?_⟩
        conv => whnf
        refine ⟨trivial, ?_⟩
        conv => whnf
        have ex : (bs x).extract (Int.toNat 0) (Int.toNat ((3 : Nat) : Int)) = bs (x.take 3) := by rw [bs_extract]; rfl
        rw [ex]
        refine ⟨fun h6 => ?_, fun h6 => ?_⟩
        · have h6 := bs_inj.1 (of_decide_eq_true h6)
          rw [hr ⟨hs, h6⟩]
          conv => whnf
          exact ⟨trivial, fin_drop rfl⟩
        · have h6 : utfN c ≠ x.take 3 := fun e => by rw [e] at h6; simp at h6
          conv => whnf
          refine ⟨⟨trivial, by unfold rng; omega⟩, .mk 4 ⟨by omega, by omega, hn fun h => h6 h.2⟩ (by omega) (Le.of (Nat.le_of_ble_eq_true rfl) (Nat.zero_le _) ⟨⟨rfl, rfl⟩, ⟨rfl, rfl⟩, trivial⟩ trivial fun h s => sub_nil s)⟩
      · rw [decide_eq_false hs] at hrs
        refine RegAt.groups [([.T 0], 1), ([.H 1], 2), ([.T 2, .T 3, .T 6, .T 7, .T 8, .H 4, .H 5], 9), ([.T 9], 10), ([.T 10], 11)] hmix (by kernel_rfl) ?_
        conv => whnf
        refine ⟨trivial, CallAt.pure (fun R' hR' => hrs R') ?_⟩
        conv => whnf
        refine ⟨fun h => absurd h (by simp), fun _ => ?_⟩
        conv => whnf
        refine ⟨trivial, ⟨⟨rfl, rfl⟩, fun h s => sub_same s⟩, ?_⟩
        conv => whnf
        refine ⟨trivial, ⟨⟨rfl, rfl⟩, fun h s => sub_same s⟩, ?_⟩
        conv => whnf
        refine ⟨trivial, ?_⟩
        conv => whnf
        refine ⟨⟨trivial, by unfold rng; omega⟩, .mk 4 ⟨by omega, by omega, hn fun h => hs h.1⟩ (by omega) (Le.of (Nat.le_of_ble_eq_true rfl) (Nat.zero_le _) ⟨⟨rfl, rfl⟩, ⟨rfl, rfl⟩, trivial⟩ trivial fun h s => sub_nil s)⟩
    · have g5 : ¬ 3 ≤ x.length := by simp [bs_size] at h5; omega
      rw [miss fun n h1 h2 h3 => hm n h1 (by omega) h3]
      conv => whnf
      exact ⟨trivial, fin_pure rfl rfl⟩
  · conv => whnf
    refine ⟨fun h => absurd h (by simp), fun _ => ?_⟩
    conv => whnf
    rw [miss fun n h1 h2 h3 => hm n h1 (by omega) h3]
    exact ⟨trivial, fin_pure rfl rfl⟩
end Go.Proofs.YtkichbggmgppmaaDoor

/-
  The document's Read: the bands of a text.
-/
namespace Go.Proofs.YtkichbggmgppmaaDoor
open Go.RowKit
open Sy
set_option linter.unusedVariables false
set_option linter.unusedSimpArgs false
set_option maxRecDepth 100000
set_option maxHeartbeats 4000000

structure RdD where
  pre : List Bd
  n : Nat
  k : Nat
  A : Option Addr
  c : Nat
def postR (v : Option (List Bd)) (r : Value) (hs : List HP) : Prop := match v with
  | none => r = .tuple #[.slice none 0 0, .bool false] ∧ hs = []
  | some l => ∃ A c, r = .tuple #[.slice A l.length c, .bool true] ∧ hs = [bRow A l.length c l]
theorem rd_step (m : Nat) (x : List UInt8) : rd (m + 1) x = match bandH x with
    | none => none
    | some (b, k) => if k = x.length then some [b] else if x[k]? = some 44 then (rd m (x.drop (k + 1))).map (b :: ·) else none := rfl
theorem at_44 {s : List UInt8} {k : Nat} (hk : k < s.length) : (byteAt (bs s) k = 44) ↔ s[k]? = some 44 := by
  rw [byteAt_bs, List.getElem?_eq_getElem hk]
  simp only [Option.getD_some, Option.some.injEq]
  exact u8_is 44
theorem bandH_at {s : List UInt8} {k0 k : Nat} {n : Int} (hk : k0 ≤ s.length) (hy : scan (s.drop k0) 0 = (n, (k : Int), 0)) : bandH (s.drop k0) = if k0 + k < s.length ∧ s[k0 + k]? = some 58 ∧ (runeV (s.drop (k0 + k + 1))).2 ≠ 0 then some (⟨n, (runeV (s.drop (k0 + k + 1))).1⟩, k + 1 + (runeV (s.drop (k0 + k + 1))).2) else none := by
  unfold bandH
  rw [hy]
  simp only [Int.toNat_natCast, List.length_drop, List.getElem?_drop, List.drop_drop]
  rw [show k0 + (k + 1) = k0 + k + 1 by omega]
  by_cases c : k0 + k < s.length ∧ s[k0 + k]? = some 58 ∧ (runeV (s.drop (k0 + k + 1))).2 ≠ 0
  · rw [if_pos c, if_pos ⟨trivial, by omega, c.2⟩]
  · rw [if_neg c, if_neg fun h => c ⟨by omega, h.2.2⟩]
theorem sRRead33 {R : HP} {s : List UInt8} (hl : s.length ≤ 1048576) : FnR Tryd.prog R 25 [.string (bs s)] [] (postR (refV s)) := by
  have hN : rd 13 s = none → refV s = none := fun h => by unfold refV; rw [h]
  have hS : ∀ l, rd 13 s = some l → refV s = if RightL l then some l else none := fun l h => by unfold refV; rw [h]
  generalize refV s = v at *
  refine fn_of_run0 false Tryd.func25 rfl hmix rfl fun w0 => ?_
  conv => whnf
  refine ⟨trivial, OpAt.lit [] 2 rfl rfl rfl rfl rfl (by decide) rfl rfl rfl (by simp [Value.cells]) rfl (by decide) fun g0 => ?_⟩
  conv => whnf
  refine ⟨trivial, LoopAt.of (α := RdD) [0] (fun a => [(4, .v (.slice a.A a.n a.c)), (5, .v (.int .i64 (a.k : Int)))]) (fun _ => []) (fun a => [bRow a.A a.n a.c a.pre]) (fun a => a.pre.length = a.n ∧ a.n ≤ 13 ∧ a.k ≤ s.length ∧ rd 13 s = (rd (13 - a.n) (s.drop a.k)).map (a.pre ++ ·)) (fun a => 13 - a.n) ⟨[], 0, 0, some ⟨g0, 0, none⟩, 0⟩ ⟨rfl, by simp, by simp, by simp⟩
    (Le.of (Nat.le_of_ble_eq_true rfl) (Nat.zero_le _) ⟨⟨rfl, rfl⟩, ⟨rfl, rfl⟩, ⟨rfl, rfl⟩, trivial⟩ trivial fun h s => sub_same s) ?_⟩
  rintro ⟨pre, N, k0, A, c⟩ ⟨h0, h1, h2, h3⟩
  simp only at h0 h1 h2 h3
  have hsh := scan_shift s h2
  have hsc := fun R' => sRefScan (R := R') s hl (k0 : Int)
  rcases hy : scan (s.drop k0) 0 with ⟨n, e, q⟩
  rw [hy] at hsh
  conv => whnf
  refine ⟨fun h => ?_, fun h => ?_⟩
  · have g : N < 13 := by simp at h; omega
    obtain ⟨m, hm⟩ : ∃ m, 13 - N = m + 1 := ⟨12 - N, by omega⟩
    rw [hm, rd_step m] at h3
    by_cases hq : q = 0
    · subst hq
      rw [if_pos rfl] at hsh
      simp only at hsh
      rw [hsh] at hsc
      obtain ⟨k, rfl, hk, ht, hb⟩ := scan_fine hy
      rw [List.length_drop] at hk
      have hbh := bandH_at h2 hy
      rw [show (k0 : Int) + (k : Int) = ((k0 + k : Nat) : Int) by omega] at hsc
      by_cases hk2 : k0 + k < s.length
      · by_cases h58 : s[k0 + k]? = some 58
        · have hb58 := (at_is hk2).2 h58
          have hlz : (s.drop (k0 + k + 1)).length = s.length - (k0 + k + 1) := List.length_drop
          have hru := fun R' => sRune33 (R := R') (s.drop (k0 + k + 1)) (by omega)
          have hrs := fun r j h hj => (runeV_some (x := s.drop (k0 + k + 1)) (r := r) (k := j) h hj).2.2
          have hex : (bs s).extract (((k0 + k : Nat) : Int) + 1).toNat ((bs s).size : Int).toNat = bs (s.drop (k0 + k + 1)) := by
            rw [bs_extract, show (((k0 + k : Nat) : Int) + 1).toNat = k0 + k + 1 by omega, Int.toNat_natCast, bs_size, List.take_length]
          rcases hr : runeV (s.drop (k0 + k + 1)) with ⟨r, j⟩
          rw [hr] at hbh hru
          have hrs := hrs r j hr
          simp only at hbh hru
          generalize s.drop (k0 + k + 1) = z at *
          by_cases hj : j = 0
          · rw [hbh, if_neg fun c => c.2.2 hj] at h3
            rw [hN h3]
            conv => whnf
            refine ⟨trivial, CallAt.pure (fun R' hR' => hsc R') ?_⟩
            conv => whnf
            refine ⟨fun _ => ?_, fun h => absurd h (by simp)⟩
            conv => whnf
            refine ⟨fun _ => ?_, fun h => absurd h (by simp; omega)⟩
            conv => whnf
            refine ⟨fun h => absurd h (by rw [Int.toNat_natCast]; simp [hb58]), fun _ => ?_⟩
            conv => whnf
            rw [hex]
            refine ⟨?_, CallAt.pure (fun R' hR' => hru R') ?_⟩
            · repeat' apply And.intro
              all_goals first | exact True.intro | (unfold rng; omega) | (dsimp only; unfold rng; omega) | omega | (dsimp only; omega) | (rw [bs_size]; omega) | (dsimp only; rw [bs_size]; omega)
            conv => whnf
            refine ⟨fun _ => ?_, fun h => absurd h (by simp; omega)⟩
            conv => whnf
            exact ⟨trivial, fin_drop rfl⟩
          · have hjl := hrs hj
            rw [hbh, if_pos ⟨hk2, h58, hj⟩] at h3
            simp only [List.length_drop, List.getElem?_drop, List.drop_drop] at h3
            rw [show k0 + (k + 1 + j) = k0 + k + 1 + j by omega, show k0 + (k + 1 + j + 1) = k0 + k + 1 + j + 1 by omega] at h3
            by_cases he : k0 + k + 1 + j = s.length
            · rw [if_pos (by omega)] at h3
              have hv := hS _ h3
              have hlen : (pre ++ [(⟨n, r⟩ : Bd)]).length = N + 1 := by simp [h0]
              have hgr := fun R' A c h => sRRight (R := R') (A := A) (n := N + 1) (c := c) (l := pre ++ [⟨n, r⟩]) (by omega) h
              by_cases hR : RightL (pre ++ [⟨n, r⟩])
              · rw [if_pos hR] at hv
                rw [decide_eq_true hR] at hgr
                rw [hv]
                conv => whnf
                refine ⟨trivial, CallAt.pure (fun R' hR' => hsc R') ?_⟩
                conv => whnf
                refine ⟨fun _ => ?_, fun h => absurd h (by simp)⟩
                conv => whnf
                refine ⟨fun _ => ?_, fun h => absurd h (by simp; omega)⟩
                conv => whnf
                refine ⟨fun h => absurd h (by rw [Int.toNat_natCast]; simp [hb58]), fun _ => ?_⟩
                conv => whnf
                rw [hex]
                refine ⟨?_, CallAt.pure (fun R' hR' => hru R') ?_⟩
                · repeat' apply And.intro
                  all_goals first | exact True.intro | (unfold rng; omega) | (dsimp only; unfold rng; omega) | omega | (dsimp only; omega) | (rw [bs_size]; omega) | (dsimp only; rw [bs_size]; omega)
                conv => whnf
                refine ⟨fun h => absurd h (by simp; omega), fun _ => ?_⟩
                conv => whnf
                refine ⟨trivial, OpAt.lit [.agg #[.int .i64 n, .int .i32 r]] 2 rfl rfl rfl rfl rfl (by decide) rfl rfl rfl (by simp [Value.cells]) rfl (by decide) fun g2 => ?_⟩
                conv => whnf
                refine ⟨trivial, OpAt.append (.slice A N c) N 2 16 (bcel pre) (bcel [⟨n, r⟩]) (some ⟨g2, 0, none⟩) 1 1 _ rfl (fun h s => sepL_pull 1 s) rfl rfl rfl rfl rfl rfl rfl rfl rfl (by decide) (fun w hw => rowH_reads rfl (Sat.left hw)) (by simp [bcel, bdC, Value.oneCell']) (by simp only [maxLen]; omega) (by omega) fun A' c' => ?_⟩
                conv => whnf
                rw [← bcel_append]
                refine ⟨fun _ => ?_, fun h => absurd h (by simp [bs_size]; omega)⟩
                conv => whnf
                refine ⟨?_, CallAt.pure (fun R' hR' => hgr R' A' c' (Sl.row fun w s => (hR' w s).in_ 0 rfl)) ?_⟩
                · repeat' apply And.intro
                  all_goals first | exact True.intro | omega | (dsimp only; omega) | (rw [bs_size]; omega) | (dsimp only; rw [bs_size]; omega)
                conv => whnf
                refine iff_f rfl ?_
                conv => whnf
                refine ⟨trivial, .mk [bRow A' (N + 1) c' (pre ++ [⟨n, r⟩])] (fun w ⟨h, h1, s⟩ => ?_) ⟨A', c', ?_, ?_⟩⟩
                · obtain ⟨h', e, s'⟩ := sub_head s
                  exact ⟨h', h1.mono e, s'⟩
                · rw [hlen]; rfl
                · rw [hlen]
              · rw [if_neg hR] at hv
                rw [decide_eq_false hR] at hgr
                rw [hv]
                conv => whnf
                refine ⟨trivial, CallAt.pure (fun R' hR' => hsc R') ?_⟩
                conv => whnf
                refine ⟨fun _ => ?_, fun h => absurd h (by simp)⟩
                conv => whnf
                refine ⟨fun _ => ?_, fun h => absurd h (by simp; omega)⟩
                conv => whnf
                refine ⟨fun h => absurd h (by rw [Int.toNat_natCast]; simp [hb58]), fun _ => ?_⟩
                conv => whnf
                rw [hex]
                refine ⟨?_, CallAt.pure (fun R' hR' => hru R') ?_⟩
                · repeat' apply And.intro
                  all_goals first | exact True.intro | (unfold rng; omega) | (dsimp only; unfold rng; omega) | omega | (dsimp only; omega) | (rw [bs_size]; omega) | (dsimp only; rw [bs_size]; omega)
                conv => whnf
                refine ⟨fun h => absurd h (by simp; omega), fun _ => ?_⟩
                conv => whnf
                refine ⟨trivial, OpAt.lit [.agg #[.int .i64 n, .int .i32 r]] 2 rfl rfl rfl rfl rfl (by decide) rfl rfl rfl (by simp [Value.cells]) rfl (by decide) fun g2 => ?_⟩
                conv => whnf
                refine ⟨trivial, OpAt.append (.slice A N c) N 2 16 (bcel pre) (bcel [⟨n, r⟩]) (some ⟨g2, 0, none⟩) 1 1 _ rfl (fun h s => sepL_pull 1 s) rfl rfl rfl rfl rfl rfl rfl rfl rfl (by decide) (fun w hw => rowH_reads rfl (Sat.left hw)) (by simp [bcel, bdC, Value.oneCell']) (by simp only [maxLen]; omega) (by omega) fun A' c' => ?_⟩
                conv => whnf
                rw [← bcel_append]
                refine ⟨fun _ => ?_, fun h => absurd h (by simp [bs_size]; omega)⟩
                conv => whnf
                refine ⟨?_, CallAt.pure (fun R' hR' => hgr R' A' c' (Sl.row fun w s => (hR' w s).in_ 0 rfl)) ?_⟩
                · repeat' apply And.intro
                  all_goals first | exact True.intro | omega | (dsimp only; omega) | (rw [bs_size]; omega) | (dsimp only; rw [bs_size]; omega)
                conv => whnf
                refine iff_t rfl ?_
                conv => whnf
                exact ⟨trivial, fin_drop rfl⟩
            · rw [if_neg (by omega)] at h3
              by_cases h44 : s[k0 + k + 1 + j]? = some 44
              · have hb44 := (at_44 (show k0 + k + 1 + j < s.length by omega)).2 h44
                rw [if_pos h44] at h3
                conv => whnf
                refine ⟨trivial, CallAt.pure (fun R' hR' => hsc R') ?_⟩
                conv => whnf
                refine ⟨fun _ => ?_, fun h => absurd h (by simp)⟩
                conv => whnf
                refine ⟨fun _ => ?_, fun h => absurd h (by simp; omega)⟩
                conv => whnf
                refine ⟨fun h => absurd h (by rw [Int.toNat_natCast]; simp [hb58]), fun _ => ?_⟩
                conv => whnf
                rw [hex]
                refine ⟨?_, CallAt.pure (fun R' hR' => hru R') ?_⟩
                · repeat' apply And.intro
                  all_goals first | exact True.intro | (unfold rng; omega) | (dsimp only; unfold rng; omega) | omega | (dsimp only; omega) | (rw [bs_size]; omega) | (dsimp only; rw [bs_size]; omega)
                conv => whnf
                refine ⟨fun h => absurd h (by simp; omega), fun _ => ?_⟩
                conv => whnf
                refine ⟨trivial, OpAt.lit [.agg #[.int .i64 n, .int .i32 r]] 2 rfl rfl rfl rfl rfl (by decide) rfl rfl rfl (by simp [Value.cells]) rfl (by decide) fun g2 => ?_⟩
                conv => whnf
                refine ⟨trivial, OpAt.append (.slice A N c) N 2 16 (bcel pre) (bcel [⟨n, r⟩]) (some ⟨g2, 0, none⟩) 1 1 _ rfl (fun h s => sepL_pull 1 s) rfl rfl rfl rfl rfl rfl rfl rfl rfl (by decide) (fun w hw => rowH_reads rfl (Sat.left hw)) (by simp [bcel, bdC, Value.oneCell']) (by simp only [maxLen]; omega) (by omega) fun A' c' => ?_⟩
                conv => whnf
                rw [← bcel_append]
                refine ⟨fun h => absurd h (by simp [bs_size]; omega), fun _ => ?_⟩
                conv => whnf
                refine ⟨fun h => absurd h (by (try dsimp only); rw [show (((k0 + k : Nat) : Int) + 1 + (j : Int)).toNat = k0 + k + 1 + j by omega]; simp [hb44]), fun _ => ?_⟩
                conv => whnf
                refine ⟨?_, .mk ⟨pre ++ [⟨n, r⟩], N + 1, k0 + k + 1 + j + 1, A', c'⟩ ⟨by simp [h0], by simp only; omega, by simp only; omega, ?_⟩ (by simp only; omega) (Le.of (Nat.le_of_ble_eq_true rfl) (Nat.zero_le _) ⟨⟨rfl, rfl⟩, ⟨rfl, rfl⟩, ⟨rfl, rfl⟩, trivial⟩ trivial fun h s => sub_head s)⟩
                · repeat' apply And.intro
                  all_goals first | exact True.intro | omega | (dsimp only; omega) | (rw [bs_size]; omega) | (dsimp only; rw [bs_size]; omega)
                · simp only
                  rw [h3, show 13 - (N + 1) = m by omega, Option.map_map]
                  congr 1
                  funext l
                  simp
              · have hb44 : ¬ byteAt (bs s) (k0 + k + 1 + j) = 44 := fun c => h44 ((at_44 (show k0 + k + 1 + j < s.length by omega)).1 c)
                rw [if_neg h44] at h3
                rw [hN h3]
                conv => whnf
                refine ⟨trivial, CallAt.pure (fun R' hR' => hsc R') ?_⟩
                conv => whnf
                refine ⟨fun _ => ?_, fun h => absurd h (by simp)⟩
                conv => whnf
                refine ⟨fun _ => ?_, fun h => absurd h (by simp; omega)⟩
                conv => whnf
                refine ⟨fun h => absurd h (by rw [Int.toNat_natCast]; simp [hb58]), fun _ => ?_⟩
                conv => whnf
                rw [hex]
                refine ⟨?_, CallAt.pure (fun R' hR' => hru R') ?_⟩
                · repeat' apply And.intro
                  all_goals first | exact True.intro | (unfold rng; omega) | (dsimp only; unfold rng; omega) | omega | (dsimp only; omega) | (rw [bs_size]; omega) | (dsimp only; rw [bs_size]; omega)
                conv => whnf
                refine ⟨fun h => absurd h (by simp; omega), fun _ => ?_⟩
                conv => whnf
                refine ⟨trivial, OpAt.lit [.agg #[.int .i64 n, .int .i32 r]] 2 rfl rfl rfl rfl rfl (by decide) rfl rfl rfl (by simp [Value.cells]) rfl (by decide) fun g2 => ?_⟩
                conv => whnf
                refine ⟨trivial, OpAt.append (.slice A N c) N 2 16 (bcel pre) (bcel [⟨n, r⟩]) (some ⟨g2, 0, none⟩) 1 1 _ rfl (fun h s => sepL_pull 1 s) rfl rfl rfl rfl rfl rfl rfl rfl rfl (by decide) (fun w hw => rowH_reads rfl (Sat.left hw)) (by simp [bcel, bdC, Value.oneCell']) (by simp only [maxLen]; omega) (by omega) fun A' c' => ?_⟩
                conv => whnf
                rw [← bcel_append]
                refine ⟨fun h => absurd h (by simp [bs_size]; omega), fun _ => ?_⟩
                conv => whnf
                refine ⟨fun _ => ?_, fun h => absurd h (by (try dsimp only); rw [show (((k0 + k : Nat) : Int) + 1 + (j : Int)).toNat = k0 + k + 1 + j by omega]; simp [hb44])⟩
                conv => whnf
                refine ⟨?_, fin_drop rfl⟩
                repeat' apply And.intro
                all_goals first | exact True.intro | omega | (dsimp only; omega) | (rw [bs_size]; omega) | (dsimp only; rw [bs_size]; omega)
        · have hb58 : ¬ byteAt (bs s) (k0 + k) = 58 := fun c => h58 ((at_is hk2).1 c)
          rw [hbh, if_neg fun c => h58 c.2.1] at h3
          rw [hN h3]
          conv => whnf
          refine ⟨trivial, CallAt.pure (fun R' hR' => hsc R') ?_⟩
          conv => whnf
          refine ⟨fun _ => ?_, fun h => absurd h (by simp)⟩
          conv => whnf
          refine ⟨fun _ => ?_, fun h => absurd h (by simp; omega)⟩
          conv => whnf
          refine ⟨fun _ => ?_, fun h => absurd h (by rw [Int.toNat_natCast]; simp [hb58])⟩
          conv => whnf
          exact ⟨⟨trivial, by dsimp only; omega, by dsimp only; rw [bs_size]; omega⟩, fin_drop rfl⟩
      · rw [hbh, if_neg fun c => hk2 c.1] at h3
        rw [hN h3]
        conv => whnf
        refine ⟨trivial, CallAt.pure (fun R' hR' => hsc R') ?_⟩
        conv => whnf
        refine ⟨fun _ => ?_, fun h => absurd h (by simp)⟩
        conv => whnf
        refine ⟨fun h => absurd h (by simp; omega), fun _ => ?_⟩
        conv => whnf
        exact ⟨trivial, fin_drop rfl⟩
    · rw [if_neg hq] at hsh
      rw [hsh] at hsc
      have hbn : bandH (s.drop k0) = none := by
        unfold bandH
        rw [hy, if_neg]
        rintro ⟨h, _⟩
        exact hq h
      rw [hbn] at h3
      rw [hN h3]
      conv => whnf
      refine ⟨trivial, CallAt.pure (fun R' hR' => hsc R') ?_⟩
      conv => whnf
      refine ⟨fun h => absurd h (by simpa using hq), fun _ => ?_⟩
      conv => whnf
      exact ⟨trivial, fin_drop rfl⟩
  · have g : N = 13 := by simp at h; omega
    rw [g] at h3
    rw [hN h3]
    conv => whnf
    exact ⟨trivial, fin_drop rfl⟩
end Go.Proofs.YtkichbggmgppmaaDoor

/-
  Any text is a legend's as the document says, or there is its error: the walk of TintReads.
-/
namespace Go.Proofs.YtkichbggmgppmaaDoor
open Go.RowKit
open Sy
set_option linter.unusedVariables false
set_option linter.unusedSimpArgs false
set_option maxRecDepth 100000
set_option maxHeartbeats 4000000

theorem TintReads_walk (s : List UInt8) (w : World) (hW : ReadW w) (_ : s.length ≤ maxLen) :
    Calls Tryd.prog 5 #[.string (bs s)] w fun e w' => e = .returned (.bool true) ∧ Below w.heap.size w w' := by
  refine PureR.below (args := [.string (bs s)]) ?_
  have hRW : ∀ R' : HP, (∀ w', Sat R' w' → Sat (was w) w') → ∀ w', Sat R' w' → ReadW w' := fun R' h w' s => ⟨numW_keep hW.1 (h w' s), maxW_was hW.2 (h w' s)⟩
  by_cases h400 : 400 < s.length
  · refine fn_of_run0 false Tryd.func5 rfl hmix rfl fun w0 => ?_
    conv => whnf
    refine ⟨trivial, CallAt.pure (fun R' hR' => sAwake33 (hRW R' hR')) ?_⟩
    conv => whnf
    refine iff_f rfl ?_
    conv => whnf
    refine iff_t (by simp [bs_size]; omega) ?_
    conv => whnf
    exact ⟨trivial, fin_pure rfl rfl⟩
  · have hrr := fun R' => sRRead33 (R := R') (s := s) (by omega)
    cases hv : refV s with
    | none =>
      rw [hv] at hrr
      have hrd := fun R' (h : ∀ w', Sat R' w' → Sat (was w) w') => sTReadNo (hRW R' h) (s := s) (by omega) ((readV_ref s).trans hv)
      refine fn_of_run0 false Tryd.func5 rfl hmix rfl fun w0 => ?_
      conv => whnf
      refine ⟨trivial, CallAt.pure (fun R' hR' => sAwake33 (hRW R' hR')) ?_⟩
      conv => whnf
      refine iff_f rfl ?_
      conv => whnf
      refine iff_f (by simp [bs_size]; omega) ?_
      conv => whnf
      refine ⟨trivial, CallAt.fn (pre := []) _ (fun h s => s) (fun R' hR' => hrd R' hR') ?_⟩
      rintro r hs ⟨rfl, rfl⟩
      conv => whnf
      refine ⟨trivial, CallAt.fn (pre := []) _ (fun h s => s) (fun R' hR' => hrr R') ?_⟩
      rintro r hs ⟨rfl, rfl⟩
      conv => whnf
      refine iff_t rfl ?_
      conv => whnf
      repeat (first | (refine ⟨fun _ => ?_, fun h => absurd h (by decide)⟩; conv => whnf) | (refine ⟨fun h => absurd h (by decide), fun _ => ?_⟩; conv => whnf))
      exact ⟨trivial, fin_drop rfl⟩
    | some l =>
      rw [hv] at hrr
      obtain ⟨hR, hst⟩ := refV_iff.1 hv
      have hl12 := hR.2.1
      have hrd := fun R' (h : ∀ w', Sat R' w' → Sat (was w) w') => sTRead (hRW R' h) (s := s) ((readV_ref s).trans hv)
      have hpr := fun R' A n c (h : ∀ w', Sat R' w' → Sat (was w) w') (h1 : n ≤ 9223372036854775807) (h2 : n ≤ c) (h3 : Sl R' A n 2 (bcel l)) => sTPrint (fun w' s => (hRW R' h w' s).1) h1 h2 h3 hR
      rw [← hst] at hpr
      obtain ⟨n, hn⟩ : ∃ n, n = l.length := ⟨_, rfl⟩
      rw [← hn] at hl12
      refine fn_of_run0 false Tryd.func5 rfl hmix rfl fun w0 => ?_
      conv => whnf
      refine ⟨trivial, CallAt.pure (fun R' hR' => sAwake33 (hRW R' hR')) ?_⟩
      conv => whnf
      refine iff_f rfl ?_
      conv => whnf
      refine iff_f (by simp [bs_size]; omega) ?_
      conv => whnf
      refine ⟨trivial, CallAt.fn (pre := []) _ (fun h s => s) (fun R' hR' => hrd R' hR') ?_⟩
      rintro r hs ⟨A, c, rfl, rfl⟩
      rw [← hn]
      conv => whnf
      refine ⟨trivial, CallAt.fn (pre := []) _ (fun h s => s) (fun R' hR' => hrr R') ?_⟩
      rintro r hs ⟨B, d, rfl, rfl⟩
      rw [← hn]
      conv => whnf
      refine iff_f rfl ?_
      conv => whnf
      refine ⟨trivial, CallAt.pure (v := .tuple #[.string (bs s), .int .i64 0]) (fun R' hR' => PureR.of_sat fun w hs => ?_) ?_⟩
      · have hc := row_capB ((hR' w hs).in_ 1 rfl)
        exact hpr R' _ _ _ (fun w s => (hR' w s).rest) (by omega) hc (Sl.row fun w s => (hR' w s).in_ 1 rfl)
      conv => whnf
      refine ⟨fun _ => ?_, fun h => absurd h (by simp)⟩
      conv => whnf
      refine ⟨trivial, CallAt.pure (fun R' hR' => sSame33 (by omega) (Sl.row fun w s => (hR' w s).in_ 1 rfl) (Sl.row fun w s => (hR' w s).in_ 0 rfl)) ?_⟩
      conv => whnf
      repeat (first | (refine ⟨fun _ => ?_, fun h => absurd h (by decide)⟩; conv => whnf) | (refine ⟨fun h => absurd h (by decide), fun _ => ?_⟩; conv => whnf))
      refine ⟨trivial, fin_drop ?_⟩
      simp [mkRes]
end Go.Proofs.YtkichbggmgppmaaDoor

