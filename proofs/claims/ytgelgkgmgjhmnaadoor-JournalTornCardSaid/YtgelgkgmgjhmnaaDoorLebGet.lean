/-
  leb.Get and the document's own Get compute lebAt.
-/
import Derived.Test.YtgelgkgmgjhmnaaDoorRows
import Derived.Test.YtgelgkgmgjhmnaaDoorMem
import Derived.Test.YtgelgkgmgjhmnaaDoorPlain
import Derived.Test.YtgelgkgmgjhmnaaDoorLebGetPlain
import Derived.Deep.Light
namespace Go.Proofs.YtgelgkgmgjhmnaaDoor
open Go.RowKit
set_option linter.unusedVariables false

set_option maxHeartbeats 1000000 in
set_option maxRecDepth 100000 in
theorem Get_in (A : Option Addr) (n c : Nat) (l : List UInt8) (a : Nat) (w : World) (h : Bts w w.heap.size A n l) (hnc : n ≤ c) (hc : c ≤ 9223372036854775807) (ha : a ≤ n) (hn : n ≤ 140737488351232) :
    Calls Tryd.prog 33 #[.slice A n c, .int .i64 a] w fun e w' => e = .returned (getVal (lebAt l a)) ∧ w = w' := by
  have hlen := h.len
  subst hlen
  have hd0 : decide ((a : Int) < 0) = false := by simp
  have hd1 : decide (l.length < a) = false := by simp; omega
  by_cases hal : a < l.length
  · obtain ⟨b, off, rfl, hb, hcell⟩ := h.plain (by omega)
    have HC := Lib.hid hcell
    clear hcell
    go_enter Tryd.func33, Tryd.ntmps33
    go_wp2
    go_loop [7, 8, 9, 22] (fun u i x t => ∃ (k q : Nat), k ≤ 9 ∧ a + k ≤ l.length ∧ t = .int .i64 k ∧ u = .int .u64 q ∧ q < 128 ^ k ∧ Hid (lebGet (l.drop a) 0 0 = lebGet (l.drop (a + k)) k q)) (fun _ _ _ t => l.length - (intOf t).toNat)
    case atStart => exact ⟨0, 0, by omega, by omega, rfl, rfl, by simp, by simp [Hid]⟩
    case round =>
      obtain ⟨k, q, hk, hak, rfl, rfl, hq, hrel⟩ := hrel
      by_cases hlt : a + k < l.length
      · obtain ⟨x, hx⟩ : ∃ x : Nat, x = l[a + k].toNat := ⟨_, rfl⟩
        have hcx : w.cell? ⟨b, off + a + k, none⟩ = some (.int .u8 (x : Int)) := by rw [hx, Nat.add_assoc]; exact HC.out (a + k) hlt
        have hx8 : x < 256 := by rw [hx]; exact UInt8.toNat_lt _
        have hgc := get_cons (k := k) (q := q) hlt hx
        have HG := Lib.hid hgc
        clear hx hgc
        by_cases c9 : k = 9 ∧ 1 < x
        · have c9a : 9 ≤ k := by omega
          have c9b : 1 < x := c9.2
          have HE := Lib.hid (lebAt_of ha ((hrel.out.trans HG.out).trans (if_pos c9)))
          clear c9 HG
          go_wp2
          go_ret3
          exact ⟨by rw [HE.out]; rfl, rfl⟩
        · by_cases c128 : x < 128
          · by_cases c0 : x = 0 ∧ 0 < k
            · have c0a : x ≤ 0 := by omega
              have c0b : 0 < k := c0.2
              have HE := Lib.hid (lebAt_of ha ((hrel.out.trans HG.out).trans ((if_neg c9).trans ((if_pos c128).trans (if_pos c0)))))
              clear c0 c9 HG
              go_wp2
              all_goals
                go_ret3
                exact ⟨by rw [HE.out]; rfl, rfl⟩
            · have HE := Lib.hid (lebAt_of ha ((hrel.out.trans HG.out).trans ((if_neg c9).trans ((if_pos c128).trans (if_neg c0)))))
              have HT := Lib.hid (get_text q x k hk hq hx8 (by omega))
              have e128 : x % 128 = x := by omega
              rw [e128] at HT
              have hcs : (k < 9 ∧ 0 < x) ∨ (9 ≤ k ∧ x ≤ 1 ∧ 0 < x) ∨ (x ≤ 0 ∧ k ≤ 0) := by omega
              clear HG c9 c0 e128
              rcases hcs with ⟨f1, f2⟩ | ⟨f1, f2, f3⟩ | ⟨f1, f2⟩
              · go_wp2
                go_ret3
                refine ⟨ret_get ?_ ?_ ?_, rfl⟩ <;> rw [HE.out] <;> rw [if_pos trivial]
                case refine_3 => rfl
                case refine_2 => go_light; simp only []; omega
                case refine_1 => exact HT.out
              · go_wp2
                go_ret3
                refine ⟨ret_get ?_ ?_ ?_, rfl⟩ <;> rw [HE.out] <;> rw [if_pos trivial]
                case refine_3 => rfl
                case refine_2 => go_light; simp only []; omega
                case refine_1 =>
                  have e9 : (2 : Int) ^ (7 * k) = 9223372036854775808 := by
                    have : k = 9 := by omega
                    subst this
                    simp
                  have t := HT.out
                  rw [e9] at t
                  exact t
              · go_wp2
                go_ret3
                refine ⟨ret_get ?_ ?_ ?_, rfl⟩ <;> rw [HE.out] <;> rw [if_pos trivial]
                case refine_3 => rfl
                case refine_2 => go_light; simp only []; omega
                case refine_1 =>
                  have e9 : ((x : Nat) : Int) = 0 := by omega
                  have t := HT.out
                  rw [e9] at t
                  exact t
          · have HE := Lib.hid (HG.out.trans ((if_neg c9).trans (if_neg c128)))
            have c9' : k < 9 := by omega
            have HT := Lib.hid (get_text q x k hk hq hx8 (by omega))
            obtain ⟨_, _, g3, g4⟩ := get_step q (x % 128) k hk hq (by omega) (by omega)
            have H4 := Lib.hid g4
            clear HG c9 g3 g4
            go_wp2
            all_goals
              go_round
              case rel =>
                go_light
                exact ⟨k + 1, q + x % 128 * 128 ^ k, by omega, by omega, by go_num, by rw [HT.out], H4.out, by rw [← Nat.add_assoc]; exact hrel.out.trans HE.out⟩
              case measure => simp [intOf]; omega
      · have HE := Lib.hid (lebAt_of ha (hrel.out.trans (get_nil hlt)))
        clear hrel
        go_wp2
        go_ret3
        exact ⟨by rw [HE.out]; rfl, rfl⟩
  · go_enter Tryd.func33, Tryd.ntmps33
    have HE := Lib.hid (lebAt_of ha (get_nil (k := 0) (q := 0) hal))
    go_wp2
    all_goals
      refine wp_loop_rounds 1 ?_
      rw [rounds_succ]
      go_wp2
      go_ret3
      exact ⟨by rw [HE.out]; rfl, rfl⟩

theorem lebAt_out {l : List UInt8} {a : Int} (h : ¬ (0 ≤ a ∧ a ≤ l.length)) : lebAt l a = (0, 0, 11) := by unfold lebAt; rw [if_neg h]

theorem Get_any (A : Option Addr) (n c : Nat) (l : List UInt8) (a : Int) (w : World) (h : Bts w w.heap.size A n l) (hnc : n ≤ c) (hc : c ≤ 9223372036854775807) (hn : n ≤ 140737488351232) :
    Calls Tryd.prog 33 #[.slice A n c, .int .i64 a] w fun e w' => e = .returned (getVal (lebAt l a)) ∧ w = w' := by
  have hlen := h.len
  by_cases h0 : 0 ≤ a ∧ a ≤ n
  · obtain ⟨k, rfl⟩ := Int.eq_ofNat_of_zero_le h0.1
    exact Get_in A n c l k w h hnc hc (by omega) hn
  · have HE := Lib.hid (lebAt_out (l := l) (a := a) (by omega))
    subst hlen
    rcases (show a < 0 ∨ (0 ≤ a ∧ (l.length : Int) < a) from by omega) with h1 | ⟨h1, h2⟩
    all_goals
      go_enter Tryd.func33, Tryd.ntmps33
      go_wp2
      go_ret3
      exact ⟨by rw [HE.out]; rfl, rfl⟩

set_option maxHeartbeats 1000000 in
set_option maxRecDepth 100000 in
theorem rGet_in (A : Option Addr) (n c : Nat) (l : List UInt8) (a : Nat) (w : World) (h : Bts w w.heap.size A n l) (hnc : n ≤ c) (hc : c ≤ 9223372036854775807) (ha : a ≤ n) (hn : n ≤ 140737488351232) :
    Calls Tryd.prog 34 #[.slice A n c, .int .i64 a] w fun e w' => e = .returned (getVal (lebAt l a)) ∧ w = w' := by
  have hlen := h.len
  subst hlen
  have hd0 : decide ((a : Int) < 0) = false := by simp
  have hd1 : decide (l.length < a) = false := by simp; omega
  go_enter Tryd.func34, Tryd.ntmps34
  go_wp2
  go_loop [7, 8, 9, 10] (fun u wt t x => ∃ (k q W : Nat), k ≤ 9 ∧ a + k ≤ l.length ∧ t = .int .i64 k ∧ u = .int .u64 q ∧ wt = .int .u64 W ∧ Hid (W = 128 ^ k) ∧ q < 128 ^ k ∧ Hid (lebGet (l.drop a) 0 0 = lebGet (l.drop (a + k)) k q)) (fun _ _ t _ => 10 - (intOf t).toNat)
  case atStart => exact ⟨0, 0, 1, by omega, by omega, rfl, rfl, rfl, by simp [Hid], by simp, by simp [Hid]⟩
  case round =>
    obtain ⟨k, q, W, hk, hak, rfl, rfl, rfl, HW, hq, hrel⟩ := hrel
    by_cases hlt : a + k < l.length
    · obtain ⟨b, off, rfl, hb, hcell⟩ := h.plain (by omega)
      obtain ⟨x, hx⟩ : ∃ x : Nat, x = l[a + k].toNat := ⟨_, rfl⟩
      have hcx : w.cell? ⟨b, off + (a + k), none⟩ = some (.int .u8 (x : Int)) := by rw [hx]; exact hcell (a + k) hlt
      have hx8 : x < 256 := by rw [hx]; exact UInt8.toNat_lt _
      have HG := Lib.hid (get_cons (k := k) (q := q) hlt hx)
      clear hx hcell
      by_cases c9 : k = 9 ∧ 1 < x
      · have c9a : 9 ≤ k := by omega
        have c9b : 1 < x := c9.2
        have HE := Lib.hid (lebAt_of ha ((hrel.out.trans HG.out).trans (if_pos c9)))
        clear c9 HG
        go_wp2
        go_ret3
        exact ⟨by rw [HE.out]; rfl, rfl⟩
      · by_cases c0 : x = 0 ∧ 0 < k
        · have c0a : x ≤ 0 := by omega
          have c0b : 0 < k := c0.2
          have hx0 : ((x : Int) == 0) = true := by rw [beq_iff_eq]; omega
          have HE := Lib.hid (lebAt_of ha ((hrel.out.trans HG.out).trans ((if_neg c9).trans ((if_pos (by omega)).trans (if_pos c0)))))
          clear c0 c9 HG
          go_wp2
          all_goals
            go_ret3
            exact ⟨by rw [HE.out]; rfl, rfl⟩
        · have HT := Lib.hid (rget_text q x k W hk hq HW.out (by omega))
          by_cases c128 : x < 128
          · have e128 : x % 128 = x := by omega
            rw [e128] at HT
            have HE := Lib.hid (lebAt_of ha ((hrel.out.trans HG.out).trans ((if_neg c9).trans ((if_pos c128).trans (if_neg c0)))))
            have hcs : (k < 9 ∧ 0 < x) ∨ (9 ≤ k ∧ x ≤ 1 ∧ 0 < x) ∨ (x ≤ 0 ∧ k ≤ 0) := by omega
            clear HG c9 c0 e128
            rcases hcs with ⟨f1, f2⟩ | ⟨f1, f2, f3⟩ | ⟨f1, f2⟩
            · have hx0 : ((x : Int) == 0) = false := by rw [beq_eq_false_iff_ne]; omega
              go_wp2
              all_goals
                go_ret3
                refine ⟨ret_get ?_ ?_ ?_, rfl⟩ <;> rw [HE.out] <;> rw [if_pos trivial]
                case refine_3 => rfl
                case refine_2 => go_light; simp only []; omega
                case refine_1 => exact HT.out
            · have hx0 : ((x : Int) == 0) = false := by rw [beq_eq_false_iff_ne]; omega
              go_wp2
              all_goals
                go_ret3
                refine ⟨ret_get ?_ ?_ ?_, rfl⟩ <;> rw [HE.out] <;> rw [if_pos trivial]
                case refine_3 => rfl
                case refine_2 => go_light; simp only []; omega
                case refine_1 => exact HT.out
            · have hx0 : ((x : Int) == 0) = true := by rw [beq_iff_eq]; omega
              go_wp2
              all_goals
                go_ret3
                refine ⟨ret_get ?_ ?_ ?_, rfl⟩ <;> rw [HE.out] <;> rw [if_pos trivial]
                case refine_3 => rfl
                case refine_2 => go_light; simp only []; omega
                case refine_1 => exact HT.out
          · have HE := Lib.hid (HG.out.trans ((if_neg c9).trans (if_neg c128)))
            have c9' : k < 9 := by omega
            obtain ⟨_, _, g3, g4⟩ := get_step q (x % 128) k hk hq (by omega) (by omega)
            have H4 := Lib.hid g4
            have HT2 := Lib.hid (worth_text k W c9' HW.out)
            clear HG c9 g3 g4
            rcases (show 0 < k ∨ k ≤ 0 from by omega) with f1 | f1
            all_goals
              go_wp2
              go_round
              case rel =>
                go_light
                exact ⟨k + 1, q + x % 128 * 128 ^ k, 128 ^ (k + 1), by omega, by omega, by go_num, by rw [HT.out], by rw [HT2.out], rfl, H4.out, by rw [← Nat.add_assoc]; exact hrel.out.trans HE.out⟩
              case measure => simp [intOf]; omega
    · have HE := Lib.hid (lebAt_of ha (hrel.out.trans (get_nil hlt)))
      clear hrel
      go_wp2
      go_ret3
      exact ⟨by rw [HE.out]; rfl, rfl⟩

theorem rGet_any (A : Option Addr) (n c : Nat) (l : List UInt8) (a : Int) (w : World) (h : Bts w w.heap.size A n l) (hnc : n ≤ c) (hc : c ≤ 9223372036854775807) (hn : n ≤ 140737488351232) :
    Calls Tryd.prog 34 #[.slice A n c, .int .i64 a] w fun e w' => e = .returned (getVal (lebAt l a)) ∧ w = w' := by
  have hlen := h.len
  by_cases h0 : 0 ≤ a ∧ a ≤ n
  · obtain ⟨k, rfl⟩ := Int.eq_ofNat_of_zero_le h0.1
    exact rGet_in A n c l k w h hnc hc (by omega) hn
  · have HE := Lib.hid (lebAt_out (l := l) (a := a) (by omega))
    subst hlen
    rcases (show a < 0 ∨ (0 ≤ a ∧ (l.length : Int) < a) from by omega) with h1 | ⟨h1, h2⟩
    all_goals
      go_enter Tryd.func34, Tryd.ntmps34
      go_wp2
      go_ret3
      exact ⟨by rw [HE.out]; rfl, rfl⟩
end Go.Proofs.YtgelgkgmgjhmnaaDoor
