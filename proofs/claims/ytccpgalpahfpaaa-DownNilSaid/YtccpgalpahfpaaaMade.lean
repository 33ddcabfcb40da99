/-
  A grid of a size with values: Land, Set, Made.
-/
import Derived.Test.YtccpgalpahfpaaaSyGrid
namespace Go.Proofs.Ytccpgalpahfpaaa
open Go.RowKit
open Sy
set_option linter.unusedVariables false
set_option linter.unusedSimpArgs false
set_option maxRecDepth 100000
set_option maxHeartbeats 2000000

theorem sMay (v : Int) (R : HP) : PureR Try.prog R 36 [.int .i64 v] (.bool (decide (MayV v))) := PureR.of_below fun w _ => (rMay_any v w).mono fun e w' ⟨h1, h2⟩ => ⟨h1, by subst h2; exact Below.refl _ _⟩
theorem sSpot (x y : Int) (R : HP) : PureR Try.prog R 73 [cellV x y] (rectV x y x y) := PureR.of_below fun w _ => gspot_any x y w

theorem gSet_f {R : HP} {gb W H : Nat} {f : Nat → Nat → Int} (x y : Nat) (v : Int) (hx : x < W) (hy : y < H) (hv : MayV v) :
    FnR Try.prog R 38 [.pointer (some ⟨gb, 0, none⟩), cellV x y, .int .i64 v] [gridH gb W H f] fun r hs => r = .int .i64 0 ∧ hs = [gridH gb W H (fillG ⟨x, y, x, y⟩ v f)] := by
  refine fn_of_run0 false Try.func38 rfl hmix rfl fun w0 => ?_
  conv => whnf
  refine ⟨trivial, CallAt.pure (fun R' _ => sSpot x y R') ?_⟩
  conv => whnf
  refine ⟨trivial, CallAt.fn [] (fun h s => s) (fun R' _ => gFill_f ⟨x, y, x, y⟩ v (by simp only; omega) (by simp only; omega) (by simp only; omega) (by simp only; omega) (by simp only; omega) (by simp only; omega) hv) ?_⟩
  rintro r hs ⟨rfl, rfl⟩
  conv => whnf
  exact ⟨trivial, .mk _ (fun w s => s) ⟨rfl, rfl⟩⟩

theorem gSet_i {R : HP} {gb W H : Nat} {f : Nat → Nat → Int} {x y v : Int} (X Y : Nat) (ex : x = X) (ey : y = Y) (hx : X < W) (hy : Y < H) (hv : MayV v) :
    FnR Try.prog R 38 [.pointer (some ⟨gb, 0, none⟩), .agg #[.int .i64 x, .int .i64 y], .int .i64 v] [gridH gb W H f] fun r hs => r = .int .i64 0 ∧ hs = [gridH gb W H (fillG ⟨X, Y, X, Y⟩ v f)] := by
  subst ex ey
  exact gSet_f X Y v hx hy hv
theorem tileF_congr {f g : Nat → Nat → Int} {W H i j : Nat} (h : ∀ x y, x < W → y < H → f x y = g x y) (hi : i < tiles W) (hj : j < tiles H) {k : Nat} (hk : k < tw W i * tw H j) : tileF f W i j k = tileF g W i j k := by
  unfold tileF
  have h1 := tw_pos hi
  have h2 : k % tw W i < tw W i := Nat.mod_lt _ (by omega)
  have h3 : k / tw W i < tw H j := Nat.div_lt_of_lt_mul hk
  refine h _ _ ?_ ?_
  · have h4 : tw W i ≤ W - 16 * i := Nat.min_le_right _ _
    omega
  · have h4 : tw H j ≤ H - 16 * j := Nat.min_le_right _ _
    generalize k / tw W i = z at *
    omega
theorem gridH_congr {gb W H : Nat} {f g : Nat → Nat → Int} (e : ∀ x y, x < W → y < H → f x y = g x y) {h : Hl} (hg : gridH gb W H f h) : gridH gb W H g h := by
  obtain ⟨w, sb, c, p, q, hO, rfl⟩ := hg
  exact ⟨w, sb, c, p, q, ⟨hO.w1, hO.w2, hO.h1, hO.h2, hO.head, hO.list, fun i j hi hj => (hO.slabs i j hi hj).congr fun k hk => tileF_congr e hi hj hk, hO.inj, hO.inq⟩, rfl⟩
/-- the cells that a list of values has, row by row -/
def gv (W : Nat) (l : List Int) (x y : Nat) : Int := l.getD (y * W + x) 0
def gvK (W : Nat) (l : List Int) (k x y : Nat) : Int := if y * W + x < k then l.getD (y * W + x) 0 else 0
theorem gvK_all {W H : Nat} {l : List Int} {x y : Nat} (hx : x < W) (hy : y < H) : gvK W l (W * H) x y = gv W l x y := by
  unfold gvK gv
  rw [if_pos (idx_lt hx hy)]
theorem xy_of {W k x y : Nat} (hx : x < W) : y * W + x = k ↔ x = k % W ∧ y = k / W := by
  constructor
  · rintro rfl
    rw [Nat.mul_comm, Nat.mul_add_mod, Nat.mod_eq_of_lt hx, Nat.mul_add_div (by omega), Nat.div_eq_of_lt hx]
    simp
  · rintro ⟨rfl, rfl⟩
    rw [Nat.mul_comm]; exact Nat.div_add_mod k W
theorem gvK_same {W : Nat} {l : List Int} {k x y : Nat} (hx : x < W) (h : l.getD k 0 = 0) : gvK W l k x y = gvK W l (k + 1) x y := by
  unfold gvK
  by_cases c : y * W + x < k
  · rw [if_pos c, if_pos (by omega)]
  · rw [if_neg c]
    by_cases c2 : y * W + x = k
    · rw [c2, if_pos (by omega), h]
    · rw [if_neg (by omega)]
theorem gvK_set {W : Nat} {l : List Int} {k x y : Nat} (hx : x < W) : fillG ⟨((k % W : Nat) : Int), ((k / W : Nat) : Int), ((k % W : Nat) : Int), ((k / W : Nat) : Int)⟩ (l.getD k 0) (gvK W l k) x y = gvK W l (k + 1) x y := by
  unfold fillG
  by_cases c : y * W + x = k
  · obtain ⟨h1, h2⟩ := (xy_of hx).1 c
    rw [if_pos ((inR_iff _ _ _).2 ⟨by simp only; omega, by simp only; omega, by simp only; omega, by simp only; omega⟩)]
    unfold gvK
    rw [if_pos (by omega), c]
  · rw [if_neg]
    · unfold gvK
      by_cases c2 : y * W + x < k
      · rw [if_pos c2, if_pos (by omega)]
      · rw [if_neg c2, if_neg (by omega)]
    · intro h
      have := (inR_iff _ _ _).1 h
      simp only at this
      exact c ((xy_of hx).2 ⟨by omega, by omega⟩)

theorem sMade (W H : Nat) (b off n c : Nat) (l : List Int) (R : HP) (h1 : 1 ≤ W) (h2 : W ≤ 1024) (h3 : 1 ≤ H) (h4 : H ≤ 1024) (hl : l.length = n) (hn : W * H = n) (hm : ∀ v ∈ l, MayV v)
    (hR : ∀ w, Sat R w → ∀ (k : Nat) (hk : k < l.length), w.cell? ⟨b, off + k, none⟩ = some (.int .i64 l[k])) :
    FnR Try.prog R 13 [.int .i64 W, .int .i64 H, .slice (some ⟨b, off, none⟩) n c] [] fun r hs => ∃ gb, r = .tuple #[.pointer (some ⟨gb, 0, none⟩), .bool true] ∧ hs = [gridH gb W H (gv W l)] := by
  have hn2 : n ≤ 1048576 := by rw [← hn]; exact Nat.mul_le_mul h2 h4
  have hmul : (W : Int) * (H : Int) = (n : Int) := by rw [← hn]; simp
  refine fn_of_run0 false Try.func13 rfl hmix rfl fun w0 => ?_
  conv => whnf
  refine ⟨trivial, CallAt.fn [] (fun h s => s) (fun R' _ => gNew_f 0 h1 h2 h3 h4 ⟨by decide, by decide⟩) ?_⟩
  rintro r hs ⟨gb, rfl, rfl⟩
  conv => whnf
  refine ⟨fun h5 => ?_, fun h5 => absurd h5 (by decide)⟩
  conv => whnf
  refine ⟨fun h6 => absurd h6 (by simp; omega), fun h6 => ?_⟩
  conv => whnf
  have hr1 : rng .i64 ((W : Int) * (H : Int)) := by unfold rng; omega
  refine ⟨⟨trivial, hr1⟩, LoopAt.of (α := Nat) [0, 1, 2, 8] (fun k => [(10, .v (.int .i64 (k : Int)))]) (fun _ => []) (fun k => [gridH gb W H (gvK W l k)]) (fun k => k ≤ n) (fun k => n - k) 0 (Nat.zero_le _) ?_ ?_⟩
  · exact Le.of (Nat.le_refl _) (Nat.le_refl _) ⟨⟨rfl, rfl⟩, ⟨rfl, rfl⟩, ⟨rfl, rfl⟩, ⟨rfl, rfl⟩, ⟨rfl, rfl⟩, trivial⟩ trivial fun h s => ⟨h, fun _ _ e => e, sep_mono s (fun _ g => gridH_congr (fun x y _ _ => by simp [gvK]) g) fun _ x => x⟩
  · intro k hk
    conv => whnf
    refine ⟨fun h7 => ?_, fun h7 => ?_⟩
    · have g7 : k < n := by simp at h7; omega
      have hkl : k < l.length := by omega
      conv => whnf
      refine ⟨⟨trivial, hr1⟩, RegAt.tail 18 hmix (by kernel_rfl) ?_⟩
      conv => whnf
      refine ⟨⟨trivial, by omega⟩, LoadAt.cell (.int .i64 l[k]) rfl rfl (fun w hw => hR w (Sat.right hw) k hkl) ?_⟩
      conv => whnf
      refine ⟨fun h8 => ?_, fun h8 => ?_⟩
      · have hx : k % W < W := Nat.mod_lt _ (by omega)
        have hy : k / W < H := Nat.div_lt_of_lt_mul (by omega)
        have hq : (k / W : Nat) ≤ k := Nat.div_le_self _ _
        conv => whnf
        refine ⟨⟨⟨⟨trivial, by omega, by omega⟩, ⟨by omega, by omega⟩, ?_⟩, by omega⟩, LoadAt.cell (.int .i64 l[k]) rfl rfl (fun w hw => hR w (Sat.right hw) k hkl) ?_⟩
        · have hq' : ((k / W : Nat) : Int) ≤ (k : Int) := Int.ofNat_le.2 hq
          exact ⟨Int.le_trans (by decide) (Int.natCast_nonneg (k / W)), Int.le_trans hq' (by omega)⟩
        conv => whnf
        refine ⟨trivial, CallAt.fn [] (fun h s => s) (fun R' _ => gSet_i (k % W) (k / W) rfl rfl hx hy (hm _ (List.getElem_mem hkl))) ?_⟩
        rintro r hs ⟨rfl, rfl⟩
        conv => whnf
        refine ⟨trivial, ?_⟩
        conv => whnf
        refine ⟨fun h9 => absurd h9 (by decide), fun h9 => ?_⟩
        conv => whnf
        refine ⟨⟨trivial, by unfold rng; omega⟩, .mk (k + 1) g7 (by omega) ?_⟩
        refine Le.of (Nat.le_refl _) (Nat.le_refl _) ⟨⟨rfl, rfl⟩, ⟨rfl, rfl⟩, ⟨rfl, rfl⟩, ⟨rfl, rfl⟩, ⟨rfl, rfl⟩, trivial⟩ trivial fun h s => ⟨h, fun _ _ e => e, sep_mono s (fun _ g => gridH_congr (fun x y hx' _ => ?_) g) fun _ x => x⟩
        have := gvK_set (l := l) (k := k) (y := y) hx'
        rw [List.getD_eq_getElem?_getD, List.getElem?_eq_getElem hkl] at this
        exact this
      · have h8' : l[k] = 0 := by simpa using h8
        conv => whnf
        refine ⟨trivial, ?_⟩
        conv => whnf
        refine ⟨⟨trivial, by unfold rng; omega⟩, .mk (k + 1) g7 (by omega) ?_⟩
        refine Le.of (Nat.le_refl _) (Nat.le_refl _) ⟨⟨rfl, rfl⟩, ⟨rfl, rfl⟩, ⟨rfl, rfl⟩, ⟨rfl, rfl⟩, ⟨rfl, rfl⟩, trivial⟩ trivial fun h s => ⟨h, fun _ _ e => e, sep_mono s (fun _ g => gridH_congr (fun x y hx' _ => ?_) g) fun _ x => x⟩
        exact gvK_same hx' (by rw [List.getD_eq_getElem?_getD, List.getElem?_eq_getElem hkl]; simpa using h8')
    · have g7 : k = n := by simp at h7; omega
      subst g7
      conv => whnf
      refine ⟨⟨trivial, hr1⟩, .mk [gridH gb W H (gv W l)] (fun w ⟨h, hs, s⟩ => ⟨h, hs, sep_mono s (fun _ g => gridH_congr (fun x y hx hy => ?_) g) fun _ x => x⟩) ⟨gb, rfl, rfl⟩⟩
      rw [← hn]
      exact gvK_all hx hy
end Go.Proofs.Ytccpgalpahfpaaa
