/-
  Texts of the proofs, one behind the other: PyrMem, PyrRep, PyrLaw, PyrBuild, PyrRead, PyrOver.
-/
import Derived.Test.YtccpgalpahfpaaaPartJ
import Derived.Test.YtccpgalpahfpaaaPartS
/-
  Pyramids: cells of a level; pyr.join, (pyr.level).mend.
-/
namespace Go.Proofs.Ytccpgalpahfpaaa
open Go.RowKit
open Sy
set_option linter.unusedVariables false
set_option linter.unusedSimpArgs false
set_option maxRecDepth 100000
set_option maxHeartbeats 4000000

def celsF (n : Nat) (c : Nat → Int × Int) : List Value := cel ((List.range n).map c)
theorem celsF_len (n : Nat) (c : Nat → Int × Int) : (celsF n c).length = n * 2 := by simp [celsF, cel_length]
theorem celsF_get {n : Nat} {c : Nat → Int × Int} {i : Nat} (h : i < n) : (celsF n c)[i * 2]? = some (.int .i64 (c i).1) ∧ (celsF n c)[i * 2 + 1]? = some (.int .i64 (c i).2) := by
  have := cel_at ((List.range n).map c) i (by simpa using h)
  simpa [celsF] using this
theorem celsF_k {n : Nat} {c : Nat → Int × Int} (k : Nat) : (celsF n c)[k]? = if k < n * 2 then some (.int .i64 (if k % 2 = 0 then (c (k / 2)).1 else (c (k / 2)).2)) else none := by
  by_cases h : k < n * 2
  · rw [if_pos h]
    obtain ⟨h1, h2⟩ := celsF_get (c := c) (show k / 2 < n by omega)
    by_cases e : k % 2 = 0
    · rw [if_pos e, ← h1]; congr 1; omega
    · rw [if_neg e, ← h2]; congr 1; omega
  · rw [if_neg h, List.getElem?_eq_none]
    rw [celsF_len]; omega
theorem celsF_congr {n : Nat} {c d : Nat → Int × Int} (h : ∀ i, i < n → c i = d i) : celsF n c = celsF n d := by
  apply List.ext_getElem?
  intro k
  rw [celsF_k, celsF_k]
  by_cases c : k < n * 2
  · rw [if_pos c, if_pos c, h (k / 2) (by omega)]
  · rw [if_neg c, if_neg c]
def upd (c : Nat → Int × Int) (i : Nat) (v : Int × Int) : Nat → Int × Int := fun j => if j = i then v else c j
theorem celsF_put {n i : Nat} {c : Nat → Int × Int} (v : Int × Int) (h : i < n) : putL (celsF n c) (i * 2) [.int .i64 v.1, .int .i64 v.2] = celsF n (upd c i v) := by
  apply List.ext_getElem?
  intro k
  rw [putL_get (by rw [celsF_len]; simp; omega), celsF_k, celsF_k]
  simp only [List.length_cons, List.length_nil]
  by_cases e : i * 2 ≤ k ∧ k < i * 2 + (0 + 1 + 1)
  · rw [if_pos e, if_pos (by omega)]
    have hk : k / 2 = i := by omega
    unfold upd
    rw [hk, if_pos rfl]
    rcases (show k = i * 2 ∨ k = i * 2 + 1 by omega) with e | e
    · subst e; rw [if_pos (by omega)]; simp
    · subst e
      rw [if_neg (by omega), show i * 2 + 1 - i * 2 = 1 by omega]; rfl
  · rw [if_neg e]
    have hk : k / 2 ≠ i := by omega
    unfold upd
    rw [if_neg hk]
theorem celsF_zero (n : Nat) : celsF n (fun _ => (0, 0)) = List.replicate (n * 2) (.int .i64 0) := by
  apply List.ext_getElem?
  intro k
  rw [celsF_k, List.getElem?_replicate]
  simp

def jn (a b : Int × Int) : Int × Int := (min a.1 b.1, max a.2 b.2)
theorem sJoin (a b : Int × Int) (R : HP) : PureR Try.prog R 85 [rngV a.1 a.2, rngV b.1 b.2] (rngV (jn a b).1 (jn a b).2) := by
  refine fn_of_run0 false Try.func85 rfl hmix rfl fun w0 => ?_
  conv => whnf
  exact ⟨trivial, fin_pure rfl rfl⟩

/-- what j of the four kids show -/
def kv (uw uh : Nat) (u : Nat → Int × Int) (x y : Nat) : Nat → Int × Int
  | 0 => u (2 * y * uw + 2 * x)
  | j + 1 => if 2 * x + j % 2 < uw ∧ 2 * y + j / 2 < uh then jn (kv uw uh u x y j) (u ((2 * y + j / 2) * uw + (2 * x + j % 2))) else kv uw uh u x y j
theorem kv_yes {uw uh : Nat} {u : Nat → Int × Int} {x y j : Nat} (h1 : 2 * x + j % 2 < uw) (h2 : 2 * y + j / 2 < uh) : kv uw uh u x y (j + 1) = jn (kv uw uh u x y j) (u ((2 * y + j / 2) * uw + (2 * x + j % 2))) := by
  rw [kv, if_pos ⟨h1, h2⟩]
theorem kv_no {uw uh : Nat} {u : Nat → Int × Int} {x y j : Nat} (h : ¬ (2 * x + j % 2 < uw ∧ 2 * y + j / 2 < uh)) : kv uw uh u x y (j + 1) = kv uw uh u x y j := by
  rw [kv, if_neg h]
/-- mended up to a cell -/
def mendP (x0 y0 x1 y1 lw uw uh : Nat) (u c : Nat → Int × Int) (jy jx : Nat) (i : Nat) : Int × Int := if (x0 ≤ i % lw ∧ i % lw ≤ x1 ∧ y0 ≤ i / lw ∧ i / lw ≤ y1) ∧ (i / lw < jy ∨ i / lw = jy ∧ i % lw < jx) then kv uw uh u (i % lw) (i / lw) 4 else c i
def mendC (x0 y0 x1 y1 lw uw uh : Nat) (u c : Nat → Int × Int) (i : Nat) : Int × Int := if x0 ≤ i % lw ∧ i % lw ≤ x1 ∧ y0 ≤ i / lw ∧ i / lw ≤ y1 then kv uw uh u (i % lw) (i / lw) 4 else c i
section
variable {x0 y0 x1 y1 lw uw uh : Nat} {u c : Nat → Int × Int}
theorem mendP_start : mendP x0 y0 x1 y1 lw uw uh u c y0 x0 = c := by
  funext i; unfold mendP; rw [if_neg (by omega)]
theorem mendP_row (jy : Nat) : mendP x0 y0 x1 y1 lw uw uh u c jy (x1 + 1) = mendP x0 y0 x1 y1 lw uw uh u c (jy + 1) x0 := by
  funext i; unfold mendP
  by_cases e : (x0 ≤ i % lw ∧ i % lw ≤ x1 ∧ y0 ≤ i / lw ∧ i / lw ≤ y1) ∧ (i / lw < jy ∨ i / lw = jy ∧ i % lw < x1 + 1)
  · rw [if_pos e, if_pos (by omega)]
  · rw [if_neg e, if_neg (by omega)]
theorem mendP_end : mendP x0 y0 x1 y1 lw uw uh u c (y1 + 1) x0 = mendC x0 y0 x1 y1 lw uw uh u c := by
  funext i; unfold mendP mendC
  by_cases e : x0 ≤ i % lw ∧ i % lw ≤ x1 ∧ y0 ≤ i / lw ∧ i / lw ≤ y1
  · rw [if_pos e, if_pos (by omega)]
  · rw [if_neg e, if_neg (by omega)]
theorem mendP_set {jx jy : Nat} (h1 : x0 ≤ jx) (h2 : jx ≤ x1) (h3 : x1 < lw) (h4 : y0 ≤ jy) (h5 : jy ≤ y1) : upd (mendP x0 y0 x1 y1 lw uw uh u c jy jx) (jy * lw + jx) (kv uw uh u jx jy 4) = mendP x0 y0 x1 y1 lw uw uh u c jy (jx + 1) := by
  funext i
  have hi : i / lw * lw + i % lw = i := by rw [Nat.mul_comm]; exact Nat.div_add_mod i lw
  have hm : i % lw < lw := Nat.mod_lt _ (by omega)
  unfold upd
  by_cases e : i = jy * lw + jx
  · rw [if_pos e]
    obtain ⟨e1, e2⟩ := (xy_of (k := i) (show jx < lw by omega)).1 e.symm
    unfold mendP
    rw [if_pos (by omega), ← e1, ← e2]
  · rw [if_neg e]
    have hne : ¬ (i % lw = jx ∧ i / lw = jy) := fun c => e (by rw [← c.1, ← c.2]; exact hi.symm)
    unfold mendP
    by_cases e : (x0 ≤ i % lw ∧ i % lw ≤ x1 ∧ y0 ≤ i / lw ∧ i / lw ≤ y1) ∧ (i / lw < jy ∨ i / lw = jy ∧ i % lw < jx)
    · rw [if_pos e, if_pos (by omega)]
    · rw [if_neg e, if_neg (by omega)]
end

theorem sMend {R : HP} {lb ub lw lh uw uh cl cu : Nat} {c u : Nat → Int × Int} (x0 y0 x1 y1 : Nat) (hx : x0 ≤ x1) (hy : y0 ≤ y1) (hx1 : x1 < lw) (hy1 : y1 < lh) (hux : 2 * x1 < uw) (huy : 2 * y1 < uh) (hlw : lw ≤ 1024) (hlh : lh ≤ 1024) (huw : uw ≤ 1024) (huh : uh ≤ 1024)
    (hR : ∀ w, Sat R w → ∀ i, i < uw * uh → w.cell? ⟨ub, i * 2, none⟩ = some (.int .i64 (u i).1) ∧ w.cell? ⟨ub, i * 2 + 1, none⟩ = some (.int .i64 (u i).2)) :
    FnR Try.prog R 51 [.agg #[.int .i64 lw, .int .i64 lh, .slice (some ⟨lb, 0, none⟩) (lw * lh) cl], .agg #[.int .i64 uw, .int .i64 uh, .slice (some ⟨ub, 0, none⟩) (uw * uh) cu], rectV x0 y0 x1 y1]
      [rowH (.slice (some ⟨lb, 0, none⟩) (lw * lh) cl) (lw * lh) 39 2 (celsF (lw * lh) c)] fun r hs => r = .tuple #[] ∧ hs = [rowH (.slice (some ⟨lb, 0, none⟩) (lw * lh) cl) (lw * lh) 39 2 (celsF (lw * lh) (mendC x0 y0 x1 y1 lw uw uh u c))] := by
  have hN : lw * lh ≤ 1024 * 1024 := Nat.mul_le_mul hlw hlh
  have hU : uw * uh ≤ 1024 * 1024 := Nat.mul_le_mul huw huh
  have idxU : ∀ i j, i < uw → j < uh → j * uw + i < uw * uh := fun i j => idx_lt
  have idxL : ∀ i j, i < lw → j < lh → j * lw + i < lw * lh := fun i j => idx_lt
  have hz : ∀ a b : Nat, (a : Int) * (b : Int) = ((a * b : Nat) : Int) := fun a b => by simp
  have hst := @mendP_start x0 y0 x1 y1 lw uw uh u c
  have hrow := @mendP_row x0 y0 x1 y1 lw uw uh u c
  have hend := @mendP_end x0 y0 x1 y1 lw uw uh u c
  have hset := fun jx jy (h1 : x0 ≤ jx) (h2 : jx ≤ x1) (h4 : y0 ≤ jy) (h5 : jy ≤ y1) => @mendP_set x0 y0 x1 y1 lw uw uh u c jx jy h1 h2 hx1 h4 h5
  obtain ⟨N, hNe⟩ : ∃ N, lw * lh = N := ⟨_, rfl⟩
  obtain ⟨U, hUe⟩ : ∃ U, uw * uh = U := ⟨_, rfl⟩
  rw [hNe] at hN idxL
  rw [hUe] at hU idxU hR
  rw [hNe, hUe]
  obtain ⟨M, hM⟩ : ∃ M, mendP x0 y0 x1 y1 lw uw uh u c = M := ⟨_, rfl⟩
  rw [hM] at hst hrow hend hset
  refine fn_of_run0 false Try.func51 rfl hmix rfl fun w0 => ?_
  conv => whnf
  refine ⟨trivial, LoopAt.heap (α := Nat) [3, 4, 5] (fun y => [(6, .v (.int .i64 (y : Int)))]) (fun y => [rowH (.slice (some ⟨lb, 0, none⟩) N cl) N 39 2 (celsF N (M y x0))]) (fun y => y0 ≤ y ∧ y ≤ y1 + 1) (fun y => y1 + 1 - y) y0 ⟨Nat.le_refl _, by omega⟩ rfl ⟨⟨rfl, rfl⟩, trivial⟩ ⟨⟨rfl, rfl⟩, ⟨rfl, rfl⟩, ⟨rfl, rfl⟩, trivial⟩ ⟨⟨rfl, rfl, rfl, rfl⟩, ⟨rfl, rfl, rfl, rfl⟩, ⟨rfl, rfl, rfl, rfl⟩, trivial⟩ (fun h s => sub_same (by rw [hst]; exact s)) ?_⟩
  rintro y ⟨hy2, hy3⟩
  conv => whnf
  refine ⟨fun h1 => ?_, fun h1 => ?_⟩
  · have g1 : y ≤ y1 := by simp at h1; omega
    conv => whnf
    refine ⟨trivial, LoopAt.heap (α := Nat) [3, 4, 5, 6] (fun x => [(7, .v (.int .i64 (x : Int)))]) (fun x => [rowH (.slice (some ⟨lb, 0, none⟩) N cl) N 39 2 (celsF N (M y x))]) (fun x => x0 ≤ x ∧ x ≤ x1 + 1) (fun x => x1 + 1 - x) x0 ⟨Nat.le_refl _, by omega⟩ rfl ⟨⟨rfl, rfl⟩, trivial⟩ ⟨⟨rfl, rfl⟩, ⟨rfl, rfl⟩, ⟨rfl, rfl⟩, ⟨rfl, rfl⟩, trivial⟩ ⟨⟨rfl, rfl, rfl, rfl⟩, ⟨rfl, rfl, rfl, rfl⟩, ⟨rfl, rfl, rfl, rfl⟩, trivial⟩ (fun h s => sub_same s) ?_⟩
    rintro x ⟨hx2, hx3⟩
    conv => whnf
    refine ⟨fun h2 => ?_, fun h2 => ?_⟩
    · have g2 : x ≤ x1 := by simp at h2; omega
      have i0 := idxU (2 * x) (2 * y) (by omega) (by omega)
      have z1 : (2 : Int) * (y : Int) = ((2 * y : Nat) : Int) := by simp
      have z2 : (2 : Int) * (x : Int) = ((2 * x : Nat) : Int) := by simp
      have z3 := hz (2 * y) uw
      have z4 : ((2 * y * uw : Nat) : Int) + ((2 * x : Nat) : Int) = ((2 * y * uw + 2 * x : Nat) : Int) := by simp
      conv => whnf
      rw [z1, z2, z3, z4]
      refine ⟨?_, LoadAt.agg [.int .i64 (u (2 * y * uw + 2 * x)).1, .int .i64 (u (2 * y * uw + 2 * x)).2] rfl rfl rfl (fun w hw j v hj => ?_) ?_⟩
      · generalize 2 * y * uw = q at *
        repeat' apply And.intro
        all_goals first | exact True.intro | (unfold rng; omega) | omega
      · obtain ⟨q1, q2⟩ := hR w hw.rest _ i0
        rw [Int.toNat_natCast, Nat.zero_add]
        rcases j with _ | _ | j
        · simp at hj; rw [← hj]; exact q1
        · simp at hj; rw [← hj]; exact q2
        · simp at hj
      conv => whnf
      refine ⟨trivial, LoopAt.of (α := Nat) [3, 4, 5, 6, 7, 8] (fun i => [(40, .v (.int .i64 (i : Int)))]) (fun i => [(3, 39, [.v (.int .i64 (kv uw uh u x y i).1), .v (.int .i64 (kv uw uh u x y i).2)]), (2, 45, [.v (.int .i64 (x0 : Int)), .v (.int .i64 (y0 : Int)), .v (.int .i64 (x1 : Int)), .v (.int .i64 (y1 : Int))]), (1, 88, [.v (.int .i64 (uw : Int)), .v (.int .i64 (uh : Int)), .v (.slice (some ⟨ub, 0, none⟩) U cu)]), (0, 88, [.v (.int .i64 (lw : Int)), .v (.int .i64 (lh : Int)), .v (.slice (some ⟨lb, 0, none⟩) N cl)])]) (fun i => [rowH (.slice (some ⟨lb, 0, none⟩) N cl) N 39 2 (celsF N (M y x))]) (fun i => i ≤ 4) (fun i => 4 - i) 0 (Nat.zero_le _) (Le.of (Nat.le_of_ble_eq_true rfl) (Nat.zero_le _) ⟨⟨rfl, rfl⟩, ⟨rfl, rfl⟩, ⟨rfl, rfl⟩, ⟨rfl, rfl⟩, ⟨rfl, rfl⟩, ⟨rfl, rfl⟩, ⟨rfl, rfl⟩, trivial⟩ ⟨⟨rfl, rfl, rfl, rfl⟩, ⟨rfl, rfl, rfl, rfl⟩, ⟨rfl, rfl, rfl, rfl⟩, ⟨rfl, rfl, rfl, rfl⟩, trivial⟩ fun h s => sub_same s) ?_⟩
      intro i hi
      have zi : (i : Int) % 2 = ((i % 2 : Nat) : Int) := by simp
      have zq : (i : Int) / 2 = ((i / 2 : Nat) : Int) := by simp
      have z5 : ((2 * x : Nat) : Int) + ((i % 2 : Nat) : Int) = ((2 * x + i % 2 : Nat) : Int) := by simp
      have z6 : ((2 * y : Nat) : Int) + ((i / 2 : Nat) : Int) = ((2 * y + i / 2 : Nat) : Int) := by simp
      have hi2 : i % 2 ≤ 1 := by omega
      have hi3 : i / 2 ≤ 2 := by omega
      conv => whnf
      refine ⟨fun h3 => ?_, fun h3 => ?_⟩
      · have g3 : i < 4 := by simp at h3; omega
        conv => whnf
        rw [z1, z2, zi, zq, z5, z6]
        refine ⟨fun h4 => ?_, fun h4 => ?_⟩
        · have g4 : 2 * x + i % 2 < uw := Int.ofNat_lt.1 (of_dt h4)
          conv => whnf
          refine ⟨fun h5 => ?_, fun h5 => ?_⟩
          · have g5 : 2 * y + i / 2 < uh := Int.ofNat_lt.1 (of_dt h5)
            have ii := idxU (2 * x + i % 2) (2 * y + i / 2) g4 g5
            have z7 := hz (2 * y + i / 2) uw
            have z8 : (((2 * y + i / 2) * uw : Nat) : Int) + ((2 * x + i % 2 : Nat) : Int) = (((2 * y + i / 2) * uw + (2 * x + i % 2) : Nat) : Int) := by simp
            have hyes := kv_yes (u := u) g4 g5
            generalize hq : (2 * y + i / 2) * uw = q at *
            conv => whnf
            refine ⟨?_, RegAt.tail 12 hmix (by kernel_rfl) ?_⟩
            · repeat' apply And.intro
              all_goals first | exact True.intro | (unfold rng; omega) | omega
            conv => whnf
            rw [z7, z8]
            refine ⟨?_, LoadAt.agg [.int .i64 (u (q + (2 * x + i % 2))).1, .int .i64 (u (q + (2 * x + i % 2))).2] rfl rfl rfl (fun w hw j v hj => ?_) ?_⟩
            · repeat' apply And.intro
              all_goals first | exact True.intro | (unfold rng; omega) | omega
            · obtain ⟨q1, q2⟩ := hR w hw.rest _ ii
              rw [Int.toNat_natCast, Nat.zero_add]
              rcases j with _ | _ | j
              · simp at hj; rw [← hj]; exact q1
              · simp at hj; rw [← hj]; exact q2
              · simp at hj
            conv => whnf
            refine ⟨trivial, CallQ.pure (fun R' hR' => sJoin (kv uw uh u x y i) (u (q + (2 * x + i % 2))) R') ?_⟩
            conv => whnf
            refine ⟨trivial, ?_⟩
            conv => whnf
            rw [← hyes]
            refine ⟨⟨trivial, by unfold rng; omega⟩, .mk (i + 1) (by omega) (by omega) (Le.of (Nat.le_of_ble_eq_true rfl) (Nat.zero_le _) ⟨⟨rfl, rfl⟩, ⟨rfl, rfl⟩, ⟨rfl, rfl⟩, ⟨rfl, rfl⟩, ⟨rfl, rfl⟩, ⟨rfl, rfl⟩, ⟨rfl, rfl⟩, trivial⟩ ⟨⟨rfl, rfl, rfl, rfl⟩, ⟨rfl, rfl, rfl, rfl⟩, ⟨rfl, rfl, rfl, rfl⟩, ⟨rfl, rfl, rfl, rfl⟩, trivial⟩ fun h s => sub_same s)⟩
          · have g5 : ¬ (2 * x + i % 2 < uw ∧ 2 * y + i / 2 < uh) := fun c => of_df h5 (Int.ofNat_lt.2 c.2)
            have hno := kv_no (u := u) g5
            conv => whnf
            refine ⟨?_, .mk (i + 1) (by omega) (by omega) (Le.of (Nat.le_of_ble_eq_true rfl) (Nat.zero_le _) ⟨⟨rfl, rfl⟩, ⟨rfl, rfl⟩, ⟨rfl, rfl⟩, ⟨rfl, rfl⟩, ⟨rfl, rfl⟩, ⟨rfl, rfl⟩, ⟨rfl, rfl⟩, trivial⟩ ⟨⟨?_, rfl, rfl, rfl⟩, ⟨rfl, rfl, rfl, rfl⟩, ⟨rfl, rfl, rfl, rfl⟩, ⟨rfl, rfl, rfl, rfl⟩, trivial⟩ fun h s => sub_same s)⟩
            · repeat' apply And.intro
              all_goals first | exact True.intro | (unfold rng; omega) | omega
            · rw [hno]; rfl
        · have g4 : ¬ (2 * x + i % 2 < uw ∧ 2 * y + i / 2 < uh) := fun c => of_df h4 (Int.ofNat_lt.2 c.1)
          have hno := kv_no (u := u) g4
          conv => whnf
          refine ⟨?_, .mk (i + 1) (by omega) (by omega) (Le.of (Nat.le_of_ble_eq_true rfl) (Nat.zero_le _) ⟨⟨rfl, rfl⟩, ⟨rfl, rfl⟩, ⟨rfl, rfl⟩, ⟨rfl, rfl⟩, ⟨rfl, rfl⟩, ⟨rfl, rfl⟩, ⟨rfl, rfl⟩, trivial⟩ ⟨⟨?_, rfl, rfl, rfl⟩, ⟨rfl, rfl, rfl, rfl⟩, ⟨rfl, rfl, rfl, rfl⟩, ⟨rfl, rfl, rfl, rfl⟩, trivial⟩ fun h s => sub_same s)⟩
          · repeat' apply And.intro
            all_goals first | exact True.intro | (unfold rng; omega) | omega
          · rw [hno]; rfl
      · have g3 : i = 4 := by simp at h3; omega
        subst g3
        have il := idxL x y (by omega) (by omega)
        have z9 := hz y lw
        have z10 : ((y * lw : Nat) : Int) + (x : Int) = ((y * lw + x : Nat) : Int) := by simp
        have hs := hset x y hx2 g2 hy2 g1
        conv => whnf
        rw [z9, z10]
        generalize y * lw = q at *
        refine ⟨?_, OpAt.store lb (0 + (q + x) * 2) (rngV (kv uw uh u x y 4).1 (kv uw uh u x y 4).2) [] rfl (fun h s => s) rfl rfl rfl rfl rfl (by simp [Value.cells, Value.oneCell']) (fun h r => row_put (by simp [Value.cells]; omega) r) ?_⟩
        · repeat' apply And.intro
          all_goals first | exact True.intro | (unfold rng; omega) | omega
        conv => whnf
        refine ⟨⟨trivial, by unfold rng; omega⟩, Next.heap (x + 1) (by omega) (by omega) ⟨⟨rfl, rfl⟩, trivial⟩ ⟨⟨rfl, rfl⟩, ⟨rfl, rfl⟩, ⟨rfl, rfl⟩, ⟨rfl, rfl⟩, trivial⟩ ⟨⟨rfl, rfl, rfl, rfl⟩, ⟨rfl, rfl, rfl, rfl⟩, ⟨rfl, rfl, rfl, rfl⟩, trivial⟩ rfl rfl fun h s => sub_same ?_⟩
        have e : (rngV (kv uw uh u x y 4).1 (kv uw uh u x y 4).2).cells.toList = [.int .i64 (kv uw uh u x y 4).1, .int .i64 (kv uw uh u x y 4).2] := rfl
        rw [← hs, ← celsF_put (kv uw uh u x y 4) il]
        simpa only [Nat.zero_add, e] using s
    · have g2 : x = x1 + 1 := by simp at h2; omega
      subst g2
      conv => whnf
      refine ⟨⟨trivial, by unfold rng; omega⟩, Next.heap (y + 1) (by omega) (by omega) ⟨⟨rfl, rfl⟩, trivial⟩ ⟨⟨rfl, rfl⟩, ⟨rfl, rfl⟩, ⟨rfl, rfl⟩, trivial⟩ ⟨⟨rfl, rfl, rfl, rfl⟩, ⟨rfl, rfl, rfl, rfl⟩, ⟨rfl, rfl, rfl, rfl⟩, trivial⟩ rfl rfl fun h s => sub_same (by rw [← hrow]; exact s)⟩
  · have g1 : y = y1 + 1 := by simp at h1; omega
    subst g1
    conv => whnf
    refine ⟨trivial, .mk _ (fun w s => s) ⟨rfl, ?_⟩⟩
    rw [hend]
end Go.Proofs.Ytccpgalpahfpaaa

/-
  Pyramids in memory; (*Pyr).Repair.
-/
namespace Go.Proofs.Ytccpgalpahfpaaa
open Go.RowKit
open Sy
set_option linter.unusedVariables false
set_option linter.unusedSimpArgs false
set_option maxRecDepth 100000
set_option maxHeartbeats 4000000

def nK (W H k : Nat) : Nat := halfN W k * halfN H k
def levV (W H : Nat) (b : Nat → Nat) (L : Nat) : List Value := (List.range L).flatMap fun k => [.int .i64 (halfN W k : Nat), .int .i64 (halfN H k : Nat), .slice (some ⟨b k, 0, none⟩) (nK W H k) (nK W H k)]
theorem flat3_at {α : Type} (x y z : Nat → α) : ∀ (L k : Nat), k < L → ((List.range L).flatMap fun k => [x k, y k, z k])[k * 3]? = some (x k) ∧ ((List.range L).flatMap fun k => [x k, y k, z k])[k * 3 + 1]? = some (y k) ∧ ((List.range L).flatMap fun k => [x k, y k, z k])[k * 3 + 2]? = some (z k)
  | 0, k, h => absurd h (Nat.not_lt_zero _)
  | L + 1, k, h => by
    have hlen : ∀ L, ((List.range L).flatMap fun k => [x k, y k, z k]).length = L * 3 := by
      intro L
      induction L with
      | zero => rfl
      | succ L ih => rw [List.range_succ, List.flatMap_append, List.length_append, ih]; simp; omega
    rw [List.range_succ, List.flatMap_append]
    rcases Nat.lt_or_ge k L with c | c
    · obtain ⟨h1, h2, h3⟩ := flat3_at x y z L k c
      refine ⟨?_, ?_, ?_⟩
      · rw [List.getElem?_append_left (by rw [hlen]; omega)]; exact h1
      · rw [List.getElem?_append_left (by rw [hlen]; omega)]; exact h2
      · rw [List.getElem?_append_left (by rw [hlen]; omega)]; exact h3
    · have e : k = L := by omega
      subst e
      refine ⟨?_, ?_, ?_⟩
      · rw [List.getElem?_append_right (by rw [hlen]; omega), hlen, show k * 3 - k * 3 = 0 by omega]; rfl
      · rw [List.getElem?_append_right (by rw [hlen]; omega), hlen, show k * 3 + 1 - k * 3 = 1 by omega]; rfl
      · rw [List.getElem?_append_right (by rw [hlen]; omega), hlen, show k * 3 + 2 - k * 3 = 2 by omega]; rfl
theorem levV_at (W H : Nat) (b : Nat → Nat) {L k : Nat} (h : k < L) : (levV W H b L)[k * 3]? = some (.int .i64 (halfN W k : Nat)) ∧ (levV W H b L)[k * 3 + 1]? = some (.int .i64 (halfN H k : Nat)) ∧ (levV W H b L)[k * 3 + 2]? = some (.slice (some ⟨b k, 0, none⟩) (nK W H k) (nK W H k)) :=
  flat3_at (fun k => Value.int .i64 (halfN W k : Nat)) (fun k => Value.int .i64 (halfN H k : Nat)) (fun k => Value.slice (some ⟨b k, 0, none⟩) (nK W H k) (nK W H k)) L k h
/-- the row of a level -/
def rowK (W H : Nat) (b : Nat → Nat) (k : Nat) (c : Nat → Int × Int) : HP := rowH (.slice (some ⟨b k, 0, none⟩) (nK W H k) (nK W H k)) (nK W H k) 39 2 (celsF (nK W H k) c)
def levP (W H : Nat) (b : Nat → Nat) (F : Nat → Nat → Int × Int) (L : Nat) : List HP := (List.range L).map fun k => rowK W H b k (F k)
/-- the other levels -/
def levR (W H : Nat) (b : Nat → Nat) (F : Nat → Nat → Int × Int) (L k : Nat) : List HP := ((List.range L).erase k).map fun k => rowK W H b k (F k)
theorem levP_perm (W H : Nat) (b : Nat → Nat) (F : Nat → Nat → Int × Int) {L k : Nat} (h : k < L) : (levP W H b F L).Perm (rowK W H b k (F k) :: levR W H b F L k) := (List.perm_cons_erase (List.mem_range.2 h)).map _
theorem levR_congr {W H : Nat} {b : Nat → Nat} {F G : Nat → Nat → Int × Int} {L k : Nat} (h : ∀ j, j < L → j ≠ k → F j = G j) : levR W H b F L k = levR W H b G L k := by
  apply List.map_congr_left
  intro j hj
  have := (List.Nodup.mem_erase_iff List.nodup_range).1 hj
  rw [h j (List.mem_range.1 this.2) this.1]
theorem levR_mem {W H : Nat} {b : Nat → Nat} {F : Nat → Nat → Int × Int} {L k j : Nat} (h : j < L) (hj : j ≠ k) : rowK W H b j (F j) ∈ levR W H b F L k := List.mem_map.2 ⟨j, (List.Nodup.mem_erase_iff List.nodup_range).2 ⟨hj, List.mem_range.2 h⟩, rfl⟩
theorem Sat_mem {R A : HP} {w : World} {l : List HP} (s : Sat (sepL l R) w) (h : A ∈ l) : Sat A w := by
  obtain ⟨i, hi⟩ := List.getElem?_of_mem h
  exact s.in_ i hi
theorem rowK_read {W H : Nat} {b : Nat → Nat} {k : Nat} {c : Nat → Int × Int} {w : World} (s : Sat (rowK W H b k c) w) (h0 : 0 < nK W H k) {i : Nat} (hi : i < nK W H k) : w.cell? ⟨b k, i * 2, none⟩ = some (.int .i64 (c i).1) ∧ w.cell? ⟨b k, i * 2 + 1, none⟩ = some (.int .i64 (c i).2) := by
  obtain ⟨h1, h2⟩ := celsF_get (c := c) hi
  exact ⟨row_at s h0 h1, row_at s h0 h2⟩
theorem blk_sat {b : Nat} {t : TypeId} {cs : Array Value} {w : World} (s : Sat (blkH b t cs) w) : Blk w b t cs := by
  obtain ⟨h, hs, e⟩ := s
  exact hs b _ (by rw [e]; simp)
def pyrParts (pb W H L : Nat) (F : Nat → Nat → Int × Int) (x : Nat × Nat × (Nat → Nat)) : List HP :=
  blkH pb 81 #[.slice (some ⟨x.1, 0, none⟩) L x.2.1] :: rowH (.slice (some ⟨x.1, 0, none⟩) L x.2.1) L 88 3 (levV W H x.2.2 L) :: levP W H x.2.2 F L

/-- the least level's cells, some of them laid -/
def paintC (x0 y0 nx lw : Nat) (g : Nat → Nat → Int) (c : Nat → Int × Int) (k i : Nat) : Int × Int := if x0 ≤ i % lw ∧ i % lw < x0 + nx ∧ y0 ≤ i / lw ∧ (i / lw - y0) * nx + (i % lw - x0) < k then (g (i % lw) (i / lw), g (i % lw) (i / lw)) else c i
section
variable {x0 y0 nx lw : Nat} {g : Nat → Nat → Int} {c : Nat → Int × Int}
theorem paintC_start : paintC x0 y0 nx lw g c 0 = c := by funext i; unfold paintC; rw [if_neg (by omega)]
theorem paintC_set {k : Nat} (hnx : 0 < nx) (hlw : x0 + nx ≤ lw) : upd (paintC x0 y0 nx lw g c k) ((y0 + k / nx) * lw + (x0 + k % nx)) (g (x0 + k % nx) (y0 + k / nx), g (x0 + k % nx) (y0 + k / nx)) = paintC x0 y0 nx lw g c (k + 1) := by
  funext i
  have hm : k % nx < nx := Nat.mod_lt _ hnx
  have hi : i / lw * lw + i % lw = i := by rw [Nat.mul_comm]; exact Nat.div_add_mod i lw
  have hml : i % lw < lw := Nat.mod_lt _ (by omega)
  unfold upd
  by_cases e : i = (y0 + k / nx) * lw + (x0 + k % nx)
  · rw [if_pos e]
    obtain ⟨e1, e2⟩ := (xy_of (k := i) (show x0 + k % nx < lw by omega)).1 e.symm
    have hk : k / nx * nx + k % nx = k := by rw [Nat.mul_comm]; exact Nat.div_add_mod k nx
    unfold paintC
    rw [if_pos (by rw [← e1, ← e2, Nat.add_sub_cancel_left, Nat.add_sub_cancel_left, hk]; exact ⟨Nat.le_add_right _ _, Nat.add_lt_add_left hm _, Nat.le_add_right _ _, Nat.lt_succ_self _⟩), ← e1, ← e2]
  · rw [if_neg e]
    unfold paintC
    by_cases c1 : x0 ≤ i % lw ∧ i % lw < x0 + nx ∧ y0 ≤ i / lw ∧ (i / lw - y0) * nx + (i % lw - x0) < k
    · rw [if_pos c1, if_pos (by omega)]
    · rw [if_neg c1, if_neg]
      intro c2
      refine e ?_
      have e3 : (i / lw - y0) * nx + (i % lw - x0) = k := by omega
      obtain ⟨e1, e2⟩ := (xy_of (k := k) (show i % lw - x0 < nx by omega)).1 e3
      rw [← e1, ← e2, show y0 + (i / lw - y0) = i / lw by omega, show x0 + (i % lw - x0) = i % lw by omega]
      exact hi.symm
end
theorem vRows_nth (f : Nat → Nat → Int) (x0 nx y0 : Nat) (hnx : 0 < nx) : ∀ (j i : Nat), i < j * nx → (vRows f x0 nx y0 j)[i]? = some (f (x0 + i % nx) (y0 + i / nx))
  | 0, i, h => by omega
  | j + 1, i, h => by
    rw [vRows_succ]
    rcases Nat.lt_or_ge i (j * nx) with c | c
    · rw [List.getElem?_append_left (by rw [vRows_len]; exact c)]
      exact vRows_nth f x0 nx y0 hnx j i c
    · rw [List.getElem?_append_right (by rw [vRows_len]; exact c), vRows_len]
      have h' : i - j * nx < nx := by rw [Nat.add_mul] at h; omega
      have e : i = j * nx + (i - j * nx) := by omega
      have e1 : i % nx = i - j * nx := by rw [e, Nat.mul_comm j nx, Nat.mul_add_mod, Nat.mod_eq_of_lt (by rw [Nat.mul_comm]; omega)]; rw [Nat.mul_comm nx j]; omega
      have e2 : i / nx = j := by
        have := Nat.div_add_mod i nx
        rw [e1] at this
        have h3 : nx * (i / nx) = nx * j := by rw [Nat.mul_comm nx j]; omega
        exact Nat.eq_of_mul_eq_mul_left hnx h3
      rw [e1, e2]
      simp [vRow, h']

/-- the levels, mended where a rectangle of the grid was laid -/
def repF (x0 y0 x1 y1 W H : Nat) (g : Nat → Nat → Int) (F : Nat → Nat → Int × Int) : Nat → Nat → Int × Int
  | 0 => paintC x0 y0 (x1 - x0 + 1) (halfN W 0) g (F 0) ((y1 - y0 + 1) * (x1 - x0 + 1))
  | k + 1 => mendC (x0 / 2 ^ (k + 1)) (y0 / 2 ^ (k + 1)) (x1 / 2 ^ (k + 1)) (y1 / 2 ^ (k + 1)) (halfN W (k + 1)) (halfN W k) (halfN H k) (repF x0 y0 x1 y1 W H g F k) (F (k + 1))
def repK (x0 y0 x1 y1 W H : Nat) (g : Nat → Nat → Int) (F : Nat → Nat → Int × Int) (k j : Nat) : Nat → Int × Int := if j < k then repF x0 y0 x1 y1 W H g F j else F j

theorem perm2 {A B r : HP} {l l' : List HP} (h : l.Perm (r :: l')) : (A :: B :: l).Perm (r :: A :: B :: l') := ((h.cons B).cons A).trans (List.perm_middle (l₁ := [A, B]))
theorem perm3 {V A B r : HP} {l l' : List HP} (h : l.Perm (r :: l')) : (V :: A :: B :: l).Perm (r :: V :: A :: B :: l') := (((h.cons B).cons A).cons V).trans (List.perm_middle (l₁ := [V, A, B]))
theorem gValuesS {R : HP} {gb W H : Nat} {f : Nat → Nat → Int} (hR : ∀ w, Sat R w → GridAt w gb W H f) (x0 y0 x1 y1 : Nat) (r2 : x0 ≤ x1) (r3 : x1 < W) (r5 : y0 ≤ y1) (r6 : y1 < H) :
    FnR Try.prog R 29 [.pointer (some ⟨gb, 0, none⟩), rectV x0 y0 x1 y1] [] fun r hs => ∃ g c, r = .tuple #[.slice (some ⟨g, 0, none⟩) ((y1 - y0 + 1) * (x1 - x0 + 1)) c, .int .i64 0] ∧
      hs = [rowH (.slice (some ⟨g, 0, none⟩) ((y1 - y0 + 1) * (x1 - x0 + 1)) c) ((y1 - y0 + 1) * (x1 - x0 + 1)) 2 1 (ints (vRows f x0 (x1 - x0 + 1) y0 (y1 - y0 + 1)))] := by
  have hlen := vRows_len f x0 (x1 - x0 + 1) y0 (y1 - y0 + 1)
  intro w s
  refine (gValues_f hR x0 y0 x1 y1 r2 r3 r5 r6 w s).mono ?_
  rintro e w' ⟨r, hs, rfl, ⟨A, c, rfl, rfl⟩, s', hw⟩
  rw [hlen] at s'
  obtain ⟨g, rfl, _⟩ := rowH_at (Sat.left s') (Nat.mul_pos (by omega) (by omega))
  rw [hlen]
  exact ⟨_, _, rfl, ⟨g, c, rfl, rfl⟩, s', hw⟩
theorem sRepair {R : HP} {pb gb W H L : Nat} {g : Nat → Nat → Int} {F : Nat → Nat → Int × Int} (lb d : Nat) (b : Nat → Nat) (hL : L = levN W H) (hR : ∀ w, Sat R w → GridAt w gb W H g) (x0 y0 x1 y1 : Nat) (hx : x0 ≤ x1) (hy : y0 ≤ y1) (hx1 : x1 < W) (hy1 : y1 < H) :
    FnR Try.prog R 21 [.pointer (some ⟨pb, 0, none⟩), .pointer (some ⟨gb, 0, none⟩), rectV x0 y0 x1 y1] (pyrParts pb W H L F (lb, d, b)) fun r hs => r = .int .i64 0 ∧ hs = pyrParts pb W H L (repF x0 y0 x1 y1 W H g F) (lb, d, b) := by
  refine FnR.of_sat fun w hs => ?_
  obtain ⟨w1, w2, h1, h2⟩ := (hR w hs.rest).size
  clear hs
  have hsz : SizeOk (W : Int) (H : Int) := ⟨by omega, by omega, by omega, by omega⟩
  have hl11 := levN_le hsz
  have hl1 : 1 ≤ levN W H := by unfold levN; omega
  rw [← hL] at hl11 hl1
  have hw0 := halfN_zero w1
  have hh0 := halfN_zero h1
  refine fn_of_run0 false Try.func21 rfl hmix rfl fun w0 => ?_
  conv => whnf
  refine ⟨trivial, LoadAt.cell (.slice (some ⟨lb, 0, none⟩) L d) rfl rfl (fun w hw => (blk_sat (hw.in_ 0 rfl)).cell 0) ?_⟩
  conv => whnf
  obtain ⟨q1, q2, q3⟩ := levV_at W H b (show 0 < L by omega)
  refine ⟨⟨trivial, by omega⟩, LoadAt.agg [.int .i64 (halfN W 0 : Nat), .int .i64 (halfN H 0 : Nat), .slice (some ⟨b 0, 0, none⟩) (nK W H 0) (nK W H 0)] rfl rfl rfl (fun w hw j v hj => ?_) ?_⟩
  · have s := hw.in_ 1 rfl
    rcases j with _ | _ | _ | j
    · simp at hj; rw [← hj]; exact row_at s hl1 q1
    · simp at hj; rw [← hj]; exact row_at s hl1 q2
    · simp at hj; rw [← hj]; exact row_at s hl1 q3
    · simp at hj
  conv => whnf
  refine ⟨trivial, CallAt.pure (fun R' hR' => gSize_p fun w s => hR w (hR' w s).rest) ?_⟩
  conv => whnf
  refine ⟨fun _ => ?_, fun h => absurd h (by rw [hw0]; simp)⟩
  conv => whnf
  refine iff_f (by rw [hh0]; simp) ?_
  conv => whnf
  refine ⟨trivial, CallAt.fn (pre := []) _ (fun h s => s) (fun R' hR' => gValuesS (fun w s => hR w (hR' w s).rest) x0 y0 x1 y1 hx hx1 hy hy1) ?_⟩
  rintro r hs ⟨vb, vc, rfl, rfl⟩
  have hnx : 0 < x1 - x0 + 1 := by omega
  have hnth := vRows_nth g x0 (x1 - x0 + 1) y0 hnx (y1 - y0 + 1)
  have hvl := vRows_len g x0 (x1 - x0 + 1) y0 (y1 - y0 + 1)
  have hn2 : (y1 - y0 + 1) * (x1 - x0 + 1) ≤ 1024 * 1024 := Nat.mul_le_mul (by omega) (by omega)
  have hn0 : 0 < (y1 - y0 + 1) * (x1 - x0 + 1) := Nat.mul_pos (by omega) (by omega)
  have hmul : (x1 - x0 + 1) * (y1 - y0 + 1) = (y1 - y0 + 1) * (x1 - x0 + 1) := Nat.mul_comm _ _
  have hend : repF x0 y0 x1 y1 W H g F 0 = paintC x0 y0 (x1 - x0 + 1) (halfN W 0) g (F 0) ((y1 - y0 + 1) * (x1 - x0 + 1)) := rfl
  have hset := fun k => @paintC_set x0 y0 (x1 - x0 + 1) (halfN W 0) g (F 0) k hnx (by omega)
  have hst := @paintC_start x0 y0 (x1 - x0 + 1) (halfN W 0) g (F 0)
  have hnthI := fun i (hi : i < (x1 - x0 + 1) * (y1 - y0 + 1)) R => sNth x0 y0 x1 y1 i hx (by omega) hy (by omega) hi R
  have hyb : ∀ i, i < (y1 - y0 + 1) * (x1 - x0 + 1) → i / (x1 - x0 + 1) < y1 - y0 + 1 := fun i hi => Nat.div_lt_of_lt_mul (by rw [Nat.mul_comm]; exact hi)
  have hxb : ∀ i, i % (x1 - x0 + 1) < x1 - x0 + 1 := fun i => Nat.mod_lt _ hnx
  have hxx : x0 + (x1 - x0 + 1) = x1 + 1 := by omega
  have hyy : y0 + (y1 - y0 + 1) = y1 + 1 := by omega
  rw [hmul] at hnthI
  generalize x1 - x0 + 1 = nx at *
  generalize y1 - y0 + 1 = ny at *
  obtain ⟨N, hNe⟩ : ∃ N, ny * nx = N := ⟨_, rfl⟩
  rw [hNe] at hnth hvl hn2 hn0 hend hnthI hyb
  rw [hNe]
  obtain ⟨PC, hPC⟩ : ∃ PC, paintC x0 y0 nx (halfN W 0) g (F 0) = PC := ⟨_, rfl⟩
  rw [hPC] at hend hset hst
  have hnK : nK W H 0 ≤ 1024 * 1024 := Nat.mul_le_mul (by omega) (by omega)
  conv => whnf
  refine iff_f (by decide) ?_
  conv => whnf
  refine ⟨trivial, LoopAt.heap (α := Nat) [0, 5, 7, 53, 54] (fun i => [(55, .v (.int .i64 (i : Int)))]) (fun i => rowK W H b 0 (PC i) :: rowH (.slice (some ⟨vb, 0, none⟩) N vc) N 2 1 (ints (vRows g x0 nx y0 ny)) :: blkH pb 81 #[.slice (some ⟨lb, 0, none⟩) L d] :: rowH (.slice (some ⟨lb, 0, none⟩) L d) L 88 3 (levV W H b L) :: levR W H b F L 0)
    (fun i => i ≤ N) (fun i => N - i) 0 (Nat.zero_le _) rfl ⟨⟨rfl, rfl⟩, trivial⟩ ⟨⟨rfl, rfl⟩, ⟨rfl, rfl⟩, ⟨rfl, rfl⟩, ⟨rfl, rfl⟩, ⟨rfl, rfl⟩, trivial⟩ ⟨⟨rfl, rfl, rfl, rfl⟩, ⟨rfl, rfl, rfl, rfl⟩, trivial⟩ (fun h s => sub_same (by rw [hst]; exact sepL_perm (perm3 (levP_perm W H b F (by omega))) s)) ?_⟩
  intro i hi
  conv => whnf
  refine ⟨fun h3 => ?_, fun h3 => ?_⟩
  · have g3 : i < N := by simpa using h3
    have hat := hnth i g3
    have y1b := hyb i g3
    have x1b := hxb i
    have il : (y0 + i / nx) * halfN W 0 + (x0 + i % nx) < nK W H 0 := idx_lt (by rw [hw0]; omega) (by rw [hh0]; omega)
    have hs := hset i
    have z1 : ((y0 + i / nx : Nat) : Int) * ((halfN W 0 : Nat) : Int) = (((y0 + i / nx) * halfN W 0 : Nat) : Int) := by simp
    have z2 : (((y0 + i / nx) * halfN W 0 : Nat) : Int) + ((x0 + i % nx : Nat) : Int) = (((y0 + i / nx) * halfN W 0 + (x0 + i % nx) : Nat) : Int) := by simp
    conv => whnf
    refine ⟨⟨trivial, by omega⟩, LoadAt.cell (.int .i64 (g (x0 + i % nx) (y0 + i / nx))) rfl rfl (fun w hw => ?_) ?_⟩
    · have e : (ints (vRows g x0 nx y0 ny))[i]? = some (.int .i64 (g (x0 + i % nx) (y0 + i / nx))) := by simp [ints, hat]
      have := row_at (hw.in_ 1 rfl) hn0 e
      simpa using this
    conv => whnf
    refine ⟨trivial, CallAt.pure (fun R' hR' => hnthI i g3 R') ?_⟩
    conv => whnf
    rw [z1, z2]
    generalize (y0 + i / nx) * halfN W 0 = q at *
    refine ⟨?_, OpAt.store (b 0) (0 + (q + (x0 + i % nx)) * 2) (rngV (g (x0 + i % nx) (y0 + i / nx)) (g (x0 + i % nx) (y0 + i / nx))) _ rfl (fun h s => s) rfl rfl rfl rfl rfl (by simp [Value.cells, Value.oneCell']) (fun h r => row_put (by simp [Value.cells]; omega) r) ?_⟩
    · repeat' apply And.intro
      all_goals first | exact True.intro | (unfold rng; omega) | omega
    conv => whnf
    refine ⟨⟨trivial, by unfold rng; omega⟩, Next.heap (i + 1) (by omega) (by omega) ⟨⟨rfl, rfl⟩, trivial⟩ ⟨⟨rfl, rfl⟩, ⟨rfl, rfl⟩, ⟨rfl, rfl⟩, ⟨rfl, rfl⟩, ⟨rfl, rfl⟩, trivial⟩ ⟨⟨rfl, rfl, rfl, rfl⟩, ⟨rfl, rfl, rfl, rfl⟩, trivial⟩ rfl rfl fun h s => sub_same ?_⟩
    have e : (rngV (g (x0 + i % nx) (y0 + i / nx)) (g (x0 + i % nx) (y0 + i / nx))).cells.toList = [.int .i64 (g (x0 + i % nx) (y0 + i / nx)), .int .i64 (g (x0 + i % nx) (y0 + i / nx))] := rfl
    rw [← hs]
    unfold rowK
    rw [← celsF_put (g (x0 + i % nx) (y0 + i / nx), g (x0 + i % nx) (y0 + i / nx)) il]
    simpa only [Nat.zero_add, e] using s
  · have g3 : i = N := by simp at h3; omega
    subst g3
    conv => whnf
    have k1 : levP W H b (repK x0 y0 x1 y1 W H g F 1) L = levP W H b (repK x0 y0 x1 y1 W H g F 1) L := rfl
    have hr0 : levR W H b F L 0 = levR W H b (repK x0 y0 x1 y1 W H g F 1) L 0 := levR_congr fun j _ hj => by unfold repK; rw [if_neg (by omega)]
    have hk0 : repK x0 y0 x1 y1 W H g F 1 0 = PC i := by unfold repK; rw [if_pos (by omega), hend]
    have p0 : (levP W H b (repK x0 y0 x1 y1 W H g F 1) L).Perm (rowK W H b 0 (PC i) :: levR W H b F L 0) := by
      rw [hr0, ← hk0]
      exact levP_perm W H b _ (by omega)
    refine ⟨trivial, LoopAt.of (α := Nat) [0, 5] (fun m => [(16, .v (.int .i64 ((m + 1 : Nat) : Int)))]) (fun m => [(0, 45, [.v (.int .i64 ((x0 / 2 ^ m : Nat) : Int)), .v (.int .i64 ((y0 / 2 ^ m : Nat) : Int)), .v (.int .i64 ((x1 / 2 ^ m : Nat) : Int)), .v (.int .i64 ((y1 / 2 ^ m : Nat) : Int))])])
      (fun m => blkH pb 81 #[.slice (some ⟨lb, 0, none⟩) L d] :: rowH (.slice (some ⟨lb, 0, none⟩) L d) L 88 3 (levV W H b L) :: levP W H b (repK x0 y0 x1 y1 W H g F (m + 1)) L) (fun m => m + 1 ≤ L) (fun m => L - m) 0 (by omega)
      (Le.of (Nat.le_of_ble_eq_true rfl) (Nat.zero_le _) ⟨⟨rfl, rfl⟩, ⟨rfl, rfl⟩, ⟨rfl, rfl⟩, trivial⟩ ⟨⟨?_, rfl, rfl, rfl⟩, trivial⟩ fun h s => ?_) ?_⟩
    · simp only [Nat.pow_zero, Nat.div_one]; rfl
    · obtain ⟨h', e, s'⟩ := sub_drop1 s
      exact ⟨h', e, sepL_perm (perm2 p0).symm s'⟩
    intro m hm
    conv => whnf
    refine ⟨trivial, LoadAt.cell (.slice (some ⟨lb, 0, none⟩) L d) rfl rfl (fun w hw => (blk_sat (hw.in_ 0 rfl)).cell 0) ?_⟩
    conv => whnf
    refine ⟨fun h4 => ?_, fun h4 => ?_⟩
    · have g4 : m + 1 < L := by simp at h4; omega
      have e1 : ((m + 1 : Nat) : Int) - 1 = (m : Int) := by omega
      have hv2 : ∀ a : Nat, ((a / 2 ^ m : Nat) : Int) / 2 = ((a / 2 ^ (m + 1) : Nat) : Int) := fun a => by rw [← div_step a m, Nat.pow_one]; simp
      have hle : ∀ a : Nat, a / 2 ^ (m + 1) ≤ a / 2 ^ m ∧ a / 2 ^ m ≤ a ∧ 2 * (a / 2 ^ (m + 1)) ≤ a / 2 ^ m := fun a => by
        have e : a / 2 ^ (m + 1) = a / 2 ^ m / 2 := by rw [← div_step, Nat.pow_one]
        exact ⟨by rw [e]; exact Nat.div_le_self _ _, Nat.div_le_self _ _, by rw [e]; exact Nat.mul_div_le _ _⟩
      obtain ⟨ax1, ax2, ax3⟩ := hle x0
      obtain ⟨ay1, ay2, ay3⟩ := hle y0
      obtain ⟨bx1, bx2, bx3⟩ := hle x1
      obtain ⟨by1, by2, by3⟩ := hle y1
      obtain ⟨p1, p2, p3⟩ := levV_at W H b g4
      obtain ⟨u1, u2, u3⟩ := levV_at W H b (show m < L by omega)
      have cx := cell_in (m + 1) hx1
      have cy := cell_in (m + 1) hy1
      have dx := cell_in m hx1
      have dy := cell_in m hy1
      obtain ⟨_, s1⟩ := half_le (W := W) (k := m + 1) w1
      obtain ⟨_, s2⟩ := half_le (W := H) (k := m + 1) h1
      obtain ⟨_, s3⟩ := half_le (W := W) (k := m) w1
      obtain ⟨_, s4⟩ := half_le (W := H) (k := m) h1
      have hdx := Nat.div_le_div_right (c := 2 ^ (m + 1)) hx
      have hdy := Nat.div_le_div_right (c := 2 ^ (m + 1)) hy
      have hv2x := hv2 x0
      have hv2y := hv2 y0
      have hv2X := hv2 x1
      have hv2Y := hv2 y1
      have hmend := fun (R' : HP) hR' => sMend (R := R') (lb := b (m + 1)) (ub := b m) (lw := halfN W (m + 1)) (lh := halfN H (m + 1)) (uw := halfN W m) (uh := halfN H m) (cl := nK W H (m + 1)) (cu := nK W H m) (c := F (m + 1)) (u := repF x0 y0 x1 y1 W H g F m) (x0 / 2 ^ (m + 1)) (y0 / 2 ^ (m + 1)) (x1 / 2 ^ (m + 1)) (y1 / 2 ^ (m + 1)) hdx hdy cx cy (by omega) (by omega) (by omega) (by omega) (by omega) (by omega) hR'
      have km : repK x0 y0 x1 y1 W H g F (m + 1) m = repF x0 y0 x1 y1 W H g F m := by unfold repK; rw [if_pos (by omega)]
      have kn : repK x0 y0 x1 y1 W H g F (m + 1) (m + 1) = F (m + 1) := by unfold repK; rw [if_neg (by omega)]
      have hn0 : 0 < nK W H m := Nat.mul_pos (by omega) (by omega)
      have pk := levP_perm W H b (repK x0 y0 x1 y1 W H g F (m + 1)) g4
      rw [kn] at pk
      have pn : (levP W H b (repK x0 y0 x1 y1 W H g F (m + 2)) L).Perm (rowK W H b (m + 1) (repF x0 y0 x1 y1 W H g F (m + 1)) :: levR W H b (repK x0 y0 x1 y1 W H g F (m + 1)) L (m + 1)) := by
        have := levP_perm W H b (repK x0 y0 x1 y1 W H g F (m + 2)) g4
        rw [show repK x0 y0 x1 y1 W H g F (m + 2) (m + 1) = repF x0 y0 x1 y1 W H g F (m + 1) from by unfold repK; rw [if_pos (by omega)]] at this
        rwa [levR_congr (G := repK x0 y0 x1 y1 W H g F (m + 1)) fun j _ hj => by
          unfold repK
          by_cases c : j < m + 1
          · rw [if_pos c, if_pos (by omega)]
          · rw [if_neg c, if_neg (by omega)]] at this
      have hmem : rowK W H b m (repF x0 y0 x1 y1 W H g F m) ∈ levR W H b (repK x0 y0 x1 y1 W H g F (m + 1)) L (m + 1) := by
        rw [← km]
        exact levR_mem (by omega) (by omega)
      have hrf : repF x0 y0 x1 y1 W H g F (m + 1) = mendC (x0 / 2 ^ (m + 1)) (y0 / 2 ^ (m + 1)) (x1 / 2 ^ (m + 1)) (y1 / 2 ^ (m + 1)) (halfN W (m + 1)) (halfN W m) (halfN H m) (repF x0 y0 x1 y1 W H g F m) (F (m + 1)) := rfl
      rw [hrf] at pn
      generalize x0 / 2 ^ m = X0 at *
      generalize y0 / 2 ^ m = Y0 at *
      generalize x1 / 2 ^ m = X1 at *
      generalize y1 / 2 ^ m = Y1 at *
      generalize hX0' : x0 / 2 ^ (m + 1) = X0' at *
      generalize hY0' : y0 / 2 ^ (m + 1) = Y0' at *
      generalize hX1' : x1 / 2 ^ (m + 1) = X1' at *
      generalize hY1' : y1 / 2 ^ (m + 1) = Y1' at *
      conv => whnf
      rw [hv2x, hv2y, hv2X, hv2Y]
      refine ⟨?_, RegAt.tail 16 hmix (by kernel_rfl) ?_⟩
      · repeat' apply And.intro
        all_goals first | exact True.intro | (unfold rng; omega) | omega
      conv => whnf
      refine ⟨trivial, LoadAt.cell (.slice (some ⟨lb, 0, none⟩) L d) rfl rfl (fun w hw => (blk_sat (hw.in_ 0 rfl)).cell 0) ?_⟩
      conv => whnf
      refine ⟨⟨trivial, by omega⟩, LoadAt.agg [.int .i64 (halfN W (m + 1) : Nat), .int .i64 (halfN H (m + 1) : Nat), .slice (some ⟨b (m + 1), 0, none⟩) (nK W H (m + 1)) (nK W H (m + 1))] rfl rfl rfl (fun w hw j v hj => ?_) ?_⟩
      · have s := hw.in_ 1 rfl
        rw [Int.toNat_natCast, Nat.zero_add]
        rcases j with _ | _ | _ | j
        · simp at hj; rw [← hj]; exact row_at s hl1 p1
        · simp at hj; rw [← hj]; exact row_at s hl1 p2
        · simp at hj; rw [← hj]; exact row_at s hl1 p3
        · simp at hj
      conv => whnf
      refine ⟨trivial, LoadAt.cell (.slice (some ⟨lb, 0, none⟩) L d) rfl rfl (fun w hw => (blk_sat (hw.in_ 0 rfl)).cell 0) ?_⟩
      conv => whnf
      rw [e1]
      refine ⟨⟨⟨trivial, by unfold rng; omega⟩, by omega⟩, LoadAt.agg [.int .i64 (halfN W m : Nat), .int .i64 (halfN H m : Nat), .slice (some ⟨b m, 0, none⟩) (nK W H m) (nK W H m)] rfl rfl rfl (fun w hw j v hj => ?_) ?_⟩
      · have s := hw.in_ 1 rfl
        rw [Int.toNat_natCast, Nat.zero_add]
        rcases j with _ | _ | _ | j
        · simp at hj; rw [← hj]; exact row_at s hl1 u1
        · simp at hj; rw [← hj]; exact row_at s hl1 u2
        · simp at hj; rw [← hj]; exact row_at s hl1 u3
        · simp at hj
      conv => whnf
      refine ⟨trivial, CallAt.fn (blkH pb 81 #[.slice (some ⟨lb, 0, none⟩) L d] :: rowH (.slice (some ⟨lb, 0, none⟩) L d) L 88 3 (levV W H b L) :: levR W H b (repK x0 y0 x1 y1 W H g F (m + 1)) L (m + 1)) (fun h s => sepL_perm (perm2 pk) s) (fun R' hR' => hmend R' fun w s i hi => rowK_read (Sat_mem (hR' w s) (List.mem_cons_of_mem _ (List.mem_cons_of_mem _ hmem))) hn0 hi) ?_⟩
      rintro r hs ⟨rfl, rfl⟩
      conv => whnf
      refine ⟨trivial, ?_⟩
      conv => whnf
      refine ⟨⟨trivial, by unfold rng; omega⟩, .mk (m + 1) (by omega) (by omega) ?_⟩
      refine Le.of (Nat.le_of_ble_eq_true rfl) (Nat.zero_le _) ⟨⟨rfl, rfl⟩, ⟨rfl, rfl⟩, ⟨rfl, rfl⟩, trivial⟩ ⟨⟨?_, rfl, rfl, rfl⟩, trivial⟩ fun h s => sub_same (sepL_perm (perm2 pn).symm s)
      rw [hX0', hY0', hX1', hY1']
      rfl
    · have g4 : m + 1 = L := by simp at h4; omega
      conv => whnf
      refine ⟨trivial, .mk _ (fun w s => s) ⟨rfl, ?_⟩⟩
      have : levP W H b (repF x0 y0 x1 y1 W H g F) L = levP W H b (repK x0 y0 x1 y1 W H g F (m + 1)) L := by
        apply List.map_congr_left
        intro j hj
        have := List.mem_range.1 hj
        unfold repK
        rw [if_pos (by omega)]
      unfold pyrParts
      rw [this]
end Go.Proofs.Ytccpgalpahfpaaa

/-
  What a pyramid shows, and what it shows when it was mended.
-/
namespace Go.Proofs.Ytccpgalpahfpaaa
open Go.RowKit
open Sy
set_option linter.unusedVariables false
set_option linter.unusedSimpArgs false
set_option maxRecDepth 100000
set_option maxHeartbeats 4000000

/-- the pyramid of a grid -/
def Pf (W H : Nat) (f : Nat → Nat → Int) (k i : Nat) : Int × Int := (lv mnL W H k f (i % halfN W k) (i / halfN W k), lv mxL W H k f (i % halfN W k) (i / halfN W k))
def mergeG (x0 y0 x1 y1 : Nat) (g f : Nat → Nat → Int) (x y : Nat) : Int := if x0 ≤ x ∧ x ≤ x1 ∧ y0 ≤ y ∧ y ≤ y1 then g x y else f x y

section
variable {uw uh : Nat} {u : Nat → Int × Int} {x y : Nat}
theorem kv_in (hx : 2 * x < uw) (hy : 2 * y < uh) : ∀ j, j ≤ 4 → (∃ a b, a < uw ∧ b < uh ∧ a / 2 ^ 1 = x ∧ b / 2 ^ 1 = y ∧ (u (b * uw + a)).1 = (kv uw uh u x y j).1) ∧ (∃ a b, a < uw ∧ b < uh ∧ a / 2 ^ 1 = x ∧ b / 2 ^ 1 = y ∧ (u (b * uw + a)).2 = (kv uw uh u x y j).2)
  | 0, _ => ⟨⟨2 * x, 2 * y, hx, hy, by omega, by omega, rfl⟩, ⟨2 * x, 2 * y, hx, hy, by omega, by omega, rfl⟩⟩
  | j + 1, hj => by
    obtain ⟨h1, h2⟩ := kv_in hx hy j (by omega)
    by_cases c : 2 * x + j % 2 < uw ∧ 2 * y + j / 2 < uh
    · rw [kv_yes c.1 c.2]
      unfold jn
      constructor
      · rcases (show min (kv uw uh u x y j).1 (u ((2 * y + j / 2) * uw + (2 * x + j % 2))).1 = (kv uw uh u x y j).1 ∨ min (kv uw uh u x y j).1 (u ((2 * y + j / 2) * uw + (2 * x + j % 2))).1 = (u ((2 * y + j / 2) * uw + (2 * x + j % 2))).1 by omega) with e | e
        · simp only [e]; exact h1
        · simp only [e]; exact ⟨_, _, c.1, c.2, by omega, by omega, rfl⟩
      · rcases (show max (kv uw uh u x y j).2 (u ((2 * y + j / 2) * uw + (2 * x + j % 2))).2 = (kv uw uh u x y j).2 ∨ max (kv uw uh u x y j).2 (u ((2 * y + j / 2) * uw + (2 * x + j % 2))).2 = (u ((2 * y + j / 2) * uw + (2 * x + j % 2))).2 by omega) with e | e
        · simp only [e]; exact h2
        · simp only [e]; exact ⟨_, _, c.1, c.2, by omega, by omega, rfl⟩
    · rw [kv_no c]
      exact ⟨h1, h2⟩
theorem kv_mono (j : Nat) : ∀ d, (kv uw uh u x y (j + d)).1 ≤ (kv uw uh u x y j).1 ∧ (kv uw uh u x y j).2 ≤ (kv uw uh u x y (j + d)).2
  | 0 => ⟨Int.le_refl _, Int.le_refl _⟩
  | d + 1 => by
    obtain ⟨h1, h2⟩ := kv_mono j d
    rw [show j + (d + 1) = (j + d) + 1 from rfl]
    by_cases c : 2 * x + (j + d) % 2 < uw ∧ 2 * y + (j + d) / 2 < uh
    · rw [kv_yes c.1 c.2]
      unfold jn
      simp only
      omega
    · rw [kv_no c]; exact ⟨h1, h2⟩
theorem kv_le {a b : Nat} (ha : a < uw) (hb : b < uh) (ex : a / 2 ^ 1 = x) (ey : b / 2 ^ 1 = y) : (kv uw uh u x y 4).1 ≤ (u (b * uw + a)).1 ∧ (u (b * uw + a)).2 ≤ (kv uw uh u x y 4).2 := by
  rw [Nat.pow_one] at ex ey
  obtain ⟨j, hj, e1, e2⟩ : ∃ j, j < 4 ∧ a = 2 * x + j % 2 ∧ b = 2 * y + j / 2 := ⟨(a - 2 * x) + 2 * (b - 2 * y), by omega, by omega, by omega⟩
  have h := @kv_yes uw uh u x y j (by omega) (by omega)
  obtain ⟨h1, h2⟩ := @kv_mono uw uh u x y (j + 1) (3 - j)
  rw [show j + 1 + (3 - j) = 4 by omega, h] at h1 h2
  rw [← e1, ← e2] at h1 h2
  unfold jn at h1 h2
  simp only at h1 h2
  omega
theorem kv_congr {v : Nat → Int × Int} (hx : 2 * x < uw) (hy : 2 * y < uh) (h : ∀ i, i < uw * uh → u i = v i) : ∀ j, kv uw uh u x y j = kv uw uh v x y j
  | 0 => h _ (idx_lt hx hy)
  | j + 1 => by
    by_cases c : 2 * x + j % 2 < uw ∧ 2 * y + j / 2 < uh
    · rw [kv_yes c.1 c.2, kv_yes c.1 c.2, kv_congr hx hy h j, h _ (idx_lt c.1 c.2)]
    · rw [kv_no c, kv_no c, kv_congr hx hy h j]
end
theorem xy_mod {W x y : Nat} (hx : x < W) : (y * W + x) % W = x ∧ (y * W + x) / W = y := by
  obtain ⟨h1, h2⟩ := (xy_of (k := y * W + x) (y := y) hx).1 rfl
  exact ⟨h1.symm, h2.symm⟩
theorem twice {W k x : Nat} (hx : x < halfN W (k + 1)) : 2 * x < halfN W k := by
  have := half_mul hx
  unfold halfN
  have h2 : 2 * x ≤ (W - 1) / 2 ^ k := by
    rw [Nat.le_div_iff_mul_le (pow_pos' k)]
    rw [Nat.pow_succ] at this
    calc 2 * x * 2 ^ k = x * (2 ^ k * 2) := by rw [Nat.mul_comm 2 x, Nat.mul_assoc, Nat.mul_comm 2]
      _ ≤ W - 1 := this
  omega
theorem pyr_step {W H k x y : Nat} {f : Nat → Nat → Int} (hW : 1 ≤ W) (hH : 1 ≤ H) (hx : x < halfN W (k + 1)) (hy : y < halfN H (k + 1)) :
    kv (halfN W k) (halfN H k) (Pf W H f k) x y 4 = (lv mnL W H (k + 1) f x y, lv mxL W H (k + 1) f x y) := by
  have w1 := (half_le (k := k) hW).1
  have h1 := (half_le (k := k) hH).1
  have hx' : x < halfN (halfN W k) 1 := by rw [halfN_step]; exact hx
  have hy' : y < halfN (halfN H k) 1 := by rw [halfN_step]; exact hy
  obtain ⟨⟨a, b, ha, hb, ea, eb, e1⟩, ⟨a', b', ha', hb', ea', eb', e2⟩⟩ := kv_in (u := Pf W H f k) (twice hx) (twice hy) 4 (Nat.le_refl _)
  have le := fun a b ha hb ea eb => @kv_le (halfN W k) (halfN H k) (Pf W H f k) x y a b ha hb ea eb
  have hP : ∀ a b, a < halfN W k → Pf W H f k (b * halfN W k + a) = (lv mnL W H k f a b, lv mxL W H k f a b) := fun a b ha => by
    unfold Pf
    rw [(xy_mod ha).1, (xy_mod ha).2]
  rw [hP a b ha] at e1
  rw [hP a' b' ha'] at e2
  refine Prod.ext ?_ ?_
  · show _ = lv mnL W H (k + 1) f x y
    rw [← lv_mn_step hW hH hx hy]
    symm
    refine mnL_eq ((mem_spL w1 h1 hx' hy' _).2 ⟨a, b, ha, hb, ea, eb, e1⟩) fun v hv => ?_
    obtain ⟨c, d, hc, hd, ec, ed, ev⟩ := (mem_spL w1 h1 hx' hy' _).1 hv
    have := (le c d hc hd ec ed).1
    rw [hP c d hc] at this
    rw [← ev]; exact this
  · show _ = lv mxL W H (k + 1) f x y
    rw [← lv_mx_step hW hH hx hy]
    symm
    refine mxL_eq ((mem_spL w1 h1 hx' hy' _).2 ⟨a', b', ha', hb', ea', eb', e2⟩) fun v hv => ?_
    obtain ⟨c, d, hc, hd, ec, ed, ev⟩ := (mem_spL w1 h1 hx' hy' _).1 hv
    have := (le c d hc hd ec ed).2
    rw [hP c d hc] at this
    rw [← ev]; exact this
theorem vRows_congr {f g : Nat → Nat → Int} {x0 nx y0 ny : Nat} (h : ∀ i j, i < nx → j < ny → f (x0 + i) (y0 + j) = g (x0 + i) (y0 + j)) : vRows f x0 nx y0 ny = vRows g x0 nx y0 ny := by
  apply List.ext_getElem?
  intro i
  rcases Nat.eq_zero_or_pos nx with e | e
  · subst e
    rw [List.getElem?_eq_none (by rw [vRows_len]; omega), List.getElem?_eq_none (by rw [vRows_len]; omega)]
  · by_cases c : i < ny * nx
    · rw [vRows_nth f x0 nx y0 e ny i c, vRows_nth g x0 nx y0 e ny i c, h _ _ (Nat.mod_lt _ e) (Nat.div_lt_of_lt_mul (by rw [Nat.mul_comm]; exact c))]
    · rw [List.getElem?_eq_none (by rw [vRows_len]; omega), List.getElem?_eq_none (by rw [vRows_len]; omega)]
theorem lv_congr {ag : List Int → Int} {W H k x y : Nat} {f g : Nat → Nat → Int} (hW : 1 ≤ W) (hH : 1 ≤ H) (hx : x < halfN W k) (hy : y < halfN H k) (h : ∀ a b, a < W → b < H → a / 2 ^ k = x → b / 2 ^ k = y → f a b = g a b) : lv ag W H k f x y = lv ag W H k g x y := by
  obtain ⟨sx1, sx2⟩ := sp_ok hW hx
  obtain ⟨sy1, sy2⟩ := sp_ok hH hy
  unfold lv spL
  congr 1
  refine vRows_congr fun i j hi hj => ?_
  have hq := pow_pos' k
  unfold spX1 at sx1 sx2 sy1 sy2 hi hj
  rw [Nat.add_mul] at sx1 sx2 sy1 sy2 hi hj
  refine h _ _ (by omega) (by omega) ?_ ?_
  · rw [Nat.mul_comm, Nat.mul_add_div hq, Nat.div_eq_of_lt (by omega)]; rfl
  · rw [Nat.mul_comm, Nat.mul_add_div hq, Nat.div_eq_of_lt (by omega)]; rfl
theorem Pf_congr {W H k i : Nat} {f g : Nat → Nat → Int} (hW : 1 ≤ W) (hH : 1 ≤ H) (hi : i < nK W H k) (h : ∀ a b, a < W → b < H → f a b = g a b) : Pf W H f k i = Pf W H g k i := by
  have hx : i % halfN W k < halfN W k := Nat.mod_lt _ (half_le hW).1
  have hy : i / halfN W k < halfN H k := Nat.div_lt_of_lt_mul hi
  unfold Pf
  rw [lv_congr hW hH hx hy fun a b ha hb _ _ => h a b ha hb, lv_congr hW hH hx hy fun a b ha hb _ _ => h a b ha hb]

theorem repF_Pf {x0 y0 x1 y1 W H : Nat} {f g : Nat → Nat → Int} {F : Nat → Nat → Int × Int} (hx : x0 ≤ x1) (hy : y0 ≤ y1) (hx1 : x1 < W) (hy1 : y1 < H) (hF : ∀ k i, i < nK W H k → F k i = Pf W H f k i) :
    ∀ k i, i < nK W H k → repF x0 y0 x1 y1 W H g F k i = Pf W H (mergeG x0 y0 x1 y1 g f) k i
  | 0, i, hi => by
    have hi0 := hi
    unfold nK at hi
    rw [halfN_zero (by omega), halfN_zero (by omega)] at hi
    have hxm : i % W < W := Nat.mod_lt _ (by omega)
    have hym : i / W < H := Nat.div_lt_of_lt_mul hi
    have e0 : ∀ f : Nat → Nat → Int, Pf W H f 0 i = (f (i % W) (i / W), f (i % W) (i / W)) := fun f => by
      unfold Pf
      rw [halfN_zero (by omega), lv_zero (fun v => rfl) hxm hym, lv_zero (fun v => rfl) hxm hym]
    rw [e0]
    show paintC x0 y0 (x1 - x0 + 1) (halfN W 0) g (F 0) ((y1 - y0 + 1) * (x1 - x0 + 1)) i = _
    unfold paintC mergeG
    rw [halfN_zero (by omega), hF 0 i hi0, e0]
    by_cases c : x0 ≤ i % W ∧ i % W ≤ x1 ∧ y0 ≤ i / W ∧ i / W ≤ y1
    · have := idx_lt (a := x1 - x0 + 1) (b := y1 - y0 + 1) (i := i % W - x0) (j := i / W - y0) (by omega) (by omega)
      rw [Nat.mul_comm (x1 - x0 + 1)] at this
      rw [if_pos c, if_pos ⟨c.1, by omega, c.2.2.1, this⟩]
    · rw [if_neg c, if_neg]
      rintro ⟨c1, c2, c3, c4⟩
      refine c ⟨c1, by omega, c3, ?_⟩
      have h4 : (i / W - y0) * (x1 - x0 + 1) < (y1 - y0 + 1) * (x1 - x0 + 1) := by omega
      have := Nat.lt_of_mul_lt_mul_right h4
      omega
  | k + 1, i, hi => by
    have hW : 1 ≤ W := by omega
    have hH : 1 ≤ H := by omega
    have hxm : i % halfN W (k + 1) < halfN W (k + 1) := Nat.mod_lt _ (half_le hW).1
    have hym : i / halfN W (k + 1) < halfN H (k + 1) := Nat.div_lt_of_lt_mul hi
    show mendC (x0 / 2 ^ (k + 1)) (y0 / 2 ^ (k + 1)) (x1 / 2 ^ (k + 1)) (y1 / 2 ^ (k + 1)) (halfN W (k + 1)) (halfN W k) (halfN H k) (repF x0 y0 x1 y1 W H g F k) (F (k + 1)) i = _
    unfold mendC
    by_cases c : x0 / 2 ^ (k + 1) ≤ i % halfN W (k + 1) ∧ i % halfN W (k + 1) ≤ x1 / 2 ^ (k + 1) ∧ y0 / 2 ^ (k + 1) ≤ i / halfN W (k + 1) ∧ i / halfN W (k + 1) ≤ y1 / 2 ^ (k + 1)
    · rw [if_pos c, kv_congr (twice hxm) (twice hym) (repF_Pf hx hy hx1 hy1 hF k), pyr_step hW hH hxm hym]
      rfl
    · rw [if_neg c, hF (k + 1) i hi]
      unfold Pf
      have key : ∀ a b, a < W → b < H → a / 2 ^ (k + 1) = i % halfN W (k + 1) → b / 2 ^ (k + 1) = i / halfN W (k + 1) → f a b = mergeG x0 y0 x1 y1 g f a b := by
        intro a b ha hb ea eb
        unfold mergeG
        rw [if_neg]
        rintro ⟨c1, c2, c3, c4⟩
        refine c ⟨?_, ?_, ?_, ?_⟩
        · rw [← ea]; exact Nat.div_le_div_right c1
        · rw [← ea]; exact Nat.div_le_div_right c2
        · rw [← eb]; exact Nat.div_le_div_right c3
        · rw [← eb]; exact Nat.div_le_div_right c4
      rw [lv_congr hW hH hxm hym key, lv_congr hW hH hxm hym key]
end Go.Proofs.Ytccpgalpahfpaaa

/-
  Pyramids as one part of the heap; Repair again; pyr.Build.
-/
namespace Go.Proofs.Ytccpgalpahfpaaa
open Go.RowKit
open Sy
set_option linter.unusedVariables false
set_option linter.unusedSimpArgs false
set_option maxRecDepth 100000
set_option maxHeartbeats 4000000

def pyrH (pb W H : Nat) (F : Nat → Nat → Int × Int) : HP := boxH (pyrParts pb W H (levN W H) F)
theorem levP_congr {W H L : Nat} {b : Nat → Nat} {F G : Nat → Nat → Int × Int} (h : ∀ k i, k < L → i < nK W H k → F k i = G k i) : levP W H b F L = levP W H b G L := by
  apply List.map_congr_left
  intro k hk
  unfold rowK
  rw [celsF_congr fun i hi => h k i (List.mem_range.1 hk) hi]
theorem pyrParts_congr {pb W H L : Nat} {F G : Nat → Nat → Int × Int} (h : ∀ k i, k < L → i < nK W H k → F k i = G k i) (x : Nat × Nat × (Nat → Nat)) : pyrParts pb W H L F x = pyrParts pb W H L G x := by
  unfold pyrParts
  rw [levP_congr h]
theorem sRepairP {R : HP} {pb gb W H : Nat} {f g : Nat → Nat → Int} (hR : ∀ w, Sat R w → GridAt w gb W H g) (x0 y0 x1 y1 : Nat) (hx : x0 ≤ x1) (hy : y0 ≤ y1) (hx1 : x1 < W) (hy1 : y1 < H) :
    FnR Try.prog R 21 [.pointer (some ⟨pb, 0, none⟩), .pointer (some ⟨gb, 0, none⟩), rectV x0 y0 x1 y1] [pyrH pb W H (Pf W H f)] fun r hs => r = .int .i64 0 ∧ hs = [pyrH pb W H (Pf W H (mergeG x0 y0 x1 y1 g f))] := by
  refine FnR.unbox fun ⟨lb, d, b⟩ => ?_
  rw [List.append_nil]
  refine (sRepair lb d b rfl hR x0 y0 x1 y1 hx hy hx1 hy1).post ?_
  rintro v hs ⟨rfl, rfl⟩
  refine ⟨_, ⟨rfl, rfl⟩, fun h s => boxH_shut (lb, d, b) ?_⟩
  rw [List.append_nil, ← pyrParts_congr fun k i hk hi => repF_Pf hx hy hx1 hy1 (fun _ _ _ => rfl) k i hi]
  exact s
theorem Pf_zero {W H k i : Nat} (hW : 1 ≤ W) (hH : 1 ≤ H) (hi : i < nK W H k) : Pf W H (fun _ _ => 0) k i = (0, 0) := by
  have hx : i % halfN W k < halfN W k := Nat.mod_lt _ (half_le hW).1
  have hy : i / halfN W k < halfN H k := Nat.div_lt_of_lt_mul hi
  have hne := spL_ne (f := fun _ _ => 0) hW hH hx hy
  have h1 := (mem_spL hW hH hx hy _).1 (mnL_mem hne)
  have h2 := (mem_spL hW hH hx hy _).1 (mxL_mem hne)
  obtain ⟨_, _, _, _, _, _, e1⟩ := h1
  obtain ⟨_, _, _, _, _, _, e2⟩ := h2
  unfold Pf lv
  rw [← e1, ← e2]
theorem mergeG_all {W H : Nat} {f g : Nat → Nat → Int} {x y : Nat} (hx : x < W) (hy : y < H) : mergeG 0 0 (W - 1) (H - 1) f g x y = f x y := by
  unfold mergeG
  rw [if_pos ⟨Nat.zero_le _, by omega, Nat.zero_le _, by omega⟩]
theorem flatMap_congr' {α β : Type} {l : List α} {f g : α → List β} (h : ∀ a ∈ l, f a = g a) : l.flatMap f = l.flatMap g := by rw [List.flatMap_def, List.flatMap_def, List.map_congr_left h]
theorem levV_succ {W H L g : Nat} {b : Nat → Nat} : levV W H (fun j => if j = L then g else b j) (L + 1) = levV W H b L ++ [.int .i64 (halfN W L : Nat), .int .i64 (halfN H L : Nat), .slice (some ⟨g, 0, none⟩) (nK W H L) (nK W H L)] := by
  unfold levV
  rw [List.range_succ, List.flatMap_append]
  congr 1
  · apply flatMap_congr'
    intro k hk
    have := List.mem_range.1 hk
    simp only [if_neg (show ¬ k = L by omega)]
  · simp
theorem levP_succ {W H L g : Nat} {b : Nat → Nat} {F : Nat → Nat → Int × Int} : levP W H (fun j => if j = L then g else b j) F (L + 1) = levP W H b F L ++ [rowH (.slice (some ⟨g, 0, none⟩) (nK W H L) (nK W H L)) (nK W H L) 39 2 (celsF (nK W H L) (F L))] := by
  unfold levP
  rw [List.range_succ, List.map_append]
  congr 1
  · apply List.map_congr_left
    intro k hk
    have := List.mem_range.1 hk
    simp only [rowK, if_neg (show ¬ k = L by omega)]
  · simp [rowK]
theorem made_rng (n : Nat) : (madeCells (Value.agg #[.int .i64 0, .int .i64 0]).cells (n * 2)).toList = celsF n fun _ => (0, 0) := by
  rw [celsF_zero]
  exact made_const (z := #[.int .i64 0, .int .i64 0]) (by intro i hi; simp at hi; rcases (show i = 0 ∨ i = 1 by omega) with e | e <;> subst e <;> rfl) (by simp) _
theorem levV_one (W H : Nat) (b : Nat → Nat) : ∀ L, ∀ u ∈ levV W H b L, u.oneCell' = true := by
  intro L u hu
  unfold levV at hu
  obtain ⟨k, _, hk⟩ := List.mem_flatMap.1 hu
  simp at hk
  rcases hk with e | e | e <;> subst e <;> rfl

theorem sBuild {R : HP} {gb W H : Nat} {f : Nat → Nat → Int} (hR : ∀ w, Sat R w → GridAt w gb W H f) :
    FnR Try.prog R 14 [.pointer (some ⟨gb, 0, none⟩)] [] fun r hs => ∃ pb, r = .tuple #[.pointer (some ⟨pb, 0, none⟩), .int .i64 0] ∧ hs = [pyrH pb W H (Pf W H f)] := by
  refine FnR.of_sat fun w hs => ?_
  obtain ⟨w1, w2, h1, h2⟩ := (hR w hs).size
  clear hs
  have hsz : SizeOk (W : Int) (H : Int) := ⟨by omega, by omega, by omega, by omega⟩
  have hl11 := levN_le hsz
  have hl1 : 1 ≤ levN W H := by unfold levN; omega
  have hls := fun R' => sLevels W H hsz R'
  have hts := fun (k : Nat) (hk : k < levN W H) R' => sTSize W H k hsz hk R'
  have hrep := fun (pb lb d : Nat) (b : Nat → Nat) (R' : HP) hR' => sRepair (R := R') (pb := pb) (gb := gb) (g := f) (F := fun _ _ => (0, 0)) lb d b (rfl : levN W H = levN W H) hR' 0 0 (W - 1) (H - 1) (Nat.zero_le _) (Nat.zero_le _) (by omega) (by omega)
  have hcong : ∀ k i, k < levN W H → i < nK W H k → repF 0 0 (W - 1) (H - 1) W H f (fun _ _ => (0, 0)) k i = Pf W H f k i := fun k i _ hi => by
    rw [repF_Pf (f := fun _ _ => 0) (Nat.zero_le _) (Nat.zero_le _) (by omega) (by omega) (fun k i hi => (Pf_zero w1 h1 hi).symm) k i hi]
    exact Pf_congr w1 h1 hi fun a b ha hb => mergeG_all ha hb
  have ew : ((W : Int) - 1) = ((W - 1 : Nat) : Int) := by omega
  have eh : ((H : Int) - 1) = ((H - 1 : Nat) : Int) := by omega
  have hpy : ∀ pb : Nat, pyrH pb W H (Pf W H f) = boxH (pyrParts pb W H (levN W H) (repF 0 0 (W - 1) (H - 1) W H f fun _ _ => (0, 0))) := fun pb => by
    unfold pyrH
    congr 1
    funext x
    exact (pyrParts_congr hcong x).symm
  simp only [hpy]
  generalize hrf : repF 0 0 (W - 1) (H - 1) W H f (fun _ _ => (0, 0)) = RF at *
  obtain ⟨L, hL⟩ : ∃ L, levN W H = L := ⟨_, rfl⟩
  rw [hL] at hl11 hl1 hls hts hrep
  simp only [hL]
  refine fn_of_run0 false Try.func14 rfl hmix rfl fun w0 => ?_
  conv => whnf
  refine ⟨trivial, CallAt.pure (fun R' hR' => gSize_p fun w s => hR w (hR' w s)) ?_⟩
  conv => whnf
  refine ⟨trivial, CallAt.pure (fun R' hR' => hls R') ?_⟩
  conv => whnf
  refine ⟨trivial, LoopAt.of (α := Nat × Option Addr × Nat × (Nat → Nat)) [0, 4, 5, 6, 28] (fun a => [(29, .v (.int .i64 (a.1 : Int)))]) (fun a => [(0, 81, [.v (.slice a.2.1 a.1 a.2.2.1)])])
    (fun a => rowH (.slice a.2.1 a.1 a.2.2.1) a.1 88 3 (levV W H a.2.2.2 a.1) :: levP W H a.2.2.2 (fun _ _ => (0, 0)) a.1) (fun a => a.1 ≤ L ∧ (0 < a.1 → ∃ g, a.2.1 = some ⟨g, 0, none⟩)) (fun a => L - a.1) (0, none, 0, fun _ => 0) ⟨Nat.zero_le _, fun h => absurd h (Nat.lt_irrefl _)⟩
    (Le.of (Nat.le_of_ble_eq_true rfl) (Nat.zero_le _) ⟨⟨rfl, rfl⟩, ⟨rfl, rfl⟩, ⟨rfl, rfl⟩, ⟨rfl, rfl⟩, ⟨rfl, rfl⟩, ⟨rfl, rfl⟩, trivial⟩ ⟨⟨rfl, rfl, rfl, rfl⟩, trivial⟩ fun h s => sub_same (row_nil _ _ s)) ?_⟩
  rintro ⟨k, B, d, b⟩ ⟨hk, hB⟩
  simp only at hk hB
  conv => whnf
  refine ⟨fun h4 => ?_, fun h4 => ?_⟩
  · have g4 : k < L := by simpa using h4
    obtain ⟨_, s1⟩ := half_le (W := W) (k := k) w1
    obtain ⟨_, s2⟩ := half_le (W := H) (k := k) h1
    have hnK : nK W H k ≤ 1024 * 1024 := Nat.mul_le_mul (by omega) (by omega)
    have z1 : ((halfN W k : Nat) : Int) * ((halfN H k : Nat) : Int) = ((nK W H k : Nat) : Int) := by unfold nK; simp
    have hsucc := @levV_succ W H k
    have hsucP := @levP_succ W H k
    conv => whnf
    refine ⟨trivial, CallAt.pure (fun R' hR' => hts k g4 R') ?_⟩
    conv => whnf
    refine ⟨trivial, RegAt.groups0 [([.T 0, .T 1, .T 2, .T 3, .T 4, .T 5, .T 6, .T 7, .T 8, .T 9, .H 10, .T 11, .H 12, .H 13], 14), ([.T 14], 15), ([.T 15], 16), ([.H 16], 17)] hmix (by kernel_rfl) ?_⟩
    conv => whnf
    rw [z1]
    refine ⟨⟨trivial, by unfold rng; omega⟩, OpAt.make (nK W H k) 2 (celsF (nK W H k) fun _ => (0, 0)) rfl rfl rfl rfl rfl rfl rfl rfl (made_rng _) (by show 16 * nK W H k ≤ _; omega) (by simp only [maxLen]; omega) fun g => ?_⟩
    conv => whnf
    refine ⟨trivial, ⟨⟨rfl, rfl⟩, fun h s => sub_nil s⟩, ?_⟩
    conv => whnf
    refine ⟨trivial, OpAt.lit [.agg #[.int .i64 (halfN W k : Nat), .int .i64 (halfN H k : Nat), .slice (some ⟨g, 0, none⟩) (nK W H k) (nK W H k)]] 3 rfl rfl rfl rfl rfl (by decide) rfl rfl rfl (by simp [Value.cells]) rfl (by decide) fun g3 => ?_⟩
    conv => whnf
    refine ⟨trivial, ⟨⟨rfl, rfl⟩, fun h s => sub_nil s⟩, ?_⟩
    conv => whnf
    refine ⟨trivial, OpAt.append1 (.slice B k d) k 3 40 (levV W H b k) [.int .i64 (halfN W k : Nat), .int .i64 (halfN H k : Nat), .slice (some ⟨g, 0, none⟩) (nK W H k) (nK W H k)] (some ⟨g3, 0, none⟩) 1 1 _ rfl (fun h s => sepL_pull 2 s) rfl rfl rfl rfl rfl rfl rfl rfl rfl (by decide) (fun w hw => rowH_reads rfl (Sat.left hw)) (by simp [Value.oneCell']) (by simp only [maxLen]; omega) (by omega) (by omega) fun B' d' => ?_⟩
    conv => whnf
    refine ⟨trivial, ⟨⟨rfl, rfl⟩, fun h s => sub_nil s⟩, ?_⟩
    conv => whnf
    refine ⟨trivial, ?_⟩
    conv => whnf
    refine ⟨⟨trivial, by unfold rng; omega⟩, .mk (k + 1, some ⟨B', 0, none⟩, d', fun j => if j = k then g else b j) ⟨g4, fun _ => ⟨B', rfl⟩⟩ (by simp only; omega) ?_⟩
    refine Le.of (Nat.le_of_ble_eq_true rfl) (Nat.zero_le _) ⟨⟨rfl, rfl⟩, ⟨rfl, rfl⟩, ⟨rfl, rfl⟩, ⟨rfl, rfl⟩, ⟨rfl, rfl⟩, ⟨rfl, rfl⟩, trivial⟩ ⟨⟨rfl, rfl, rfl, rfl⟩, trivial⟩ fun h s => ?_
    obtain ⟨h', e, s'⟩ := sub_drop1 s
    refine ⟨h', e, ?_⟩
    show sepL (rowH (.slice (some ⟨B', 0, none⟩) (k + 1) d') (k + 1) 88 3 (levV W H (fun j => if j = k then g else b j) (k + 1)) :: levP W H (fun j => if j = k then g else b j) (fun _ _ => (0, 0)) (k + 1)) _ h'
    rw [hsucc, hsucP]
    exact sepL_perm ((List.perm_append_singleton _ _).symm.cons _) s'
  · have g4 : k = L := by simp at h4; omega
    subst g4
    obtain ⟨lb, rfl⟩ := hB (by omega)
    conv => whnf
    refine ⟨trivial, CallAt.pure (fun R' hR' => gAll_p fun w s => hR w (hR' w s).rest) ?_⟩
    conv => whnf
    intro pb _
    conv => whnf
    rw [ew, eh]
    refine ⟨trivial, CallAt.fn (pre := pyrParts pb W H k (fun _ _ => (0, 0)) (lb, d, b)) [] (fun h s => by rw [List.append_nil]; exact s) (fun R' hR' => hrep pb lb d b R' fun w s => hR w (hR' w s)) ?_⟩
    rintro r hs ⟨rfl, rfl⟩
    conv => whnf
    refine ⟨trivial, .mk [boxH (pyrParts pb W H k RF)] (fun w ⟨h, hs, s⟩ => ⟨h, hs, boxH_shut (lb, d, b) ?_⟩) ⟨pb, rfl, rfl⟩⟩
    exact s
end Go.Proofs.Ytccpgalpahfpaaa

/-
  Pyramids read: Size, Levels, At; ref16.At.
-/
namespace Go.Proofs.Ytccpgalpahfpaaa
open Go.RowKit
open Sy
set_option linter.unusedVariables false
set_option linter.unusedSimpArgs false
set_option maxRecDepth 100000
set_option maxHeartbeats 4000000

theorem was_cell {w w' : World} (s : Sat (was w) w') {a : Addr} {v : Value} (h : w.cell? a = some v) : w'.cell? a = some v := by
  have hlt := World.block_lt_of_cell? w a h
  have e : w'.heap[a.block]? = w.heap[a.block]? := by
    have e0 : w.heap[a.block]? = some w.heap[a.block] := Array.getElem?_eq_getElem hlt
    rw [e0]; exact was_ext s e0
  rw [← h]
  simp only [World.cell?, e]
/-- what a pyramid shows -/
structure PyrOpen (w : World) (pb W H L : Nat) (F : Nat → Nat → Int × Int) (lb d : Nat) (b : Nat → Nat) : Prop where
  head : w.cell? ⟨pb, 0, none⟩ = some (.slice (some ⟨lb, 0, none⟩) L d)
  wid : ∀ k, k < L → w.cell? ⟨lb, k * 3, none⟩ = some (.int .i64 (halfN W k : Nat))
  hei : ∀ k, k < L → w.cell? ⟨lb, k * 3 + 1, none⟩ = some (.int .i64 (halfN H k : Nat))
  row : ∀ k, k < L → w.cell? ⟨lb, k * 3 + 2, none⟩ = some (.slice (some ⟨b k, 0, none⟩) (nK W H k) (nK W H k))
  cel : ∀ k i, k < L → i < nK W H k → w.cell? ⟨b k, i * 2, none⟩ = some (.int .i64 (F k i).1) ∧ w.cell? ⟨b k, i * 2 + 1, none⟩ = some (.int .i64 (F k i).2)
theorem pyr_open {w : World} {pb W H : Nat} {F : Nat → Nat → Int × Int} (s : Sat (pyrH pb W H F) w) (hl : 0 < levN W H) : ∃ lb d b, PyrOpen w pb W H (levN W H) F lb d b := by
  obtain ⟨⟨lb, d, b⟩, s⟩ := Sat.unbox s
  refine ⟨lb, d, b, (blk_sat (s.in_ 0 rfl)).cell 0, fun k hk => row_at (s.in_ 1 rfl) hl (levV_at W H b hk).1, fun k hk => row_at (s.in_ 1 rfl) hl (levV_at W H b hk).2.1, fun k hk => row_at (s.in_ 1 rfl) hl (levV_at W H b hk).2.2, fun k i hk hi => ?_⟩
  have : rowK W H b k (F k) ∈ pyrParts pb W H (levN W H) F (lb, d, b) := List.mem_cons_of_mem _ (List.mem_cons_of_mem _ (List.mem_map.2 ⟨k, List.mem_range.2 hk, rfl⟩))
  exact rowK_read (Sat_mem s this) (by omega) hi
theorem PyrOpen.up {w w' : World} {pb W H L : Nat} {F : Nat → Nat → Int × Int} {lb d : Nat} {b : Nat → Nat} (h : PyrOpen w pb W H L F lb d b) (s : Sat (was w) w') : PyrOpen w' pb W H L F lb d b :=
  ⟨was_cell s h.head, fun k hk => was_cell s (h.wid k hk), fun k hk => was_cell s (h.hei k hk), fun k hk => was_cell s (h.row k hk), fun k i hk hi => ⟨was_cell s (h.cel k i hk hi).1, was_cell s (h.cel k i hk hi).2⟩⟩
theorem levN_pos (W H : Int) : 0 < levN W H := by unfold levN; omega

theorem sPSize {R : HP} {pb W H : Nat} {F : Nat → Nat → Int × Int} (hW : 1 ≤ W) (hH : 1 ≤ H) (hR : ∀ w, Sat R w → Sat (pyrH pb W H F) w) : PureR Try.prog R 32 [.pointer (some ⟨pb, 0, none⟩)] (.tuple #[.int .i64 W, .int .i64 H]) := by
  refine PureR.fix fun w hs => ?_
  have hl := levN_pos W H
  obtain ⟨lb, d, b, hO⟩ := pyr_open (hR w hs) hl
  have h0 := halfN_zero hW
  have h1 := halfN_zero hH
  generalize (levN W H) = L at *
  have c0 := fun w' s => (hO.up (w' := w') s).head
  have c1 := fun w' s => (hO.up (w' := w') s).wid 0 hl
  have c2 := fun w' s => (hO.up (w' := w') s).hei 0 hl
  rw [h0] at c1
  rw [h1] at c2
  clear hO
  refine fn_of_run0 false Try.func32 rfl hmix rfl fun w0 => ?_
  conv => whnf
  refine ⟨trivial, RegAt.quiet hmix (by kernel_rfl) ?_⟩
  conv => whnf
  refine ⟨trivial, LoadAt.cell (.slice (some ⟨lb, 0, none⟩) L d) rfl rfl (fun w hw => c0 w hw) ?_⟩
  conv => whnf
  refine ⟨⟨trivial, by omega⟩, LoadAt.cell (.int .i64 (W : Int)) rfl rfl (fun w hw => c1 w hw) ?_⟩
  conv => whnf
  refine ⟨trivial, LoadAt.cell (.slice (some ⟨lb, 0, none⟩) L d) rfl rfl (fun w hw => c0 w hw) ?_⟩
  conv => whnf
  refine ⟨⟨trivial, by omega⟩, LoadAt.cell (.int .i64 (H : Int)) rfl rfl (fun w hw => c2 w hw) ?_⟩
  conv => whnf
  refine ⟨trivial, ?_⟩
  conv => whnf
  exact ⟨trivial, fin_pure rfl rfl⟩
theorem sPLevels {R : HP} {pb W H : Nat} {F : Nat → Nat → Int × Int} (hR : ∀ w, Sat R w → Sat (pyrH pb W H F) w) : PureR Try.prog R 33 [.pointer (some ⟨pb, 0, none⟩)] (.int .i64 (levN W H : Nat)) := by
  refine PureR.fix fun w hs => ?_
  have hl := levN_pos W H
  obtain ⟨lb, d, b, hO⟩ := pyr_open (hR w hs) hl
  generalize (levN W H) = L at *
  have c0 := fun w' s => (hO.up (w' := w') s).head
  clear hO
  refine fn_of_run0 false Try.func33 rfl hmix rfl fun w0 => ?_
  conv => whnf
  refine ⟨trivial, LoadAt.cell (.slice (some ⟨lb, 0, none⟩) L d) rfl rfl (fun w hw => c0 w hw) ?_⟩
  conv => whnf
  exact ⟨trivial, fin_pure rfl rfl⟩
theorem sPAtArg {R : HP} {pb W H : Nat} {F : Nat → Nat → Int × Int} {k x y : Int} (hR : ∀ w, Sat R w → Sat (pyrH pb W H F) w) (hk : k < 0 ∨ (levN W H : Int) ≤ k) : PureR Try.prog R 16 [.pointer (some ⟨pb, 0, none⟩), .int .i64 k, cellV x y] (.tuple #[rngV 0 0, .int .i64 11]) := by
  refine PureR.fix fun w hs => ?_
  have hl := levN_pos W H
  obtain ⟨lb, d, b, hO⟩ := pyr_open (hR w hs) hl
  generalize (levN W H) = L at *
  have c0 := fun w' s => (hO.up (w' := w') s).head
  clear hO
  refine fn_of_run0 false Try.func16 rfl hmix rfl fun w0 => ?_
  conv => whnf
  refine ⟨fun g1 => ?_, fun g1 => ?_⟩
  · conv => whnf
    refine ⟨trivial, LoadAt.cell (.slice (some ⟨lb, 0, none⟩) L d) rfl rfl (fun w hw => c0 w hw) ?_⟩
    conv => whnf
    refine iff_t (by simp at g1 ⊢; omega) ?_
    conv => whnf
    exact ⟨trivial, fin_pure rfl rfl⟩
  · conv => whnf
    exact ⟨trivial, fin_pure rfl rfl⟩
theorem sPAt {R : HP} {pb W H k : Nat} {F : Nat → Nat → Int × Int} {x y : Int} (hW : 1 ≤ W ∧ W ≤ 1024) (hH : 1 ≤ H ∧ H ≤ 1024) (hR : ∀ w, Sat R w → Sat (pyrH pb W H F) w) (hk : k < levN W H) {v : Int × Int} {e : Int}
    (hv : (∃ X Y : Nat, x = X ∧ y = Y ∧ X < halfN W k ∧ Y < halfN H k ∧ v = F k (Y * halfN W k + X) ∧ e = 0) ∨ ((x < 0 ∨ (halfN W k : Int) ≤ x ∨ y < 0 ∨ (halfN H k : Int) ≤ y) ∧ v = (0, 0) ∧ e = 4)) :
    PureR Try.prog R 16 [.pointer (some ⟨pb, 0, none⟩), .int .i64 k, cellV x y] (.tuple #[rngV v.1 v.2, .int .i64 e]) := by
  refine PureR.fix fun w hs => ?_
  have hl := levN_pos W H
  have hsz : SizeOk (W : Int) (H : Int) := ⟨by omega, by omega, by omega, by omega⟩
  have hl11 := levN_le hsz
  obtain ⟨lb, d, b, hO⟩ := pyr_open (hR w hs) hl
  generalize (levN W H) = L at *
  obtain ⟨_, s1⟩ := half_le (W := W) (k := k) hW.1
  obtain ⟨_, s2⟩ := half_le (W := H) (k := k) hH.1
  have c0 := fun w' s => (hO.up (w' := w') s).head
  have c1 := fun w' s => (hO.up (w' := w') s).wid k hk
  have c2 := fun w' s => (hO.up (w' := w') s).hei k hk
  have c3 := fun w' s => (hO.up (w' := w') s).row k hk
  have c4 := fun w' s i hi => (hO.up (w' := w') s).cel k i hk hi
  have hnK : nK W H k ≤ 1024 * 1024 := Nat.mul_le_mul (by omega) (by omega)
  have hix : ∀ X Y, X < halfN W k → Y < halfN H k → Y * halfN W k + X < nK W H k := fun X Y => idx_lt
  clear hO
  refine fn_of_run0 false Try.func16 rfl hmix rfl fun w0 => ?_
  conv => whnf
  refine ⟨fun g1 => ?_, fun g1 => absurd g1 (by simp)⟩
  conv => whnf
  refine ⟨trivial, LoadAt.cell (.slice (some ⟨lb, 0, none⟩) L d) rfl rfl (fun w hw => c0 w hw) ?_⟩
  conv => whnf
  refine iff_f (by simp; omega) ?_
  conv => whnf
  refine ⟨trivial, LoadAt.cell (.slice (some ⟨lb, 0, none⟩) L d) rfl rfl (fun w hw => c0 w hw) ?_⟩
  conv => whnf
  refine ⟨⟨trivial, by omega⟩, LoadAt.agg [.int .i64 (halfN W k : Nat), .int .i64 (halfN H k : Nat), .slice (some ⟨b k, 0, none⟩) (nK W H k) (nK W H k)] rfl rfl rfl (fun w hw j v hj => ?_) ?_⟩
  · rw [Int.toNat_natCast, Nat.zero_add]
    rcases j with _ | _ | _ | j
    · simp at hj; rw [← hj]; exact c1 w hw
    · simp at hj; rw [← hj]; exact c2 w hw
    · simp at hj; rw [← hj]; exact c3 w hw
    · simp at hj
  rcases hv with ⟨X, Y, rfl, rfl, hX, hY, rfl, rfl⟩ | ⟨hbad, rfl, rfl⟩
  · have hi := hix X Y hX hY
    have z1 : (Y : Int) * ((halfN W k : Nat) : Int) = ((Y * halfN W k : Nat) : Int) := by simp
    have z2 : ((Y * halfN W k : Nat) : Int) + (X : Int) = ((Y * halfN W k + X : Nat) : Int) := by simp
    conv => whnf
    refine ⟨fun _ => ?_, fun g => absurd g (by simp)⟩
    conv => whnf
    refine ⟨fun _ => ?_, fun g => absurd g (by simp; omega)⟩
    conv => whnf
    refine ⟨fun _ => ?_, fun g => absurd g (by simp)⟩
    conv => whnf
    refine iff_f (by simp; omega) ?_
    conv => whnf
    rw [z1, z2]
    generalize hq : Y * halfN W k = q at *
    refine ⟨?_, LoadAt.agg [.int .i64 (F k (q + X)).1, .int .i64 (F k (q + X)).2] rfl rfl rfl (fun w hw j v hj => ?_) ?_⟩
    · repeat' apply And.intro
      all_goals first | exact True.intro | (unfold rng; omega) | omega
    · obtain ⟨q1, q2⟩ := c4 w hw _ hi
      rw [Int.toNat_natCast, Nat.zero_add]
      rcases j with _ | _ | j
      · simp at hj; rw [← hj]; exact q1
      · simp at hj; rw [← hj]; exact q2
      · simp at hj
    conv => whnf
    exact ⟨trivial, fin_pure rfl rfl⟩
  · conv => whnf
    refine ⟨fun g1 => ?_, fun g1 => ?_⟩
    · conv => whnf
      refine ⟨fun g2 => ?_, fun g2 => ?_⟩
      · conv => whnf
        refine ⟨fun g3 => ?_, fun g3 => ?_⟩
        · conv => whnf
          refine iff_t (by simp at g1 g2 g3 ⊢; omega) ?_
          conv => whnf
          exact ⟨trivial, fin_pure rfl rfl⟩
        · conv => whnf
          exact ⟨trivial, fin_pure rfl rfl⟩
      · conv => whnf
        exact ⟨trivial, fin_pure rfl rfl⟩
    · conv => whnf
      exact ⟨trivial, fin_pure rfl rfl⟩
end Go.Proofs.Ytccpgalpahfpaaa

/-
  ref16.At; law16.Over.
-/
namespace Go.Proofs.Ytccpgalpahfpaaa
open Go.RowKit
open Sy
set_option linter.unusedVariables false
set_option linter.unusedSimpArgs false
set_option maxRecDepth 100000
set_option maxHeartbeats 4000000

theorem drop_row {R : HP} {hs : List HP} (e : hs = []) {A : HP} (w : World) (s : Sat (sepL [A] R) w) : Sat (sepL hs R) w := by
  subst e; exact s.rest
theorem sRAtArg {R : HP} {W H n c : Nat} {A : Option Addr} {k x y : Int} (hsz : SizeOk (W : Int) (H : Int)) (hk : k < 0 ∨ (levN W H : Int) ≤ k) : PureR Try.prog R 17 [modV W H A n c, .int .i64 k, cellV x y] (.tuple #[rngV 0 0, .int .i64 11]) := by
  have hszs := fun R' => sSizes2 W H hsz R'
  generalize (levN W H) = L at *
  refine fn_of_run0 false Try.func17 rfl hmix rfl fun w0 => ?_
  conv => whnf
  refine ⟨trivial, CallAt.fn (pre := []) _ (fun h s => s) (fun R' hR' => hszs R') ?_⟩
  rintro r hs ⟨sg, sc, rfl, rfl⟩
  conv => whnf
  refine ⟨fun g1 => ?_, fun g1 => ?_⟩
  · conv => whnf
    refine iff_t (by simp at g1 ⊢; omega) ?_
    conv => whnf
    exact ⟨trivial, .mk [] (drop_row rfl) ⟨rfl, rfl⟩⟩
  · conv => whnf
    exact ⟨trivial, .mk [] (drop_row rfl) ⟨rfl, rfl⟩⟩
theorem sRAt {R : HP} {W H n c k : Nat} {A : Option Addr} {l : List Int} {x y : Int} (ha : Vs R A n l) (hn : W * H = n) (hsz : SizeOk (W : Int) (H : Int)) (hk : k < levN W H) {v : Int × Int} {e : Int}
    (hv : (∃ X Y : Nat, x = X ∧ y = Y ∧ X < halfN W k ∧ Y < halfN H k ∧ v = (lv mnL W H k (gv W l) X Y, lv mxL W H k (gv W l) X Y) ∧ e = 0) ∨ ((x < 0 ∨ (halfN W k : Int) ≤ x ∨ y < 0 ∨ (halfN H k : Int) ≤ y) ∧ v = (0, 0) ∧ e = 4)) :
    PureR Try.prog R 17 [modV W H A n c, .int .i64 k, cellV x y] (.tuple #[rngV v.1 v.2, .int .i64 e]) := by
  have hsz' := hsz
  unfold SizeOk at hsz'
  have w1 : 1 ≤ W := by omega
  have w2 : W ≤ 1024 := by omega
  have h1 : 1 ≤ H := by omega
  have h2 : H ≤ 1024 := by omega
  have hl11 := levN_le hsz
  have hszs := fun R' => sSizes2 W H hsz R'
  have hszr := fun (g c : Nat) (w : World) s => sz_read (W := W) (H := H) (g := g) (c := c) (w := w) s hk w1 h1
  have hsp := fun (X Y : Nat) (hX : X < halfN W k) (hY : Y < halfN H k) R' => sRSpan (A := A) (n := n) (c := c) W H k X Y hsz hk hX hY R'
  have hok := fun (X Y : Nat) (hX : X < halfN W k) (hY : Y < halfN H k) => (⟨sp_ok w1 hX, sp_ok h1 hY, spL_len (f := gv W l) w2 h2 w1 h1 hX hY⟩ : _ ∧ _ ∧ _)
  have hl1 := levN_pos W H
  generalize hLe : (levN W H) = L at *
  refine fn_of_run0 false Try.func17 rfl hmix rfl fun w0 => ?_
  conv => whnf
  refine ⟨trivial, CallAt.fn (pre := []) _ (fun h s => s) (fun R' hR' => hszs R') ?_⟩
  rintro r hs ⟨sg, sc, rfl, rfl⟩
  conv => whnf
  refine ⟨fun g1 => ?_, fun g1 => absurd g1 (by simp)⟩
  conv => whnf
  refine iff_f (by simp; omega) ?_
  rcases hv with ⟨X, Y, rfl, rfl, hX, hY, rfl, rfl⟩ | ⟨hbad, rfl, rfl⟩
  · obtain ⟨⟨a1, a2⟩, ⟨b1, b2⟩, b3, b4⟩ := hok X Y hX hY
    have hval := fun (R' : HP) (hR' : Vs R' A n l) => sRValues (c := c) hR' hn w2 h2 (X * 2 ^ k) (Y * 2 ^ k) (spX1 W k X) (spX1 H k Y) a1 a2 b1 b2
    have hspl : vRows (gv W l) (X * 2 ^ k) (spX1 W k X - X * 2 ^ k + 1) (Y * 2 ^ k) (spX1 H k Y - Y * 2 ^ k + 1) = spL W H k (gv W l) X Y := rfl
    rw [hspl] at hval
    have hmn : lv mnL W H k (gv W l) X Y = mnL (spL W H k (gv W l) X Y) := rfl
    have hmx : lv mxL W H k (gv W l) X Y = mxL (spL W H k (gv W l) X Y) := rfl
    rw [hmn, hmx]
    generalize spL W H k (gv W l) X Y = S at *
    have hspR := hsp X Y hX hY
    clear hsp hok
    conv => whnf
    refine ⟨trivial, RegAt.quiet hmix (by kernel_rfl) ?_⟩
    conv => whnf
    refine ⟨fun _ => ?_, fun g => absurd g (by simp)⟩
    conv => whnf
    refine ⟨fun _ => ?_, fun g => absurd g (by simp)⟩
    conv => whnf
    refine ⟨⟨trivial, by omega⟩, LoadAt.cell (.int .i64 (halfN W k : Nat)) rfl rfl (fun w hw => by have := (hszr sg sc w (hw.in_ 0 rfl)).1; simpa using this) ?_⟩
    conv => whnf
    refine ⟨fun _ => ?_, fun g => absurd g (by simp; omega)⟩
    conv => whnf
    refine ⟨⟨trivial, by omega⟩, LoadAt.cell (.int .i64 (halfN H k : Nat)) rfl rfl (fun w hw => by have := (hszr sg sc w (hw.in_ 0 rfl)).2; simpa using this) ?_⟩
    conv => whnf
    refine ⟨trivial, ?_⟩
    conv => whnf
    refine iff_f (by simp; omega) ?_
    conv => whnf
    refine ⟨trivial, RegAt.segs [5] hmix (by kernel_rfl) ?_⟩
    conv => whnf
    refine ⟨trivial, CallQ.pure (fun R' hR' => hspR R') ?_⟩
    conv => whnf
    refine ⟨trivial, CallAt.fn (pre := []) _ (fun h s => s) (fun R' hR' => hval R' (ha.mono fun w s => (hR' w s).rest)) ?_⟩
    rintro r hs ⟨B, d, rfl, rfl⟩
    conv => whnf
    refine ⟨trivial, ?_⟩
    conv => whnf
    refine ⟨trivial, CallAt.pure (fun R' hR' => sRange (Vs.row fun w s => (hR' w s).in_ 0 rfl) (by omega)) ?_⟩
    conv => whnf
    exact ⟨trivial, .mk [] (fun w s => s.rest) ⟨rfl, rfl⟩⟩
  · conv => whnf
    refine ⟨trivial, RegAt.quiet hmix (by kernel_rfl) ?_⟩
    conv => whnf
    refine ⟨fun g1 => ?_, fun g1 => ?_⟩
    · conv => whnf
      refine ⟨fun g2 => ?_, fun g2 => ?_⟩
      · conv => whnf
        refine ⟨⟨trivial, by omega⟩, LoadAt.cell (.int .i64 (halfN W k : Nat)) rfl rfl (fun w hw => by have := (hszr sg sc w (hw.in_ 0 rfl)).1; simpa using this) ?_⟩
        conv => whnf
        refine ⟨fun g3 => ?_, fun g3 => ?_⟩
        · conv => whnf
          refine ⟨⟨trivial, by omega⟩, LoadAt.cell (.int .i64 (halfN H k : Nat)) rfl rfl (fun w hw => by have := (hszr sg sc w (hw.in_ 0 rfl)).2; simpa using this) ?_⟩
          conv => whnf
          refine ⟨trivial, ?_⟩
          conv => whnf
          refine iff_t (by simp at g1 g2 g3 ⊢; omega) ?_
          conv => whnf
          exact ⟨trivial, .mk [] (drop_row rfl) ⟨rfl, rfl⟩⟩
        · conv => whnf
          refine ⟨trivial, ?_⟩
          conv => whnf
          exact ⟨trivial, .mk [] (drop_row rfl) ⟨rfl, rfl⟩⟩
      · conv => whnf
        refine ⟨trivial, ?_⟩
        conv => whnf
        exact ⟨trivial, .mk [] (drop_row rfl) ⟨rfl, rfl⟩⟩
    · conv => whnf
      refine ⟨trivial, ?_⟩
      conv => whnf
      exact ⟨trivial, .mk [] (drop_row rfl) ⟨rfl, rfl⟩⟩

theorem rng_eq (a b c d : Int) (w : World) : (Op.equalIn 10000 39 (rngV a b) (rngV c d)).run Try.prog w = .ok (a == c && b == d) w :=
  eq_struct2 (ki := .i64) (by rfl) (by kernel_rfl) (by rfl) (by decide) (by decide) (by rfl) (by rfl) (by rfl) (by rfl) _ _ _ _ _ w
theorem sOver {R : HP} {pb W H n c : Nat} {A : Option Addr} {l : List Int} {f : Nat → Nat → Int} (hR : ∀ w, Sat R w → Sat (pyrH pb W H (Pf W H f)) w) (ha : Vs R A n l) (hn : W * H = n) (hsz : SizeOk (W : Int) (H : Int)) (hf : ∀ x y, x < W → y < H → f x y = gv W l x y) :
    PureR Try.prog R 15 [.pointer (some ⟨pb, 0, none⟩), modV W H A n c] (.bool true) := by
  have hsz' := hsz
  unfold SizeOk at hsz'
  have w1 : 1 ≤ W := by omega
  have w2 : W ≤ 1024 := by omega
  have h1 : 1 ≤ H := by omega
  have h2 : H ≤ 1024 := by omega
  have hl11 := levN_le hsz
  have hszs := fun R' => sSizes2 W H hsz R'
  have hszr := fun (k : Nat) (hk : k < levN W H) (g c : Nat) (w : World) s => sz_read (W := W) (H := H) (g := g) (c := c) (w := w) s hk w1 h1
  have hat := fun (k : Nat) (hk : k < levN W H) (X Y : Nat) (hX : X < halfN W k) (hY : Y < halfN H k) (R' : HP) (hR' : ∀ w, Sat R' w → Sat (pyrH pb W H (Pf W H f)) w) => sPAt (v := (lv mnL W H k (gv W l) X Y, lv mxL W H k (gv W l) X Y)) ⟨w1, w2⟩ ⟨h1, h2⟩ hR' hk (.inl ⟨X, Y, rfl, rfl, hX, hY, by
    unfold Pf
    rw [(xy_mod hX).1, (xy_mod hX).2, lv_congr w1 h1 hX hY fun a b ha hb _ _ => hf a b ha hb, lv_congr w1 h1 hX hY fun a b ha hb _ _ => hf a b ha hb], rfl⟩)
  have hrat := fun (k : Nat) (hk : k < levN W H) (X Y : Nat) (hX : X < halfN W k) (hY : Y < halfN H k) (R' : HP) (hR' : Vs R' A n l) => sRAt (c := c) (v := (lv mnL W H k (gv W l) X Y, lv mxL W H k (gv W l) X Y)) hR' hn hsz hk (.inl ⟨X, Y, rfl, rfl, hX, hY, rfl, rfl⟩)
  have hlev := fun (R' : HP) (hR' : ∀ w, Sat R' w → Sat (pyrH pb W H (Pf W H f)) w) => sPLevels hR'
  have hl1 := levN_pos W H
  generalize hLe : (levN W H) = L at *
  refine fn_of_run0 false Try.func15 rfl hmix rfl fun w0 => ?_
  conv => whnf
  refine ⟨trivial, CallAt.fn (pre := []) _ (fun h s => s) (fun R' hR' => hszs R') ?_⟩
  rintro r hs ⟨sg, sc, rfl, rfl⟩
  conv => whnf
  refine ⟨trivial, CallAt.pure (fun R' hR' => sPSize w1 h1 fun w s => hR w (hR' w s).rest) ?_⟩
  conv => whnf
  refine ⟨trivial, CallAt.pure (fun R' hR' => hlev R' fun w s => hR w (hR' w s).rest) ?_⟩
  conv => whnf
  refine ⟨fun _ => ?_, fun g => absurd g (by simp)⟩
  conv => whnf
  refine ⟨fun _ => ?_, fun g => absurd g (by simp)⟩
  conv => whnf
  refine iff_f (by simp) ?_
  conv => whnf
  refine ⟨trivial, LoopAt.keep (α := Nat) [0, 3, 5] (fun k => [(8, .v (.int .i64 (k : Int)))]) (fun k => k ≤ L) (fun k => L - k) 0 (Nat.zero_le _) rfl ⟨⟨rfl, rfl⟩, trivial⟩ ⟨⟨rfl, rfl⟩, ⟨rfl, rfl⟩, ⟨rfl, rfl⟩, trivial⟩ ⟨⟨rfl, rfl, rfl, rfl⟩, trivial⟩ ?_⟩
  intro k hk
  conv => whnf
  refine ⟨fun h3 => ?_, fun h3 => ?_⟩
  · have g3 : k < L := by simpa using h3
    obtain ⟨a1, a2⟩ := half_le (W := W) (k := k) w1
    obtain ⟨b1, b2⟩ := half_le (W := H) (k := k) h1
    have hrd := hszr k g3
    have hatk := hat k g3
    have hratk := hrat k g3
    have hN : halfN W k * halfN H k ≤ 1024 * 1024 := Nat.mul_le_mul (by omega) (by omega)
    have z1 : ((halfN W k : Nat) : Int) * ((halfN H k : Nat) : Int) = ((halfN W k * halfN H k : Nat) : Int) := by simp
    clear hat hrat hszr
    generalize halfN W k = LW at *
    generalize halfN H k = LH at *
    conv => whnf
    refine ⟨trivial, LoopAt.keep (α := Nat) [0, 3, 5, 8] (fun i => [(9, .v (.int .i64 (i : Int)))]) (fun i => i ≤ LW * LH) (fun i => LW * LH - i) 0 (Nat.zero_le _) rfl ⟨⟨rfl, rfl⟩, trivial⟩ ⟨⟨rfl, rfl⟩, ⟨rfl, rfl⟩, ⟨rfl, rfl⟩, ⟨rfl, rfl⟩, trivial⟩ ⟨⟨rfl, rfl, rfl, rfl⟩, trivial⟩ ?_⟩
    intro i hi
    conv => whnf
    refine ⟨trivial, RegAt.quiet hmix (by kernel_rfl) ?_⟩
    conv => whnf
    refine ⟨⟨trivial, by omega⟩, LoadAt.cell (.int .i64 (LW : Int)) rfl rfl (fun w hw => by have := (hrd sg sc w (hw.in_ 0 rfl)).1; simpa using this) ?_⟩
    conv => whnf
    refine ⟨⟨trivial, by omega⟩, LoadAt.cell (.int .i64 (LH : Int)) rfl rfl (fun w hw => by have := (hrd sg sc w (hw.in_ 0 rfl)).2; simpa using this) ?_⟩
    conv => whnf
    rw [z1]
    refine ⟨?_, ?_⟩
    · generalize LW * LH = q at *
      repeat' apply And.intro
      all_goals first | exact True.intro | (unfold rng; omega) | omega
    conv => whnf
    refine ⟨fun h4 => ?_, fun h4 => ?_⟩
    · have g4 : i < LW * LH := Int.ofNat_lt.1 (of_dt h4)
      have hX : i % LW < LW := Nat.mod_lt _ (by omega)
      have hY : i / LW < LH := Nat.div_lt_of_lt_mul g4
      have zr : (i : Int) % (LW : Int) = ((i % LW : Nat) : Int) := by simp
      have zq : (i : Int) / (LW : Int) = ((i / LW : Nat) : Int) := by simp
      have h5 := hatk (i % LW) (i / LW) hX hY
      have h6 := hratk (i % LW) (i / LW) hX hY
      have hq : i / LW ≤ i := Nat.div_le_self _ _
      conv => whnf
      refine ⟨trivial, RegAt.box 15 10 24 (.tmp 77) hmix (by kernel_rfl) rfl rfl rfl rfl rfl rfl rfl rfl rfl rfl rfl (fun s h => by injection h with h; subst h; rfl) ?_⟩
      conv => whnf
      refine ⟨⟨trivial, by omega⟩, LoadAt.cell (.int .i64 (LW : Int)) rfl rfl (fun w hw => by have := (hrd sg sc w (hw.in_ 0 rfl)).1; simpa using this) ?_⟩
      conv => whnf
      refine ⟨⟨⟨trivial, by omega⟩, by omega⟩, LoadAt.cell (.int .i64 (LW : Int)) rfl rfl (fun w hw => by have := (hrd sg sc w (hw.in_ 0 rfl)).1; simpa using this) ?_⟩
      conv => whnf
      rw [zr, zq]
      refine ⟨?_, ?_⟩
      · generalize i / LW = q at *
        repeat' apply And.intro
        all_goals first | exact True.intro | (unfold rng; omega) | omega
      conv => whnf
      refine ⟨trivial, CallAt.pure (fun R' hR' => h5 R' fun w s => hR w (hR' w s).rest) ?_⟩
      conv => whnf
      refine ⟨trivial, CallAt.pure (fun R' hR' => h6 R' (ha.mono fun w s => (hR' w s).rest)) ?_⟩
      conv => whnf
      refine ⟨fun _ => ?_, fun g => absurd g (by decide)⟩
      conv => whnf
      refine ⟨trivial, OpAt.aggNe rfl rfl rfl rfl (by kernel_rfl) (fun w => rng_eq _ _ _ _ w) ?_⟩
      conv => whnf
      refine iff_f (by simp) ?_
      conv => whnf
      refine ⟨⟨trivial, ?_⟩, Next.keep (i + 1) (by omega) (by omega) ⟨⟨rfl, rfl⟩, trivial⟩ ⟨⟨rfl, rfl⟩, ⟨rfl, rfl⟩, ⟨rfl, rfl⟩, ⟨rfl, rfl⟩, trivial⟩ ⟨⟨rfl, rfl, rfl, rfl⟩, trivial⟩ rfl rfl rfl⟩
      generalize LW * LH = q at *
      unfold rng; omega
    · conv => whnf
      refine ⟨⟨trivial, by unfold rng; omega⟩, Next.keep (k + 1) (by omega) (by omega) ⟨⟨rfl, rfl⟩, trivial⟩ ⟨⟨rfl, rfl⟩, ⟨rfl, rfl⟩, ⟨rfl, rfl⟩, trivial⟩ ⟨⟨rfl, rfl, rfl, rfl⟩, trivial⟩ rfl rfl rfl⟩
  · conv => whnf
    exact ⟨trivial, .mk [] (drop_row rfl) ⟨rfl, rfl⟩⟩
end Go.Proofs.Ytccpgalpahfpaaa

