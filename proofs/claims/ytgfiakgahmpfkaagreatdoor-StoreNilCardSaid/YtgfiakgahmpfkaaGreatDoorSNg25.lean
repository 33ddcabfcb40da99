/-
  Texts of the proofs, one behind the other: FiC, FiE, FiF, CrcPlain, CrcR, SealPlain, OpenR, SyCut.
-/
import Derived.Test.YtgfiakgahmpfkaaGreatDoorSNg22
import Derived.WalkKit
import Derived.Laws.BitsAllLaws
import Derived.Test.YtgfiakgahmpfkaaGreatDoorRows
import Derived.Test.YtgfiakgahmpfkaaGreatDoorSNg01
import Derived.Test.YtgfiakgahmpfkaaGreatDoorSNg24
import Derived.Deep.QuietTactic
import Derived.BigQuiet
import Derived.Deep.RegionHeld3
import Derived.Test.YtgfiakgahmpfkaaGreatDoorSNg05
import Derived.Test.YtgfiakgahmpfkaaGreatDoorSNg09
import Derived.Test.YtgfiakgahmpfkaaGreatDoorSNg10
namespace Go.Proofs.YtgfiakgahmpfkaaGreatDoor
open Go.RowKit
open Sy
set_option linter.unusedVariables false
set_option linter.unusedSimpArgs false
set_option maxRecDepth 100000
set_option maxHeartbeats 4000000

theorem cellN_at {l : List Int} {k : Nat} (h : k < l.length) : cellN l k = l[k] := by unfold cellN; rw [List.getElem?_eq_getElem h]; rfl
theorem sAt04 {R : HP} {A : Option Addr} {n c : Nat} {l : List Int} (ha : Vs R A n l) (w x y : Nat) (h : y * w + x < n) (hn : n ≤ 1048576) :
    PureR Tryz.prog R 168 [.slice A n c, .int .i64 (w : Int), .int .i64 (x : Int), .int .i64 (y : Int)] (.int .i64 (cellN l (y * w + x))) := by
  refine PureR.of_sat fun w0 hs => ?_
  obtain ⟨h1, sa⟩ := ha.spot hs
  rcases sa with sa | ⟨g, off, rfl, sa⟩
  · omega
  have hm : (y : Int) * (w : Int) = ((y * w : Nat) : Int) := by simp
  have hr1 : rng .i64 ((y : Int) * (w : Int)) := by rw [hm]; unfold rng; omega
  have hr2 : rng .i64 ((y : Int) * (w : Int) + (x : Int)) := by rw [hm]; unfold rng; omega
  have he : ((y : Int) * (w : Int) + (x : Int)).toNat = y * w + x := by rw [hm]; omega
  refine fn_of_run0 false Tryz.func168 rfl hmix rfl fun w0 => ?_
  conv => whnf
  refine ⟨⟨⟨⟨trivial, hr1⟩, hr2⟩, by rw [hm]; omega⟩, LoadAt.cell (.int .i64 (cellN l (y * w + x))) rfl rfl (fun w1 hw => ?_) ?_⟩
  · rw [he, cellN_at (by omega)]
    exact sa w1 (Sat.rest hw) _ (by omega)
  conv => whnf
  exact ⟨trivial, fin_drop rfl⟩
theorem sRight04 {R : HP} (k w n : Nat) (hk : k ≤ 2) (hw : 0 < w) (hn : n % w = 0) (hb : n ≤ 1048576) (hw2 : w ≤ 1048576) :
    PureR Tryz.prog R 106 [.int .i64 (k : Int), .int .i64 (w : Int), .int .i64 (n : Int)] (.bool true) := by
  refine fn_of_run0 false Tryz.func106 rfl hmix rfl fun w0 => ?_
  have e1 : (n : Int) % (w : Int) = 0 := by have := Int.natCast_emod n w; rw [hn] at this; exact this.symm
  rcases (show k = 0 ∨ k = 1 ∨ k = 2 by omega) with rfl | rfl | rfl
  all_goals
    conv => whnf
    repeat (first | (refine And.intro ?_ ?_; rotate_left; (focus (intro g; exfalso; first | (simp at g; done) | (simp at g; omega) | (revert g; decide))); intro _; conv => whnf) | (refine And.intro ?_ ?_; (focus (intro g; exfalso; first | (simp at g; done) | (simp at g; omega) | (revert g; decide))); intro _; conv => whnf))
    refine ⟨(by (repeat' apply And.intro) <;> first | exact True.intro | (unfold rng; omega) | omega), fin_drop ?_⟩
    show Value.bool (decide ((n : Int) % (w : Int) = 0)) = _
    rw [e1]
    rfl
theorem sGuess04 {R : HP} {A : Option Addr} {n c : Nat} {l : List Int} (ha : Vs R A n l) (hv : ∀ v ∈ l, isV v) (k w : Nat) (hk : k ≤ 2) (hw : 0 < w) (hw2 : w ≤ 1048576) (hn : n ≤ 1048576) :
    PureR Tryz.prog R 107 [.int .i64 (k : Int), .slice A n c, .int .i64 (w : Int), .int .i64 (n : Int)] (.int .i64 (guessZ k l w n)) := by
  refine fn_of_run0 false Tryz.func107 rfl hmix rfl fun w0 => ?_
  obtain ⟨x, hx⟩ : ∃ x, n % w = x := ⟨_, rfl⟩
  obtain ⟨y, hy⟩ : ∃ y, n / w = y := ⟨_, rfl⟩
  have e1 : (n : Int) % (w : Int) = (x : Int) := by rw [← hx]; exact (Int.natCast_emod n w).symm
  have e2 : (n : Int) / (w : Int) = (y : Int) := by rw [← hy]; exact (Int.natCast_ediv n w).symm
  have hxw : x < w := by rw [← hx]; exact Nat.mod_lt _ hw
  have hyn : y ≤ n := by rw [← hy]; exact Nat.div_le_self _ _
  have hdm : y * w + x = n := by have := Nat.div_add_mod n w; rw [hx, hy, Nat.mul_comm] at this; exact this
  have hat := fun R' (h : ∀ w, Sat R' w → Sat R w) (u v : Nat) (h2 : v * w + u < n) => sAt04 (R := R') (c := c) (ha.mono h) w u v h2 hn
  unfold guessZ
  rw [hx, hy]
  clear hx hy
  conv => whnf
  refine ⟨trivial, RegAt.quiet hmix (by kernel_rfl) ?_⟩
  conv => whnf
  refine ⟨⟨⟨trivial, by omega, by omega⟩, ⟨by omega, by omega⟩, by rw [e2]; unfold rng; omega⟩, ?_⟩
  rw [e1, e2]
  clear e1 e2
  by_cases hk0 : k = 0
  · subst hk0
    rw [if_pos (.inl rfl)]
    conv => whnf
    repeat (first | (refine And.intro ?_ ?_; rotate_left; (focus (intro g; exfalso; first | (simp at g; done) | (simp at g; omega) | (revert g; decide))); intro _; conv => whnf) | (refine And.intro ?_ ?_; (focus (intro g; exfalso; first | (simp at g; done) | (simp at g; omega) | (revert g; decide))); intro _; conv => whnf))
    exact ⟨(by (repeat' apply And.intro) <;> first | exact True.intro | (unfold rng; omega) | omega), fin_drop rfl⟩
  by_cases hx0 : x = 0
  · subst hx0
    by_cases hy0 : y = 0
    · subst hy0
      rw [if_pos (.inr ⟨rfl, rfl⟩)]
      conv => whnf
      repeat (first | (refine And.intro ?_ ?_; rotate_left; (focus (intro g; exfalso; first | (simp at g; done) | (simp at g; omega) | (revert g; decide))); intro _; conv => whnf) | (refine And.intro ?_ ?_; (focus (intro g; exfalso; first | (simp at g; done) | (simp at g; omega) | (revert g; decide))); intro _; conv => whnf))
      exact ⟨(by (repeat' apply And.intro) <;> first | exact True.intro | (unfold rng; omega) | omega), fin_drop rfl⟩
    · rw [if_neg (by omega), if_pos rfl]
      obtain ⟨z, rfl⟩ : ∃ z, y = z + 1 := ⟨y - 1, by omega⟩
      have hzw : z * w + 0 < n := by rw [Nat.succ_mul] at hdm; omega
      have hc1 := fun R' h => hat R' h 0 z hzw
      have hz : ((z + 1 : Nat) : Int) - 1 = (z : Int) := by omega
      conv => whnf
      repeat (first | (refine And.intro ?_ ?_; rotate_left; (focus (intro g; exfalso; first | (simp at g; done) | (simp at g; omega) | (revert g; decide))); intro _; conv => whnf) | (refine And.intro ?_ ?_; (focus (intro g; exfalso; first | (simp at g; done) | (simp at g; omega) | (revert g; decide))); intro _; conv => whnf))
      conv => whnf
      refine ⟨(by (repeat' apply And.intro) <;> first | exact True.intro | (unfold rng; omega) | omega), CallAt.pure (v := .int .i64 (cellN l (z * w + 0))) (fun R' hR' => by rw [hz]; exact hc1 R' fun w s => Sat.rest (hR' w s)) ?_⟩
      conv => whnf
      exact ⟨trivial, fin_drop rfl⟩
  · obtain ⟨u, rfl⟩ : ∃ u, x = u + 1 := ⟨x - 1, by omega⟩
    have hu : ((u + 1 : Nat) : Int) - 1 = (u : Int) := by omega
    have hl1 : y * w + u < n := by omega
    have hv1 := cellN_in hv (y * w + u)
    unfold isV at hv1
    rw [if_neg (by omega), if_neg (by omega), Nat.add_sub_cancel]
    conv => whnf
    repeat (first | (refine And.intro ?_ ?_; rotate_left; (focus (intro g; exfalso; first | (simp at g; done) | (simp at g; omega) | (revert g; decide))); intro _; conv => whnf) | (refine And.intro ?_ ?_; (focus (intro g; exfalso; first | (simp at g; done) | (simp at g; omega) | (revert g; decide))); intro _; conv => whnf))
    conv => whnf
    refine ⟨(by (repeat' apply And.intro) <;> first | exact True.intro | (unfold rng; omega) | omega), CallAt.pure (v := .int .i64 (cellN l (y * w + u))) (fun R' hR' => by rw [hu]; exact hat R' (fun w s => Sat.rest (hR' w s)) u y hl1) ?_⟩
    by_cases hk1 : k = 1
    · subst hk1
      rw [if_pos (.inl rfl)]
      conv => whnf
      repeat (first | (refine And.intro ?_ ?_; rotate_left; (focus (intro g; exfalso; first | (simp at g; done) | (simp at g; omega) | (revert g; decide))); intro _; conv => whnf) | (refine And.intro ?_ ?_; (focus (intro g; exfalso; first | (simp at g; done) | (simp at g; omega) | (revert g; decide))); intro _; conv => whnf))
      exact ⟨(by (repeat' apply And.intro) <;> first | exact True.intro | (unfold rng; omega) | omega), fin_drop rfl⟩
    by_cases hy0 : y = 0
    · subst hy0
      rw [if_pos (.inr rfl)]
      conv => whnf
      repeat (first | (refine And.intro ?_ ?_; rotate_left; (focus (intro g; exfalso; first | (simp at g; done) | (simp at g; omega) | (revert g; decide))); intro _; conv => whnf) | (refine And.intro ?_ ?_; (focus (intro g; exfalso; first | (simp at g; done) | (simp at g; omega) | (revert g; decide))); intro _; conv => whnf))
      exact ⟨(by (repeat' apply And.intro) <;> first | exact True.intro | (unfold rng; omega) | omega), fin_drop rfl⟩
    obtain ⟨z, rfl⟩ : ∃ z, y = z + 1 := ⟨y - 1, by omega⟩
    have hz : ((z + 1 : Nat) : Int) - 1 = (z : Int) := by omega
    have hzw : z * w + (u + 1) < n := by rw [Nat.succ_mul] at hdm; omega
    have hzu : z * w + u < n := by omega
    have hv2 := cellN_in hv (z * w + (u + 1))
    have hv3 := cellN_in hv (z * w + u)
    unfold isV at hv2 hv3
    rw [if_neg (by omega), Nat.add_sub_cancel]
    conv => whnf
    repeat (first | (refine And.intro ?_ ?_; rotate_left; (focus (intro g; exfalso; first | (simp at g; done) | (simp at g; omega) | (revert g; decide))); intro _; conv => whnf) | (refine And.intro ?_ ?_; (focus (intro g; exfalso; first | (simp at g; done) | (simp at g; omega) | (revert g; decide))); intro _; conv => whnf))
    conv => whnf
    refine ⟨(by (repeat' apply And.intro) <;> first | exact True.intro | (unfold rng; omega) | omega), CallAt.pure (v := .int .i64 (cellN l (z * w + (u + 1)))) (fun R' hR' => by rw [hz]; exact hat R' (fun w s => Sat.rest (hR' w s)) (u + 1) z hzw) ?_⟩
    conv => whnf
    refine ⟨(by (repeat' apply And.intro) <;> first | exact True.intro | (unfold rng; omega) | omega), CallAt.pure (v := .int .i64 (cellN l (z * w + u))) (fun R' hR' => by rw [hu, hz]; exact hat R' (fun w s => Sat.rest (hR' w s)) u z hzu) ?_⟩
    generalize cellN l ((z + 1) * w + u) = L at *
    generalize cellN l (z * w + (u + 1)) = P at *
    generalize cellN l (z * w + u) = Q at *
    clear hat ha hv hl1 hzw hzu
    rcases Int.lt_trichotomy (L + P - Q) L with g1 | g1 | g1
    all_goals rcases Int.lt_trichotomy (L + P - Q) P with g2 | g2 | g2
    all_goals rcases Int.lt_trichotomy L P with g3 | g3 | g3
    all_goals first
      | (exfalso; omega)
      | skip
    all_goals (conv => whnf)
    all_goals repeat (first | (refine And.intro ?_ ?_; rotate_left; (focus (intro g; exfalso; first | (simp at g; done) | (simp at g; omega) | (revert g; decide))); intro _; conv => whnf) | (refine And.intro ?_ ?_; (focus (intro g; exfalso; first | (simp at g; done) | (simp at g; omega) | (revert g; decide))); intro _; conv => whnf))
    all_goals exact ⟨(by (repeat' apply And.intro) <;> first | exact True.intro | (unfold rng; omega) | omega), fin_drop (congrArg (Value.int .i64) (by unfold planeZ; (repeat' split) <;> omega))⟩

/-- cells, the code; or no cells -/
def PostC (q : List Int × Nat) (r : Value) (hs : List HP) : Prop :=
  (q.2 ≠ 0 ∧ r = .tuple #[.slice none 0 0, .int .i64 (q.2 : Int)] ∧ hs = []) ∨
  (q.2 = 0 ∧ ∃ B c, r = .tuple #[.slice B q.1.length c, .int .i64 0] ∧ hs = [rowH (.slice B q.1.length c) q.1.length 2 1 (ints q.1)])
theorem sCells04 {R : HP} {A : Option Addr} {n c : Nat} {l : List Int} (ha : Vs R A n l) (hl : l.length = n) (k w : Nat) (hk : k ≤ 2) (hw : 0 < w) (hw2 : w ≤ 1048576) (hn : n ≤ 1048576) (hmod : n % w = 0) (hi64 : ∀ v ∈ l, -9223372036854775808 ≤ v ∧ v ≤ 9223372036854775807) :
    FnR Tryz.prog R 58 [.int .i64 (k : Int), .slice A n c, .int .i64 (w : Int)] [] (PostC (cellsR k w l [])) := by
  obtain ⟨Q, hQ⟩ : ∃ Q, cellsR k w l [] = Q := ⟨_, rfl⟩
  rw [hQ]
  refine FnR.of_sat fun w00 hs => ?_
  obtain ⟨h1, sa⟩ := ha.spot hs
  refine fn_of_run0 false Tryz.func58 rfl hmix rfl fun w0 => ?_
  conv => whnf
  refine ⟨trivial, CallAt.pure (fun R' hR' => sRight04 k w n hk hw hmod hn hw2) ?_⟩
  conv => whnf
  repeat (first | (refine And.intro ?_ ?_; rotate_left; (focus (intro g; exfalso; first | (simp at g; done) | (simp at g; omega) | (revert g; decide))); intro _; conv => whnf) | (refine And.intro ?_ ?_; (focus (intro g; exfalso; first | (simp at g; done) | (simp at g; omega) | (revert g; decide))); intro _; conv => whnf))
  conv => whnf
  refine ⟨trivial, OpAt.lit [] 1 rfl rfl rfl rfl rfl (by decide) rfl rfl rfl (by simp) rfl (by decide) fun g => ?_⟩
  conv => whnf
  refine ⟨trivial, LoopAt.heap (α := List Int × Option Addr × Nat) [0, 1, 2] (fun x => [(8, .v (.slice x.2.1 x.1.length x.2.2)), (9, .v (.int .i64 (x.1.length : Int)))])
    (fun x => [rowH (.slice x.2.1 x.1.length x.2.2) x.1.length 2 1 (ints x.1)]) (fun x => x.1.length ≤ n ∧ (∀ v ∈ x.1, isV v) ∧ Q = cellsR k w (l.drop x.1.length) x.1) (fun x => n - x.1.length) ([], some ⟨g, 0, none⟩, 0)
    ⟨Nat.zero_le _, by simp, by simpa using hQ.symm⟩ rfl ⟨⟨rfl, rfl⟩, ⟨rfl, rfl⟩, trivial⟩ ⟨⟨rfl, rfl⟩, ⟨rfl, rfl⟩, ⟨rfl, rfl⟩, trivial⟩ trivial (fun h s => sub_same s) ?_⟩
  rintro ⟨out, B, d⟩ ⟨i1, i2, i4⟩
  simp only at i1 i2 i4
  conv => whnf
  refine ⟨fun h => ?_, fun h => ?_⟩
  · have h : out.length < n := by simpa using h
    conv => whnf
    refine ⟨trivial, CallAt.pure (fun R' hR' => sGuess04 (R := R') (A := B) (n := out.length) (c := d) (l := out) (Vs.row fun w s => (hR' w s).in_ 0 rfl) i2 k w hk hw hw2 (by omega)) ?_⟩
    have hg := guessZ_in (kind := k) (w := w) (i := out.length) i2
    unfold isV at hg
    rcases sa with sa | ⟨b, off, rfl, sa⟩
    · omega
    have hil : out.length < l.length := by omega
    have hx := hi64 l[out.length] (List.getElem_mem hil)
    rw [List.drop_eq_getElem_cons hil, cellsR] at i4
    have hrd : ∀ w1, Sat R w1 → w1.cell? ⟨b, off + ((out.length : Nat) : Int).toNat, none⟩ = some (.int .i64 l[out.length]) := fun w1 hw => by
      rw [Int.toNat_natCast]; exact sa w1 hw _ hil
    generalize l[out.length] = x at *
    generalize guessZ k out w out.length = g at *
    conv => whnf
    refine ⟨⟨trivial, by simp only; omega, by simp only; omega⟩, LoadAt.cell (.int .i64 x) rfl rfl (fun w hw => hrd w (Sat.rest hw)) ?_⟩
    have hbad : (2147483647 - g < x ∨ x < -2147483648 - g) → PostC Q (.tuple #[.slice none 0 0, .int .i64 7]) [] := fun c => by
      rw [if_pos c] at i4
      subst i4
      exact .inl ⟨by decide, rfl, rfl⟩
    by_cases c1 : 2147483647 - g < x
    · conv => whnf
      repeat (first | (refine And.intro ?_ ?_; rotate_left; (focus (intro g; exfalso; first | (simp at g; done) | (simp at g; omega) | (revert g; decide))); intro _; conv => whnf) | (refine And.intro ?_ ?_; (focus (intro g; exfalso; first | (simp at g; done) | (simp at g; omega) | (revert g; decide))); intro _; conv => whnf))
      exact ⟨(by (repeat' apply And.intro) <;> first | exact True.intro | (unfold rng; omega) | omega), fin_dropP (hbad (.inl c1))⟩
    conv => whnf
    repeat (first | (refine And.intro ?_ ?_; rotate_left; (focus (intro g; exfalso; first | (simp at g; done) | (simp at g; omega) | (revert g; decide))); intro _; conv => whnf) | (refine And.intro ?_ ?_; (focus (intro g; exfalso; first | (simp at g; done) | (simp at g; omega) | (revert g; decide))); intro _; conv => whnf))
    refine ⟨⟨(by (repeat' apply And.intro) <;> first | exact True.intro | (unfold rng; omega) | omega), by simp only; omega, by simp only; omega⟩, LoadAt.cell (.int .i64 x) rfl rfl (fun w hw => hrd w (Sat.rest hw)) ?_⟩
    by_cases c2 : x < -2147483648 - g
    · conv => whnf
      repeat (first | (refine And.intro ?_ ?_; rotate_left; (focus (intro g; exfalso; first | (simp at g; done) | (simp at g; omega) | (revert g; decide))); intro _; conv => whnf) | (refine And.intro ?_ ?_; (focus (intro g; exfalso; first | (simp at g; done) | (simp at g; omega) | (revert g; decide))); intro _; conv => whnf))
      exact ⟨(by (repeat' apply And.intro) <;> first | exact True.intro | (unfold rng; omega) | omega), fin_dropP (hbad (.inr c2))⟩
    rw [if_neg (by omega)] at i4
    conv => whnf
    repeat (first | (refine And.intro ?_ ?_; rotate_left; (focus (intro g; exfalso; first | (simp at g; done) | (simp at g; omega) | (revert g; decide))); intro _; conv => whnf) | (refine And.intro ?_ ?_; (focus (intro g; exfalso; first | (simp at g; done) | (simp at g; omega) | (revert g; decide))); intro _; conv => whnf))
    refine ⟨⟨(by (repeat' apply And.intro) <;> first | exact True.intro | (unfold rng; omega) | omega), by simp only; omega, by simp only; omega⟩, LoadAt.cell (.int .i64 x) rfl rfl (fun w hw => hrd w (Sat.rest hw)) ?_⟩
    conv => whnf
    refine ⟨(by (repeat' apply And.intro) <;> first | exact True.intro | (unfold rng; omega) | omega), OpAt.lit [.int .i64 (g + x)] 1 rfl rfl rfl rfl rfl (by decide) rfl rfl rfl (by simp [Value.cells]) rfl (by decide) fun g2 => ?_⟩
    conv => whnf
    refine ⟨trivial, OpAt.append (.slice B out.length d) out.length 1 8 (ints out) [.int .i64 (g + x)] (some ⟨g2, 0, none⟩) 1 1 _ rfl (fun h s => sepL_pull 1 s) rfl rfl rfl rfl rfl rfl rfl rfl rfl (by decide) (fun w hw => rowH_reads rfl (Sat.left hw)) (ints_oneF [_]) (by simp only [maxLen]; omega) (by omega) fun B' d' => ?_⟩
    conv => whnf
    have e1 : (out ++ [g + x]).length = out.length + 1 := by simp
    refine ⟨(by (repeat' apply And.intro) <;> first | exact True.intro | (unfold rng; simp only; omega) | (simp only; omega) | (unfold rng; omega) | omega), Next.heap (out ++ [g + x], B', d') ⟨by simp only; omega, ?_, ?_⟩ (by simp only; omega) ⟨⟨?_, rfl⟩, ⟨?_, rfl⟩, trivial⟩ ⟨⟨rfl, rfl⟩, ⟨rfl, rfl⟩, ⟨rfl, rfl⟩, trivial⟩ trivial rfl rfl fun h s => ?_⟩
    · intro v hv
      rw [List.mem_append] at hv
      rcases hv with hv | hv
      · exact i2 v hv
      · rw [List.mem_singleton] at hv
        subst hv
        unfold isV
        omega
    · rw [e1]; exact i4
    · simp [getT]
    · simp [getT]
    · obtain ⟨h', e', s'⟩ := sub_tail (sepL_pull 1 s)
      refine ⟨h', e', ?_⟩
      simp only [e1]
      rw [ints_append]
      simpa [ints] using s'
  · have h : out.length = n := by simp at h; omega
    rw [h, ← hl, List.drop_length] at i4
    rw [cellsR] at i4
    subst i4
    conv => whnf
    exact ⟨trivial, .mk _ (fun w s => s) (.inr ⟨rfl, B, d, rfl, rfl⟩)⟩

theorem prep_mem {a : List Int} {r : List Int × Nat × Nat} {v : Int} (h : v ∈ (prep a r).1) : v ∈ a ∨ v ∈ r.1 := by
  unfold prep at h
  split at h
  · exact List.mem_append.1 h
  · cases h
theorem runsR_i64 (b : List UInt8) : ∀ (f m a : Nat) (last : Bool), ∀ v ∈ (runsR b f m a last).1, -9223372036854775808 ≤ v ∧ v ≤ 9223372036854775807 := by
  intro f
  induction f with
  | zero => intro m a last v h; simp [runsR] at h
  | succ f ih =>
    intro m a last v h
    rw [runsR] at h
    by_cases h0 : m = 0
    · rw [if_pos h0] at h; cases h
    rw [if_neg h0] at h
    by_cases h1 : (lebAt b a).2.2 ≠ 0
    · rw [if_pos h1] at h; cases h
    rw [if_neg h1] at h
    have hx := lebAt_next (Decidable.not_not.1 h1)
    by_cases h2 : 0 < (lebAt b a).1
    · rw [if_pos h2] at h
      rcases prep_mem h with h | h
      · rw [List.mem_singleton] at h
        subst h
        exact unfoldZ_range _ (by omega) (by omega)
      · exact ih _ _ _ v h
    rw [if_neg h2] at h
    by_cases h3 : last = true
    · rw [if_pos h3] at h; cases h
    rw [if_neg h3] at h
    by_cases h4 : (lebAt b (lebAt b a).2.1).2.2 ≠ 0
    · rw [if_pos h4] at h; cases h
    rw [if_neg h4] at h
    by_cases h5 : m - 1 < (lebAt b (lebAt b a).2.1).1
    · rw [if_pos h5] at h; cases h
    rw [if_neg h5] at h
    rcases prep_mem h with h | h
    · have := List.eq_of_mem_replicate h
      subst this
      omega
    · exact ih _ _ _ v h
theorem sRight06 {R : HP} (w h : Nat) (hw : 0 < w) (hw2 : w ≤ 16) (hh : 0 < h) (hh2 : h ≤ 16) : PureR Tryz.prog R 56 [.int .i64 (w : Int), .int .i64 (h : Int)] (.bool true) := by
  refine fn_of_run0 false Tryz.func56 rfl hmix rfl fun w0 => ?_
  conv => whnf
  repeat (first | (refine And.intro ?_ ?_; rotate_left; (focus (intro g; exfalso; first | (simp at g; done) | (simp at g; omega) | (revert g; decide))); intro _; conv => whnf) | (refine And.intro ?_ ?_; (focus (intro g; exfalso; first | (simp at g; done) | (simp at g; omega) | (revert g; decide))); intro _; conv => whnf))
  refine ⟨(by (repeat' apply And.intro) <;> first | exact True.intro | (unfold rng; omega) | omega), fin_drop ?_⟩
  show Value.bool (decide ((h : Int) < 17)) = _
  rw [decide_eq_true (by omega)]
theorem sTileGet {R : HP} {A : Option Addr} {n c : Nat} {b : List UInt8} (ha : Sl R A n 1 (byts b)) (hl : b.length = n) (hnc : n ≤ c) (hc : c ≤ 9223372036854775807) (hn : n ≤ 140737488351232) (w h : Nat) (hw : 0 < w) (hw2 : w ≤ 16) (hh : 0 < h) (hh2 : h ≤ 16) :
    FnR Tryz.prog R 32 [.slice A n c, .int .i64 (w : Int), .int .i64 (h : Int)] [] (PostI (tileR b w h)) := by
  obtain ⟨T, hT⟩ : ∃ T, tileR b w h = T := ⟨_, rfl⟩
  rw [hT]
  have hbad : ∀ k : Nat, k ≠ 0 → T = ([], 0, k) → PostI T (.tuple #[.slice none 0 0, .int .i64 0, .int .i64 (k : Int)]) [] := fun k hk e => by
    subst e
    exact .inl ⟨hk, rfl, rfl⟩
  refine FnR.of_sat fun w00 hs => ?_
  obtain ⟨h1, sa⟩ := ha.spot (by decide) hs
  have hwh : w * h ≤ 256 := Nat.mul_le_mul hw2 hh2
  have hmul : (w : Int) * (h : Int) = ((w * h : Nat) : Int) := by simp
  have hdiv : (w * h) % w = 0 := Nat.mul_mod_right _ _
  obtain ⟨m, hm⟩ : ∃ m, w * h = m := ⟨_, rfl⟩
  have hruns := fun R' (hR : ∀ w, Sat R' w → Sat R w) (h1 : 1 ≤ n) => sRunsGet (R := R') (c := c) (ha.mono hR) hl hnc hc hn 1 m h1 (by omega)
  refine fn_of_run0 false Tryz.func32 rfl hmix rfl fun w0 => ?_
  conv => whnf
  refine ⟨trivial, CallAt.pure (fun R' hR' => sRight06 w h hw hw2 hh hh2) ?_⟩
  conv => whnf
  repeat (first | (refine And.intro ?_ ?_; rotate_left; (focus (intro g; exfalso; first | (simp at g; done) | (simp at g; omega) | (revert g; decide))); intro _; conv => whnf) | (refine And.intro ?_ ?_; (focus (intro g; exfalso; first | (simp at g; done) | (simp at g; omega) | (revert g; decide))); intro _; conv => whnf))
  conv => whnf
  cases b with
  | nil =>
    obtain rfl : n = 0 := hl.symm
    repeat (first | (refine And.intro ?_ ?_; rotate_left; (focus (intro g; exfalso; first | (simp at g; done) | (simp at g; omega) | (revert g; decide))); intro _; conv => whnf) | (refine And.intro ?_ ?_; (focus (intro g; exfalso; first | (simp at g; done) | (simp at g; omega) | (revert g; decide))); intro _; conv => whnf))
    exact ⟨(by (repeat' apply And.intro) <;> first | exact True.intro | (unfold rng; omega) | omega), fin_dropP (hbad 14 (by decide) hT.symm)⟩
  | cons x r =>
    have hp : 0 < n := by rw [← hl]; simp
    rcases sa with sa | ⟨g, off, rfl, sa⟩
    · omega
    have hx := x.toNat_lt
    have hrd : ∀ w1, Sat R w1 → w1.cell? ⟨g, off + 0, none⟩ = some (.int .u8 (x.toNat : Int)) := fun w1 hw => sa w1 hw 0 _ rfl
    unfold tileR at hT
    rw [hm] at hT hdiv hmul hwh
    obtain ⟨q, hq⟩ : ∃ q, runsR (x :: r) m m 1 false = q := ⟨_, rfl⟩
    have hq1 := runsR_len (x :: r) m m 1 false (Nat.le_refl _)
    have hq2 := runsR_i64 (x :: r) m m 1 false
    simp only [hq] at hruns hq1 hq2 hT
    generalize x.toNat = k at *
    repeat (first | (refine And.intro ?_ ?_; rotate_left; (focus (intro g; exfalso; first | (simp at g; done) | (simp at g; omega) | (revert g; decide))); intro _; conv => whnf) | (refine And.intro ?_ ?_; (focus (intro g; exfalso; first | (simp at g; done) | (simp at g; omega) | (revert g; decide))); intro _; conv => whnf))
    conv => whnf
    refine ⟨⟨trivial, by omega, by omega⟩, LoadAt.cell (.int .u8 (k : Int)) rfl rfl (fun w hw => hrd w (Sat.rest hw)) ?_⟩
    by_cases hk : 2 < k
    · rw [if_pos hk] at hT
      conv => whnf
      repeat (first | (refine And.intro ?_ ?_; rotate_left; (focus (intro g; exfalso; first | (simp at g; done) | (simp at g; omega) | (revert g; decide))); intro _; conv => whnf) | (refine And.intro ?_ ?_; (focus (intro g; exfalso; first | (simp at g; done) | (simp at g; omega) | (revert g; decide))); intro _; conv => whnf))
      exact ⟨(by (repeat' apply And.intro) <;> first | exact True.intro | (unfold rng; omega) | omega), fin_dropP (hbad 13 (by decide) hT.symm)⟩
    rw [if_neg hk] at hT
    conv => whnf
    repeat (first | (refine And.intro ?_ ?_; rotate_left; (focus (intro g; exfalso; first | (simp at g; done) | (simp at g; omega) | (revert g; decide))); intro _; conv => whnf) | (refine And.intro ?_ ?_; (focus (intro g; exfalso; first | (simp at g; done) | (simp at g; omega) | (revert g; decide))); intro _; conv => whnf))
    conv => whnf
    refine ⟨⟨trivial, by rw [hmul]; unfold rng; omega⟩, CallAt.fn (pre := []) _ (fun h s => s) (fun R' hR' => by rw [hmul]; exact hruns R' (fun w s => Sat.rest (hR' w s)) hp) ?_⟩
    rintro r hs (⟨q0, rfl, rfl⟩ | ⟨q0, B, cb, rfl, rfl⟩)
    · rw [if_pos q0] at hT
      have q1 : ¬ ((q.2.2 : Int) = 0) := by omega
      conv => whnf
      repeat (first | (refine And.intro ?_ ?_; rotate_left; (focus (intro g; exfalso; first | (simp at g; done) | (simp at g; omega) | (revert g; decide))); intro _; conv => whnf) | (refine And.intro ?_ ?_; (focus (intro g; exfalso; first | (simp at g; done) | (simp at g; omega) | (revert g; decide))); intro _; conv => whnf))
      exact ⟨trivial, fin_dropP (hbad q.2.2 q0 hT.symm)⟩
    · rw [if_neg (by omega)] at hT
      have q1 := hq1 q0
      obtain ⟨l, e, code⟩ := q
      simp only at q0 q1 hq2 hT
      subst q0
      rw [hl] at hT
      conv => whnf
      repeat (first | (refine And.intro ?_ ?_; rotate_left; (focus (intro g; exfalso; first | (simp at g; done) | (simp at g; omega) | (revert g; decide))); intro _; conv => whnf) | (refine And.intro ?_ ?_; (focus (intro g; exfalso; first | (simp at g; done) | (simp at g; omega) | (revert g; decide))); intro _; conv => whnf))
      conv => whnf
      by_cases he : e < n
      · rw [if_pos he] at hT
        repeat (first | (refine And.intro ?_ ?_; rotate_left; (focus (intro g; exfalso; first | (simp at g; done) | (simp at g; omega) | (revert g; decide))); intro _; conv => whnf) | (refine And.intro ?_ ?_; (focus (intro g; exfalso; first | (simp at g; done) | (simp at g; omega) | (revert g; decide))); intro _; conv => whnf))
        exact ⟨trivial, fin_dropP (hbad 13 (by decide) hT.symm)⟩
      rw [if_neg he] at hT
      repeat (first | (refine And.intro ?_ ?_; rotate_left; (focus (intro g; exfalso; first | (simp at g; done) | (simp at g; omega) | (revert g; decide))); intro _; conv => whnf) | (refine And.intro ?_ ?_; (focus (intro g; exfalso; first | (simp at g; done) | (simp at g; omega) | (revert g; decide))); intro _; conv => whnf))
      conv => whnf
      refine ⟨⟨trivial, by omega, by omega⟩, LoadAt.cell (.int .u8 (k : Int)) rfl rfl (fun w hw => hrd w (Sat.rest hw)) ?_⟩
      conv => whnf
      refine ⟨(by (repeat' apply And.intro) <;> first | exact True.intro | (unfold rng; omega) | omega), CallAt.fn (pre := []) _ (fun h s => s) (fun R' hR' => sCells04 (R := R') (A := B) (n := l.length) (c := cb) (l := l) (Vs.row fun w s => (hR' w s).in_ 0 rfl) rfl k w (by omega) hw (by omega) (by omega) (by rw [q1]; exact hdiv) hq2) ?_⟩
      obtain ⟨⟨C, code⟩, hC⟩ : ∃ C, cellsR k w l [] = C := ⟨_, rfl⟩
      rw [hC]
      simp only [hC] at hT
      rintro r hs (⟨q0, rfl, rfl⟩ | ⟨q0, B2, cb2, rfl, rfl⟩)
      · simp only at q0
        rw [if_pos q0] at hT
        have q1 : ¬ ((code : Int) = 0) := by omega
        conv => whnf
        repeat (first | (refine And.intro ?_ ?_; rotate_left; (focus (intro g; exfalso; first | (simp at g; done) | (simp at g; omega) | (revert g; decide))); intro _; conv => whnf) | (refine And.intro ?_ ?_; (focus (intro g; exfalso; first | (simp at g; done) | (simp at g; omega) | (revert g; decide))); intro _; conv => whnf))
        exact ⟨trivial, fin_dropP (hbad code q0 hT.symm)⟩
      · simp only at q0
        subst q0
        rw [if_neg (by omega)] at hT
        subst hT
        conv => whnf
        repeat (first | (refine And.intro ?_ ?_; rotate_left; (focus (intro g; exfalso; first | (simp at g; done) | (simp at g; omega) | (revert g; decide))); intro _; conv => whnf) | (refine And.intro ?_ ?_; (focus (intro g; exfalso; first | (simp at g; done) | (simp at g; omega) | (revert g; decide))); intro _; conv => whnf))
        conv => whnf
        refine ⟨trivial, RegAt.quiet hmix (by kernel_rfl) ?_⟩
        conv => whnf
        refine ⟨⟨trivial, by omega, by omega⟩, LoadAt.cell (.int .u8 (k : Int)) rfl rfl (fun w hw => hrd w (Sat.rest hw)) ?_⟩
        conv => whnf
        refine ⟨(by (repeat' apply And.intro) <;> first | exact True.intro | (unfold rng; omega) | omega), ?_⟩
        conv => whnf
        refine ⟨(by (repeat' apply And.intro) <;> first | exact True.intro | (unfold rng; omega) | omega), .mk [rowH (.slice B2 C.length cb2) C.length 2 1 (ints C)] (fun w sw => ?_) (.inr ⟨rfl, B2, cb2, rfl, rfl⟩)⟩
        obtain ⟨h0, hs0, s'⟩ := sw
        obtain ⟨h', e', s2⟩ := sub_tail (sepL_pull 1 s')
        exact ⟨h', hs0.mono e', s2⟩

/-- one bit -/
def crcBit (s : Nat) : Nat := if s % 2 = 1 then s / 2 ^^^ 2197175160 else s / 2
/-- so many bits -/
def crcBits : Nat → Nat → Nat
  | 0, s => s
  | k + 1, s => crcBits k (crcBit s)
/-- one byte -/
def crcByte (s : Nat) (c : UInt8) : Nat := crcBits 8 (s ^^^ c.toNat)
/-- bytes behind a sum -/
def crcMore (s : Nat) (l : List UInt8) : Nat := l.foldl crcByte (s ^^^ 4294967295) ^^^ 4294967295
/-- what four bits come to -/
def halves : List Nat := [0, 274646895, 549293790, 820201905, 1098587580, 1361435347, 1640403810, 1905808397, 2197175160, 2460548119, 2722870694, 2987750089, 3280807620, 3553878443, 3811616794, 4084100981]

theorem crcBit_lt (s : Nat) (h : s < 4294967296) : crcBit s < 4294967296 := by
  unfold crcBit
  split
  · exact Nat.xor_lt_two_pow (n := 32) (by omega) (by omega)
  · omega
theorem crcBits_lt : ∀ (k s : Nat), s < 4294967296 → crcBits k s < 4294967296 := by
  intro k
  induction k with
  | zero => intro s h; exact h
  | succ k ih => intro s h; exact ih _ (crcBit_lt s h)
theorem xor_lt32 {a b : Nat} (ha : a < 4294967296) (hb : b < 4294967296) : a ^^^ b < 4294967296 := Nat.xor_lt_two_pow (n := 32) ha hb
theorem crcByte_lt (s : Nat) (c : UInt8) (h : s < 4294967296) : crcByte s c < 4294967296 :=
  crcBits_lt 8 _ (xor_lt32 h (by have := UInt8.toNat_lt c; omega))
theorem fold_lt : ∀ (l : List UInt8) (s : Nat), s < 4294967296 → l.foldl crcByte s < 4294967296 := by
  intro l
  induction l with
  | nil => intro s h; exact h
  | cons c l ih => intro s h; exact ih _ (crcByte_lt s c h)
theorem crcMore_lt (s : Nat) (l : List UInt8) (h : s < 4294967296) : crcMore s l < 4294967296 := by
  unfold crcMore
  exact xor_lt32 (fold_lt _ _ (xor_lt32 h (by omega))) (by omega)
theorem crcBit_even' {s : Nat} (h : s % 2 = 0) : crcBit s = s / 2 := by unfold crcBit; rw [if_neg (by omega)]
theorem crcBit_odd {s : Nat} (h : s % 2 = 1) : crcBit s = s / 2 ^^^ 2197175160 := by unfold crcBit; rw [if_pos h]


theorem u32_xor_n (a b : Nat) (ha : a < 4294967296) (hb : b < 4294967296) : bits .xor .u32 (a : Int) (b : Int) = ((a ^^^ b : Nat) : Int) := u32_xor_nat a b ha hb
theorem take_more (l : List UInt8) (k : Nat) (h : k < l.length) (s : Nat) : (l.take (k + 1)).foldl crcByte s = crcByte ((l.take k).foldl crcByte s) l[k] := by
  rw [List.take_succ_eq_append_getElem h, List.foldl_append]; rfl

set_option maxHeartbeats 1000000 in
theorem rMore_any (s : Nat) (A : Option Addr) (n c : Nat) (l : List UInt8) (w : World) (h : Bts w w.heap.size A n l) (hs : s < 4294967296) (hn : n ≤ 140737488351232) :
    Calls Tryz.prog 101 #[.int .u32 s, .slice A n c] w fun e w' => e = .returned (.int .u32 (crcMore s l : Nat)) ∧ w = w' := by
  have hlen := h.len
  subst hlen
  have h0 : s ^^^ 4294967295 < 4294967296 := xor_lt32 hs (by omega)
  go_enter Tryz.func101, Tryz.ntmps101
  go_wp2
  go_loop [0, 5, 6, 7] (fun t i _ _ => ∃ (k q : Nat), k ≤ l.length ∧ i = .int .i64 k ∧ t = .int .u32 q ∧ q < 4294967296 ∧ Hid (q = (l.take k).foldl crcByte (s ^^^ 4294967295))) (fun _ i _ _ => l.length - (intOf i).toNat)
  case atStart => exact ⟨0, s ^^^ 4294967295, by omega, rfl, by rw [← u32_xor_n s 4294967295 hs (by omega)]; rfl, h0, rfl⟩
  case round =>
    obtain ⟨k, q, hk, rfl, rfl, hq, HQ⟩ := hrel
    by_cases hlt : k < l.length
    · obtain ⟨b, off, rfl, hb, hcell⟩ := h.plain (by omega)
      obtain ⟨x, hx⟩ : ∃ x : Nat, x = l[k].toNat := ⟨_, rfl⟩
      have hcx : w.cell? ⟨b, off + k, none⟩ = some (.int .u8 (x : Int)) := by rw [hx]; exact hcell k hlt
      have hx8 : x < 256 := by rw [hx]; exact UInt8.toNat_lt _
      obtain ⟨s1, h1⟩ : ∃ s1, q ^^^ x = s1 := ⟨_, rfl⟩
      have l1 : s1 < 4294967296 := by rw [← h1]; exact xor_lt32 hq (by omega)
      have e1 : bits .xor .u32 (q : Int) (x : Int) = (s1 : Int) := by rw [u32_xor_n q x hq (by omega), h1]
      have HX := Lib.hid hx
      have H1 := Lib.hid h1
      clear h1 hx hcell h
      go_wp2
      go_loop [0, 6, 7] (fun t j _ => ∃ (i r : Nat), i ≤ 8 ∧ j = .int .i64 i ∧ t = .int .u32 r ∧ r < 4294967296 ∧ Hid (crcBits (8 - i) r = crcBits 8 s1)) (fun _ j _ => 8 - (intOf j).toNat)
      case atStart => exact ⟨0, s1, by omega, rfl, rfl, l1, rfl⟩
      case round =>
        obtain ⟨i, r, hi, rfl, rfl, hr, HR⟩ := hrel
        by_cases hi8 : i < 8
        · have HR2 : Hid (crcBits (8 - (i + 1)) (crcBit r) = crcBits 8 s1) := by
            show _ = _
            rw [← HR.out, show 8 - i = (8 - (i + 1)) + 1 from by omega]
            rfl
          rcases Nat.mod_two_eq_zero_or_one r with hodd | hodd
          · have hb1 : ((r : Int) % 2 == 1) = false := by rw [beq_eq_false_iff_ne]; omega
            have HB := Lib.hid (crcBit_even' hodd)
            clear hodd
            go_wp2
            go_round
            case rel => exact ⟨i + 1, r / 2, by omega, by go_num, by go_num, by omega, by rw [← HB.out]; exact HR2⟩
            case measure => simp [intOf]; omega
          · have hb1 : ((r : Int) % 2 == 1) = true := by rw [beq_iff_eq]; omega
            have HB := Lib.hid (crcBit_odd hodd)
            have HL := crcBit_lt r hr
            have e2 : bits .xor .u32 ((r : Int) / 2) 2197175160 = ((crcBit r : Nat) : Int) := by
              have := u32_xor_n (r / 2) 2197175160 (by omega) (by omega)
              rw [← HB.out] at this
              exact this
            clear hodd
            go_wp2
            go_round
            case rel => exact ⟨i + 1, crcBit r, by omega, by go_num, rfl, HL, HR2⟩
            case measure => simp [intOf]; omega
        · have HE : Hid (r = crcByte q l[k]) := by
            show _ = _
            have := HR.out
            rw [show 8 - i = 0 from by omega] at this
            rw [crcByte, ← HX.out, H1.out]
            exact this
          go_wp2
          go_round
          case rel =>
            refine ⟨k + 1, r, by omega, by go_num, rfl, hr, ?_⟩
            show r = _
            rw [take_more l k hlt, ← HQ.out, HE.out]
          case measure => simp [intOf]; omega
    · have HE : Hid (q ^^^ 4294967295 = crcMore s l) := by
        show _ = _
        rw [HQ.out, List.take_of_length_le (by omega)]
        rfl
      go_wp2
      go_ret
      exact ⟨ret_int (by rw [← HE.out, ← u32_xor_n q 4294967295 hq (by omega)]; rfl), rfl⟩
theorem rSum_any (A : Option Addr) (n c : Nat) (l : List UInt8) (w : World) (h : Bts w w.heap.size A n l) (hn : n ≤ 140737488351232) :
    Calls Tryz.prog 50 #[.slice A n c] w fun e w' => e = .returned (.int .u32 (crcMore 0 l : Nat)) ∧ w = w' := by
  go_enter Tryz.func50, Tryz.ntmps50
  go_wp2_with fail
  refine (rMore_any 0 A n c l _ h (by omega) hn).mono ?_
  rintro e w1 ⟨rfl, rfl⟩
  go_wp2_with fail
  go_ret
  exact ⟨rfl, rfl⟩

/-- a sum's bytes -/
def tailB (s : Nat) : List UInt8 := [UInt8.ofNat s, UInt8.ofNat (s / 256), UInt8.ofNat (s / 65536), UInt8.ofNat (s / 16777216)]
/-- without it; the error's number -/
def openB (l : List UInt8) : List UInt8 × Nat :=
  if l.length < 4 then ([], 14)
  else if l.drop (l.length - 4) = tailB (crcMore 0 (l.take (l.length - 4))) then (l.take (l.length - 4), 0)
  else ([], 10)
theorem tailB_len (s : Nat) : (tailB s).length = 4 := rfl
theorem byte_ofNat (s : Nat) : ((UInt8.ofNat s).toNat : Int) = (s : Int) % 256 := by rw [UInt8.toNat_ofNat']; omega
theorem tailB_byts (s : Nat) : byts (tailB s) = [.int .u8 ((s : Int) % 256), .int .u8 ((s : Int) / 256 % 256), .int .u8 ((s : Int) / 65536 % 256), .int .u8 ((s : Int) / 16777216 % 256)] := by
  simp only [byts, tailB, List.map_cons, List.map_nil, byte_ofNat]
  rfl

/-- what Open hands back: a part of the bytes that it was given, a code -/
def openV (A : Option Addr) (c : Nat) (q : List UInt8 × Nat) : Value := .tuple #[if q.2 = 0 then .slice A q.1.length c else .slice none 0 0, .int .i64 (q.2 : Int)]
theorem own_lit4 (w : World) (xs : List Value) (h : xs.length = 4) (C : Array Value) (hC : C = xs.toArray) : (w.alloc (.cells C 5)).ownsRow w.heap.size 5 1 (.slice (some ⟨w.heap.size, 0, none⟩) 4 4) 4 xs := by
  subst hC
  have := World.ownsRow_lit (base := w.heap.size) (e := 5) (size := 1) w xs.toArray 4 (Nat.le_refl _) (by simp [maxLen]) (by simpa using h)
  simpa using this

theorem rTail_any (s : Nat) (w : World) (hs : s < 4294967296) : Calls Tryz.prog 49 #[.int .u32 s] w (GivesB w (tailB s)) := by
  go_enter Tryz.func49, Tryz.ntmps49
  go_wp2
  go_ret
  refine givesB_mk (own_lit4 w (byts (tailB s)) rfl _ ?_) rfl ((Below.refl _ _).alloc (Nat.le_refl _) _)
  have e : (s : Int) / 16777216 % 256 = (s : Int) / 16777216 := by omega
  rw [tailB_byts, e]

theorem Bts.sub' {w : World} {B : Nat} {b off n : Nat} {l : List UInt8} (h : Bts w B (some ⟨b, off, none⟩) n l) (k e : Nat) (hk : k ≤ e) (he : e ≤ n) :
    Bts w B (some ⟨b, off + k, none⟩) (e - k) ((l.drop k).take (e - k)) := by
  refine ⟨?_, fun hn => ?_⟩
  · have := h.len
    simp; omega
  · obtain ⟨ad, e1, hb, hc⟩ := h.2 (by omega)
    injection e1 with e1
    subst e1
    refine ⟨_, rfl, hb, fun j u hu => ?_⟩
    have := hc (k + j) u (by
      rw [← byts_take, ← byts_drop, List.getElem?_take] at hu
      split at hu
      · rwa [List.getElem?_drop] at hu
      · cases hu)
    rw [add_plain] at this ⊢
    rwa [Nat.add_assoc]
theorem Bts.head {w : World} {B : Nat} {A : Option Addr} {n : Nat} {l : List UInt8} (h : Bts w B A n l) (k : Nat) (hk : k ≤ n) : Bts w B A k (l.take k) := by
  have := Reads.take h hk
  rwa [Nat.mul_one, byts_take] at this

set_option maxHeartbeats 4000000 in
theorem rOpenR (A : Option Addr) (n c : Nat) (l : List UInt8) (w : World) (h : Bts w w.heap.size A n l) (hnc : n ≤ c) (hc : c ≤ 9223372036854775807) (hn : n ≤ 35184372088832) :
    Calls Tryz.prog 27 #[.slice A n c] w fun e w' => e = .returned (openV A c (openB l)) ∧ Below w.heap.size w w' := by
  have hlen := h.len
  subst hlen
  by_cases h4 : l.length < 4
  · have HO : Hid (openB l = ([], 14)) := by unfold Hid openB; rw [if_pos h4]
    go_enter Tryz.func27, Tryz.ntmps27
    go_wp2_with fail
    go_ret2
    rw [HO.out]
    exact ⟨rfl, Below.refl _ _⟩
  · obtain ⟨b, off, rfl, hb, hcell⟩ := h.plain (by omega)
    clear hcell
    have i1 : IntKind.i64.wrap ((l.length : Int) - 4) = (l.length : Int) - 4 := IntWalk.i64_in _ (by omega)
    have i2 : (0 : Int) ≤ (l.length : Int) - 4 := by omega
    have i3 : (4 : Int) ≤ (l.length : Int) := by omega
    have i4 : ((l.length : Int) - 4).toNat = l.length - 4 := by omega
    have i5 : (l.length : Int) ≤ (c : Int) := by omega
    have i6 : ((l.length : Int) - 4) ≤ (l.length : Int) := by omega
    have i7 : ((l.length : Int) - 4) ≤ (c : Int) := by omega
    have i8 : ¬ c = l.length - 4 := by omega
    go_enter Tryz.func27, Tryz.ntmps27
    have hd : Bts w.drew w.drew.heap.size (some ⟨b, off, none⟩) l.length l := h
    have hsub := Bts.sub' hd (l.length - 4) l.length (by omega) (Nat.le_refl _)
    rw [List.take_of_length_le (by simp)] at hsub
    have Q1 := Lib.hid (conv_bytes (P := Tryz.prog) 27 9 5 Tryz.underlying27 Tryz.underlying5 Tryz.underlying9 hsub (c - (l.length - 4)))
    have hin : Bts w w.heap.size (some ⟨b, off, none⟩) (l.length - 4) (l.take (l.length - 4)) := Bts.head h _ (by omega)
    go_wp2_with fail
    refine wp_region_noPanic ?_
    refine wp_region_held_drew (S := fun W => Sem.run Tryz.prog (convert 27 9 (Value.slice (some ⟨b, off + (l.length - 4), none⟩) (l.length - (l.length - 4)) (c - (l.length - 4)))) W = Result.ok (Value.string ⟨(l.drop (l.length - 4)).toArray⟩) W) (by kernel_rfl) ?_ (fun hHeld => ?_)
    · exact Q1.out
    refine wpAnyH_take (i := 0) (oi := _) (v := ?_) rfl (by kernel_rfl) (by kernel_rfl) (by kernel_rfl) (fun _ _ _ h => h) (Or.inl ⟨by rfl, ?_⟩) (by assumption) ?_
    rotate_left
    · (intro w hSw; (try dsimp only at hSw); go_simp; try with_reducible rfl)
    try simp only [List.getElem_toArray, List.getElem_cons_zero, List.getElem_cons_succ, Act.put, List.setIfInBounds_toArray, List.set_cons_zero, List.set_cons_succ]
    refine wpAnyH_take (i := 1) (oi := _) (v := ?_) rfl (by kernel_rfl) (by kernel_rfl) (by kernel_rfl) (fun _ _ _ h => h) (Or.inl ⟨by rfl, ?_⟩) (by assumption) ?_
    rotate_left
    · (intro w hSw; (try dsimp only at hSw); go_simp; try with_reducible rfl)
    try simp only [List.getElem_toArray, List.getElem_cons_zero, List.getElem_cons_succ, Act.put, List.setIfInBounds_toArray, List.set_cons_zero, List.set_cons_succ]
    refine wpAnyH_take (i := 2) (oi := _) (v := ?_) rfl (by kernel_rfl) (by kernel_rfl) (by kernel_rfl) (fun _ _ _ h => h) (Or.inl ⟨by rfl, ?_⟩) (by assumption) ?_
    rotate_left
    · (intro w hSw; (try dsimp only at hSw); go_simp; try with_reducible rfl)
    try simp only [List.getElem_toArray, List.getElem_cons_zero, List.getElem_cons_succ, Act.put, List.setIfInBounds_toArray, List.set_cons_zero, List.set_cons_succ]
    refine wpAnyH_take (i := 6) (oi := _) (v := ?_) rfl (by kernel_rfl) (by kernel_rfl) (by kernel_rfl) (fun _ _ _ h => h) (Or.inl ⟨by rfl, ?_⟩) (by assumption) ?_
    rotate_left
    · (intro w hSw; (try dsimp only at hSw); go_simp; try with_reducible rfl)
    try simp only [List.getElem_toArray, List.getElem_cons_zero, List.getElem_cons_succ, Act.put, List.setIfInBounds_toArray, List.set_cons_zero, List.set_cons_succ]
    refine wpAnyH_take (i := 7) (oi := _) (v := ?_) rfl (by kernel_rfl) (by kernel_rfl) (by kernel_rfl) (fun _ _ _ h => h) (Or.inl ⟨by rfl, ?_⟩) (by assumption) ?_
    rotate_left
    · (intro w hSw; (try dsimp only at hSw); go_simp; try with_reducible rfl)
    try simp only [List.getElem_toArray, List.getElem_cons_zero, List.getElem_cons_succ, Act.put, List.setIfInBounds_toArray, List.set_cons_zero, List.set_cons_succ]
    refine wpAnyH_take (i := 8) (oi := _) (v := ?_) rfl (by kernel_rfl) (by kernel_rfl) (by kernel_rfl) (fun _ _ _ h => h) (Or.inl ⟨by rfl, ?_⟩) (by assumption) ?_
    rotate_left
    · (intro w hSw; (try dsimp only at hSw); go_simp; try with_reducible rfl)
    try simp only [List.getElem_toArray, List.getElem_cons_zero, List.getElem_cons_succ, Act.put, List.setIfInBounds_toArray, List.set_cons_zero, List.set_cons_succ]
    refine wpAnyH_take (i := 9) (oi := _) (v := ?_) rfl (by kernel_rfl) (by kernel_rfl) (by kernel_rfl) (fun _ _ _ h => h) (Or.inl ⟨by rfl, ?_⟩) (by assumption) ?_
    rotate_left
    · (intro w hSw; (try dsimp only at hSw); go_simp; try with_reducible rfl)
    try simp only [List.getElem_toArray, List.getElem_cons_zero, List.getElem_cons_succ, Act.put, List.setIfInBounds_toArray, List.set_cons_zero, List.set_cons_succ]
    refine wpAnyH_ready (rs := [3]) (by kernel_rfl) (by simp) ?_
    refine AllReadyH.cons (o := _) rfl (fun K hK => ?_) AllReadyH.nil
    go_simp
    refine (rSum_any _ _ c (l.take (l.length - 4)) _ (Bts.head hd _ (by omega)) (by omega)).mono ?_
    rintro e1 w1 ⟨rfl, rfl⟩
    go_wp2_with fail
    refine hK.out _ _ ?_ (fun hHeld => ?_)
    · exact Q1.out
    clear hK K
    try simp only [List.getElem_toArray, List.getElem_cons_zero, List.getElem_cons_succ, Act.put, List.setIfInBounds_toArray, List.set_cons_zero, List.set_cons_succ]
    refine wpAnyH_ready (rs := [4]) (by kernel_rfl) (by simp) ?_
    refine AllReadyH.cons (o := _) rfl (fun K hK => ?_) AllReadyH.nil
    go_simp
    refine (rTail_any _ _ (crcMore_lt 0 _ (by omega))).mono ?_
    rintro e2 w2 ⟨A2, c2, rfl, hown2, hb2⟩
    have q3 := conv_bytes (P := Tryz.prog) 27 9 5 Tryz.underlying27 Tryz.underlying5 Tryz.underlying9 (Reads.of_own hown2) c2
    have Q4 := Lib.hid (conv_bytes (P := Tryz.prog) 27 9 5 Tryz.underlying27 Tryz.underlying5 Tryz.underlying9 (Reads.below hsub hb2) (c - (l.length - 4)))
    go_wp2_with fail
    refine hK.out _ _ ?_ (fun hHeld => ?_)
    · exact Q4.out
    clear hK K
    try simp only [List.getElem_toArray, List.getElem_cons_zero, List.getElem_cons_succ, Act.put, List.setIfInBounds_toArray, List.set_cons_zero, List.set_cons_succ]
    refine wpAnyH_ready (rs := [5]) (by kernel_rfl) (by simp) ?_
    refine AllReadyH.cons (o := _) rfl (fun K hK => ?_) AllReadyH.nil
    go_simp
    refine hK.out _ _ ?_ (fun hHeld => ?_)
    · exact Q4.out
    clear hK K
    try simp only [List.getElem_toArray, List.getElem_cons_zero, List.getElem_cons_succ, Act.put, List.setIfInBounds_toArray, List.set_cons_zero, List.set_cons_succ]
    refine wpAnyH_take (i := 10) (oi := _) (v := ?_) rfl (by kernel_rfl) (by kernel_rfl) (by kernel_rfl) (fun _ _ _ h => h) (Or.inl ⟨by rfl, ?_⟩) (by assumption) ?_
    rotate_left
    · (intro w hSw; (try dsimp only at hSw); go_simp; try with_reducible rfl)
    try simp only [List.getElem_toArray, List.getElem_cons_zero, List.getElem_cons_succ, Act.put, List.setIfInBounds_toArray, List.set_cons_zero, List.set_cons_succ]
    refine wpAnyH_done (by kernel_rfl) ?_ _
    refine NoPanic.normal ?_
    have hbw : Below w.heap.size w w2 := (Below.refl _ _).drew.trans hb2
    clear i1 i2 i4 i5 i6 i7 i8 q3 Q4 Q1 hsub hd hown2 hb2 hHeld
    go_wp2_with fail
    · have ha : (!tailB (crcMore 0 (List.take (l.length - 4) l)) == List.drop (l.length - 4) l) = true := by assumption
      have heq : ¬ l.drop (l.length - 4) = tailB (crcMore 0 (l.take (l.length - 4))) := fun hh => by rw [hh] at ha; simp at ha
      have HO : openB l = ([], 10) := by unfold openB; rw [if_neg h4, if_neg heq]
      go_ret2
      rw [HO]
      exact ⟨rfl, hbw⟩
    · have ha : (!tailB (crcMore 0 (List.take (l.length - 4) l)) == List.drop (l.length - 4) l) = false := by assumption
      have heq : l.drop (l.length - 4) = tailB (crcMore 0 (l.take (l.length - 4))) := by
        rw [Bool.not_eq_false', beq_iff_eq] at ha
        exact ha.symm
      have HO : openB l = (l.take (l.length - 4), 0) := by unfold openB; rw [if_neg h4, if_pos heq]
      have el : (l.take (l.length - 4)).length = l.length - 4 := by simp
      go_ret2
      rw [HO]
      refine ⟨?_, hbw⟩
      rw [openV, if_pos rfl, el]
      rfl

theorem OpAt.cutS {G : Gl} {o : Oper} {st : St} {K : St → Prop} {t e : TypeId} {x l h : Operand} {i : TypeInfo} (b off n c lo hi : Nat) (k k' : IntKind) (ho : o.op = .slice t x (some l) (some h) none) (hx : evR st x = .slice (some ⟨b, off, none⟩) n c) (hl : evR st l = .int k (lo : Int)) (hh : evR st h = .int k' (hi : Int)) (hr : Sy.allR st o.op.operands.toList = true)
    (hu : G.P.underlying t = some (.slice e)) (hi' : G.P.info? e = some i) (h1 : lo ≤ hi) (h2 : hi ≤ n) (h3 : n ≤ c) (kk : ∀ A, (A = some ⟨b, off + lo * i.size, none⟩ ∨ hi = lo) → putK G st o.dst (.v (.slice A (hi - lo) (c - lo))) none K) : OpAt G o st K := by
  by_cases h4 : lo < c
  · refine OpAt.val _ (by rw [ho]; rfl) hr (fun w _ => ?_) (kk _ (.inl rfl))
    have h5 : ¬ c = lo := by omega
    have h6 : (lo : Int) ≤ (hi : Int) := by omega
    have h7 : hi ≤ c := by omega
    have h8 : (hi : Int) ≤ (c : Int) := by omega
    have hsz : (sizeOf e).run G.P w = .ok i.size w := by simp [sizeOf, typeInfo, hi']
    simp [execOp, ho, hx, hl, hh, Instr.sliceAt, Instr.slice, run_underlying hu, Instr.sliceBounds, Instr.sliceBound, asIntOf, h1, hsz, h5, h7, Addr.add]
  · refine OpAt.val _ (by rw [ho]; rfl) hr (fun w _ => ?_) (kk (some ⟨b, off, none⟩) (.inr (by omega)))
    have h5 : c = lo := by omega
    have h6 : hi = lo := by omega
    have hsz : (sizeOf e).run G.P w = .ok i.size w := by simp [sizeOf, typeInfo, hi']
    subst h5 h6
    simp [execOp, ho, hx, hl, hh, Instr.sliceAt, Instr.slice, run_underlying hu, Instr.sliceBounds, Instr.sliceBound, asIntOf, hsz, Addr.add]
theorem RunQ.cutS {G : Gl} {o : Oper} {st : St} {K : SV → Prop} {t e : TypeId} {x l h : Operand} {i : TypeInfo} (b off n c lo hi : Nat) (k k' : IntKind) (ho : o.op = .slice t x (some l) (some h) none) (hx : evR st x = .slice (some ⟨b, off, none⟩) n c) (hl : evR st l = .int k (lo : Int)) (hh : evR st h = .int k' (hi : Int)) (hr : Sy.allR st o.op.operands.toList = true)
    (hu : G.P.underlying t = some (.slice e)) (hi' : G.P.info? e = some i) (h1 : lo ≤ hi) (h2 : hi ≤ n) (h3 : n ≤ c) (kk : ∀ A, (A = some ⟨b, off + lo * i.size, none⟩ ∨ hi = lo) → K (.v (.slice A (hi - lo) (c - lo)))) : RunQ G o st K := by
  by_cases h4 : lo < c
  · refine RunQ.val _ (by rw [ho]; rfl) hr (fun w _ => ?_) (kk _ (.inl rfl))
    have h5 : ¬ c = lo := by omega
    have h6 : (lo : Int) ≤ (hi : Int) := by omega
    have h7 : hi ≤ c := by omega
    have h8 : (hi : Int) ≤ (c : Int) := by omega
    have hsz : (sizeOf e).run G.P w = .ok i.size w := by simp [sizeOf, typeInfo, hi']
    simp [execOp, ho, hx, hl, hh, Instr.sliceAt, Instr.slice, run_underlying hu, Instr.sliceBounds, Instr.sliceBound, asIntOf, h1, hsz, h5, h7, Addr.add]
  · refine RunQ.val _ (by rw [ho]; rfl) hr (fun w _ => ?_) (kk (some ⟨b, off, none⟩) (.inr (by omega)))
    have h5 : c = lo := by omega
    have h6 : hi = lo := by omega
    have hsz : (sizeOf e).run G.P w = .ok i.size w := by simp [sizeOf, typeInfo, hi']
    subst h5 h6
    simp [execOp, ho, hx, hl, hh, Instr.sliceAt, Instr.slice, run_underlying hu, Instr.sliceBounds, Instr.sliceBound, asIntOf, hsz, Addr.add]
theorem Sl.mid {R : HP} {b off n lo hi size : Nat} {A : Option Addr} {xs : List Value} (h : Sl R (some ⟨b, off, none⟩) n size xs) (h1 : lo ≤ hi) (h2 : hi ≤ n) (hA : A = some ⟨b, off + lo * size, none⟩ ∨ hi = lo) : Sl R A (hi - lo) size ((xs.drop (lo * size)).take ((hi - lo) * size)) := fun w s => by
  obtain ⟨g1, g2⟩ := h w s
  have hle : hi * size ≤ n * size := Nat.mul_le_mul_right _ h2
  have hlo : lo * size ≤ hi * size := Nat.mul_le_mul_right _ h1
  refine ⟨by rw [List.length_take, List.length_drop, g1, Nat.sub_mul]; omega, fun hn => ?_⟩
  obtain ⟨ad, e, hb, hc⟩ := g2 (by omega)
  injection e with e
  subst e
  rcases hA with rfl | hA
  · refine ⟨_, rfl, hb, fun j u hu => ?_⟩
    rw [List.getElem?_take] at hu
    split at hu
    · have := hc (lo * size + j) u (by rw [← hu, List.getElem?_drop])
      rw [add_plain] at this ⊢
      rw [← this, Nat.add_assoc]
    · cases hu
  · omega
theorem row_at {g n c size : Nat} {e : TypeId} {xs : List Value} {w : World} (s : Sat (rowH (.slice (some ⟨g, 0, none⟩) n c) n e size xs) w) (hn : 0 < n) {j : Nat} {u : Value} (h : xs[j]? = some u) : w.cell? ⟨g, j, none⟩ = some u := by
  obtain ⟨g', e, hr⟩ := rowH_at s hn
  injection e with e
  injection e with e
  subst e
  exact hr j u h
end Go.Proofs.YtgfiakgahmpfkaaGreatDoor
