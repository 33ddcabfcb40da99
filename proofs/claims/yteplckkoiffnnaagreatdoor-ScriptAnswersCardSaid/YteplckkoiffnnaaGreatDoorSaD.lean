/-
  Texts of the proofs, one behind the other: ScR, ScRa, ScRc, ScRb, ScRd, ScRe.
-/
import Derived.Test.YteplckkoiffnnaaGreatDoorSaB
import Derived.Test.YteplckkoiffnnaaGreatDoorNumRefP
import Derived.Test.YteplckkoiffnnaaGreatDoorSyMore
/-
  The document's words of a reply (number, cell, rect, list).
-/
namespace Go.Proofs.YteplckkoiffnnaaGreatDoor
open Go.RowKit
open Sy
set_option linter.unusedVariables false
set_option linter.unusedSimpArgs false
set_option maxRecDepth 100000
set_option maxHeartbeats 4000000

abbrev w1 (n : Int) : List UInt8 := wds 32 [Lib.itoa n]
theorem w1_len {n : Int} (h : I64 n) : (w1 n).length ≤ 22 := by
  have := itoa_len20 h
  simp [wds]; omega
theorem sRfNumber {R : HP} (n : Int) (h : I64 n) : PureR Tryz.prog R 20 [.int .i64 n] (.string (bs (w1 n))) := by
  have hl := itoa_len20 h
  have hpr := fun R' => sRefPrint (R := R') n h.1 h.2
  have e : w1 n = [32] ++ Lib.itoa n := by simp [wds]
  rw [e]
  generalize Lib.itoa n = s at *
  refine fn_of_run0 false Tryz.func20 rfl hmix rfl fun w0 => ?_
  conv => whnf
  refine ⟨trivial, CallAt.pure (fun R' hR' => hpr R') ?_⟩
  conv => whnf
  refine ⟨?_, fin_pure rfl ?_⟩
  · repeat' apply And.intro
    all_goals first | exact True.intro | (simp only [show (⟨#[32]⟩ : ByteArray) = bs [32] from rfl, show (⟨#[44]⟩ : ByteArray) = bs [44] from rfl, bs_append, bs_size, List.length_append, List.length_cons, List.length_nil]; omega)
  · simp only [show (⟨#[32]⟩ : ByteArray) = bs [32] from rfl, bs_append]; rfl
theorem sRfCell {R : HP} (x y : Int) (hx : I64 x) (hy : I64 y) : PureR Tryz.prog R 22 [.agg #[.int .i64 x, .int .i64 y]] (.string (bs (wds 32 [Lib.itoa x, Lib.itoa y]))) := by
  have lx := w1_len hx
  have ly := w1_len hy
  have px := fun R' => sRfNumber (R := R') x hx
  have py := fun R' => sRfNumber (R := R') y hy
  have e : wds 32 [Lib.itoa x, Lib.itoa y] = w1 x ++ w1 y := by simp [wds]
  rw [e]
  generalize w1 x = a at *
  generalize w1 y = b at *
  refine fn_of_run0 false Tryz.func22 rfl hmix rfl fun w0 => ?_
  conv => whnf
  refine ⟨trivial, RegAt.quiet hmix (by kernel_rfl) ?_⟩
  conv => whnf
  refine ⟨trivial, CallQ.pure (fun R' hR' => px R') ?_⟩
  conv => whnf
  refine ⟨trivial, CallQ.pure (fun R' hR' => py R') ?_⟩
  conv => whnf
  refine ⟨?_, ?_⟩
  · repeat' apply And.intro
    all_goals first | exact True.intro | (simp only [show (⟨#[32]⟩ : ByteArray) = bs [32] from rfl, show (⟨#[44]⟩ : ByteArray) = bs [44] from rfl, bs_append, bs_size, List.length_append, List.length_cons, List.length_nil]; omega)
  conv => whnf
  exact ⟨trivial, fin_drop (by simp only [bs_append]; rfl)⟩
theorem sRfRect {R : HP} (x y z u : Int) (hx : I64 x) (hy : I64 y) (hz : I64 z) (hu : I64 u) : PureR Tryz.prog R 23 [.agg #[.int .i64 x, .int .i64 y, .int .i64 z, .int .i64 u]] (.string (bs (wds 32 [Lib.itoa x, Lib.itoa y, Lib.itoa z, Lib.itoa u]))) := by
  have lx := w1_len hx
  have ly := w1_len hy
  have lz := w1_len hz
  have lu := w1_len hu
  have px := fun R' => sRfNumber (R := R') x hx
  have py := fun R' => sRfNumber (R := R') y hy
  have pz := fun R' => sRfNumber (R := R') z hz
  have pu := fun R' => sRfNumber (R := R') u hu
  have e : wds 32 [Lib.itoa x, Lib.itoa y, Lib.itoa z, Lib.itoa u] = w1 x ++ w1 y ++ w1 z ++ w1 u := by simp [wds]
  rw [e]
  generalize w1 x = a at *
  generalize w1 y = b at *
  generalize w1 z = c at *
  generalize w1 u = d at *
  refine fn_of_run0 false Tryz.func23 rfl hmix rfl fun w0 => ?_
  conv => whnf
  refine ⟨trivial, RegAt.quiet hmix (by kernel_rfl) ?_⟩
  conv => whnf
  refine ⟨trivial, CallQ.pure (fun R' hR' => px R') ?_⟩
  conv => whnf
  refine ⟨trivial, CallQ.pure (fun R' hR' => py R') ?_⟩
  conv => whnf
  refine ⟨?_, CallQ.pure (fun R' hR' => pz R') ?_⟩
  · repeat' apply And.intro
    all_goals first | exact True.intro | (simp only [show (⟨#[32]⟩ : ByteArray) = bs [32] from rfl, show (⟨#[44]⟩ : ByteArray) = bs [44] from rfl, bs_append, bs_size, List.length_append, List.length_cons, List.length_nil]; omega)
  conv => whnf
  refine ⟨?_, CallQ.pure (fun R' hR' => pu R') ?_⟩
  · repeat' apply And.intro
    all_goals first | exact True.intro | (simp only [show (⟨#[32]⟩ : ByteArray) = bs [32] from rfl, show (⟨#[44]⟩ : ByteArray) = bs [44] from rfl, bs_append, bs_size, List.length_append, List.length_cons, List.length_nil]; omega)
  conv => whnf
  refine ⟨?_, ?_⟩
  · repeat' apply And.intro
    all_goals first | exact True.intro | (simp only [show (⟨#[32]⟩ : ByteArray) = bs [32] from rfl, show (⟨#[44]⟩ : ByteArray) = bs [44] from rfl, bs_append, bs_size, List.length_append, List.length_cons, List.length_nil]; omega)
  conv => whnf
  exact ⟨trivial, fin_drop (by simp only [bs_append]; rfl)⟩
theorem jn_snoc {c : UInt8} {ws : List (List UInt8)} (h : ws ≠ []) (w : List UInt8) : jn c (ws ++ [w]) = jn c ws ++ [c] ++ w := by
  cases ws with
  | nil => exact absurd rfl h
  | cons p ps => simp [jn_cons, wds]
theorem jn_next {l : List Int} {i : Nat} (hi : i < l.length) : jn 44 ((l.take (i + 1)).map Lib.itoa) = (if 0 < i then jn 44 ((l.take i).map Lib.itoa) ++ [44] else jn 44 ((l.take i).map Lib.itoa)) ++ Lib.itoa l[i] := by
  rw [List.take_succ_eq_append_getElem hi, List.map_append]
  by_cases c : 0 < i
  · rw [if_pos c]
    exact jn_snoc (by intro e; have := congrArg List.length e; rw [List.length_map, List.length_take, List.length_nil] at this; omega) _
  · obtain rfl : i = 0 := by omega
    rw [if_neg c]
    simp [jn_nil, jn_one]
theorem sRfList {R : HP} {A : Option Addr} {n c : Nat} (l : List Int) (hl : l.length = n) (hn : n ≤ 1000000) (hi : ∀ x ∈ l, I64 x) (ha : Sl R A n 1 (l.flatMap numL)) : PureR Tryz.prog R 24 [.slice A n c] (.string (bs (wds 32 [listW l]))) := by
  refine PureR.of_sat fun wS hS => ?_
  obtain ⟨_, sa⟩ := ha.spot (by omega) hS
  have f0 : ∀ i (h : i < l.length), (l.flatMap numL)[i]? = some (.int .i64 l[i]) := fun i h => by
    have := flat_at (f := numL) (s := 1) (fun _ => rfl) (l := l) (i := i) (j := 0) h (by omega)
    rwa [Nat.mul_one, Nat.add_zero] at this
  have hlen : ∀ i, (jn 44 ((l.take i).map Lib.itoa)).length ≤ 22000000 := fun i => by
    have := jn_len (c := 44) (ws := (l.take i).map Lib.itoa) (m := 21) fun w hw => by
      obtain ⟨z, hz, rfl⟩ := List.mem_map.1 hw
      exact itoa_len20 (hi z (List.mem_of_mem_take hz))
    have h2 : ((l.take i).map Lib.itoa).length ≤ 1000000 := by simp; omega
    omega
  refine fn_of_run0 false Tryz.func24 rfl hmix rfl fun w0 => ?_
  conv => whnf
  refine ⟨fun h => ?_, fun h => ?_⟩
  · have h0 : n = 0 := by have := of_decide_eq_true h; omega
    subst h0
    obtain rfl : l = [] := List.length_eq_zero_iff.1 hl
    conv => whnf
    exact ⟨trivial, fin_pure rfl rfl⟩
  have hne : l ≠ [] := by
    rintro rfl
    have := of_decide_eq_false h
    simp at hl
    omega
  conv => whnf
  refine ⟨trivial, LoopAt.of (α := Nat) [0] (fun i => [(3, .v (.string (bs (jn 44 ((l.take i).map Lib.itoa))))), (4, .v (.int .i64 (i : Int)))]) (fun _ => []) (fun _ => []) (fun i => i ≤ n) (fun i => n - i) 0 (Nat.zero_le _)
    (Le.of (Nat.le_of_ble_eq_true rfl) (Nat.zero_le _) ⟨⟨rfl, rfl⟩, ⟨rfl, rfl⟩, ⟨rfl, rfl⟩, trivial⟩ trivial fun h s => sub_same s) ?_⟩
  intro i hi'
  conv => whnf
  refine ⟨fun h3 => ?_, fun h3 => ?_⟩
  · have g3 : i < n := by simpa using h3
    rcases sa with sa | ⟨ab, off, rfl, sa⟩
    · omega
    have hil : i < l.length := by omega
    have f1 := f0 i hil
    have hnx := jn_next hil
    have hli := hlen i
    have hz := hi _ (List.getElem_mem hil)
    have hzl := itoa_len20 hz
    have hpr := fun R' => sRefPrint (R := R') l[i] hz.1 hz.2
    generalize l[i] = z at *
    generalize jn 44 ((l.take i).map Lib.itoa) = q at *
    conv => whnf
    refine ⟨fun h4 => ?_, fun h4 => ?_⟩
    · have h4 : 0 < i := by simpa using h4
      rw [if_pos h4] at hnx
      conv => whnf
      rw [show bs q ++ (⟨#[44]⟩ : ByteArray) = bs (q ++ [44]) from bs_append q [44]]
      conv => whnf
      refine ⟨⟨⟨trivial, by rw [bs_size]; show _ + 1 ≤ _; omega⟩, by omega⟩, LoadAt.cell (.int .i64 z) rfl rfl (fun w hw => ?_) ?_⟩
      · simp only [Int.toNat_natCast, Nat.mul_one]
        exact sa w hw _ _ f1
      conv => whnf
      refine ⟨trivial, CallAt.pure (fun R' hR' => hpr R') ?_⟩
      conv => whnf
      rw [bs_append, ← hnx]
      refine ⟨?_, .mk (i + 1) (by omega) (by omega) (Le.of (Nat.le_of_ble_eq_true rfl) (Nat.zero_le _) ⟨⟨rfl, rfl⟩, ⟨rfl, rfl⟩, ⟨rfl, rfl⟩, trivial⟩ trivial fun h s => sub_nil s)⟩
      refine ⟨⟨trivial, ?_⟩, by unfold rng; omega⟩
      simp only [bs_size, List.length_append, List.length_cons, List.length_nil]
      omega
    · have h4 : ¬ 0 < i := by simpa using h4
      rw [if_neg h4] at hnx
      conv => whnf
      refine ⟨⟨trivial, by omega⟩, LoadAt.cell (.int .i64 z) rfl rfl (fun w hw => ?_) ?_⟩
      · simp only [Int.toNat_natCast, Nat.mul_one]
        exact sa w hw _ _ f1
      conv => whnf
      refine ⟨trivial, CallAt.pure (fun R' hR' => hpr R') ?_⟩
      conv => whnf
      rw [bs_append, ← hnx]
      refine ⟨?_, .mk (i + 1) (by omega) (by omega) (Le.of (Nat.le_of_ble_eq_true rfl) (Nat.zero_le _) ⟨⟨rfl, rfl⟩, ⟨rfl, rfl⟩, ⟨rfl, rfl⟩, trivial⟩ trivial fun h s => sub_nil s)⟩
      refine ⟨⟨trivial, ?_⟩, by unfold rng; omega⟩
      simp only [bs_size, List.length_append, List.length_cons, List.length_nil]
      omega
  · have g3 : i = n := by simp at h3; omega
    subst g3
    have e : l.take i = l := List.take_of_length_le (by omega)
    have e2 : wds 32 [listW l] = [32] ++ jn 44 ((l.take i).map Lib.itoa) := by rw [e]; unfold listW; rw [if_neg hne]; simp [wds]
    have hli := hlen i
    rw [e2]
    generalize jn 44 ((l.take i).map Lib.itoa) = q at *
    conv => whnf
    refine ⟨?_, fin_pure rfl ?_⟩
    · repeat' apply And.intro
      all_goals first | exact True.intro | (simp only [show (⟨#[32]⟩ : ByteArray) = bs [32] from rfl, show (⟨#[44]⟩ : ByteArray) = bs [44] from rfl, bs_append, bs_size, List.length_append, List.length_cons, List.length_nil]; omega)
    · simp only [show (⟨#[32]⟩ : ByteArray) = bs [32] from rfl, bs_append]; rfl
end Go.Proofs.YteplckkoiffnnaaGreatDoor

/-
  The document's Answer: what the reply's cells come to; the head.
-/
namespace Go.Proofs.YteplckkoiffnnaaGreatDoor
open Go.RowKit
open Sy
set_option linter.unusedVariables false
set_option linter.unusedSimpArgs false
set_option maxRecDepth 100000
set_option maxHeartbeats 4000000

/-- all cells, each behind a blank -/
def allC (l : List (Int × Int)) : List UInt8 := wds 32 (l.map celW)
theorem allC_next {l : List (Int × Int)} {i : Nat} (hi : i < l.length) : allC (l.take (i + 1)) = allC (l.take i) ++ w1 l[i].1 ++ [44] ++ Lib.itoa l[i].2 := by
  unfold allC
  rw [List.take_succ_eq_append_getElem hi, List.map_append, wds_append]
  simp [wds, celW]
theorem allC_len {l : List (Int × Int)} (h : ∀ x ∈ l, I64 x.1 ∧ I64 x.2) (i : Nat) (hl : l.length ≤ 500) : (allC (l.take i)).length ≤ 30000 := by
  unfold allC
  have := wds_len (c := 32) (ws := (l.take i).map celW) (m := 43) fun w hw => by
    obtain ⟨c, hc, rfl⟩ := List.mem_map.1 hw
    have h1 := itoa_len20 (h c (List.mem_of_mem_take hc)).1
    have h2 := itoa_len20 (h c (List.mem_of_mem_take hc)).2
    simp [celW]; omega
  have h3 : ((l.take i).map celW).length ≤ 500 := by simp; omega
  omega
theorem jn_ok (ws : List (List UInt8)) : jn 32 (okT :: ws) = okT ++ wds 32 ws := jn_cons 32 okT ws
theorem rAnswer10 {R : HP} {q : RepA} {x : Rep} (kind : Int) (ok : x.ok) (hc : x.code ≠ 0) :
    FnR Tryz.prog R 8 [.int .i64 kind, repV q x] [] fun r hs => ∃ A c, r = .slice A (ans kind x).length c ∧ hs = [rowH (.slice A (ans kind x).length c) (ans kind x).length 9 1 (strV (ans kind x))] := by
  have hans : ans kind x = [[101, 114, 114, 111, 114] ++ w1 x.code] := by unfold ans; rw [if_pos hc]; simp [wds, errT]
  have hl := w1_len ok.code
  have hb := ok.code
  rw [hans]
  unfold repV
  generalize x.code = z at *
  have hpr := fun R' => sRfNumber (R := R') z hb
  generalize w1 z = t at *
  refine fn_of_run0 false Tryz.func8 rfl hmix rfl fun w0 => ?_
  conv => whnf
  refine iff_t (by simp [hc]) ?_
  conv => whnf
  refine ⟨trivial, CallAt.pure (fun R' hR' => hpr R') ?_⟩
  conv => whnf
  rw [show (⟨#[101, 114, 114, 111, 114]⟩ : ByteArray) = bs [101, 114, 114, 111, 114] from rfl, bs_append]
  refine ⟨⟨trivial, by rw [bs_size, bs_size]; show 5 + t.length ≤ _; omega⟩, OpAt.lit [.string (bs ([101, 114, 114, 111, 114] ++ t))] 1 rfl rfl rfl rfl rfl (by decide) rfl rfl rfl (by simp [Value.cells]) rfl (by decide) fun g => ?_⟩
  conv => whnf
  exact ⟨trivial, .mk _ (fun w s => s) ⟨_, _, rfl, rfl⟩⟩
theorem rAnswer8 {R : HP} {q : RepA} {x : Rep} (kind : Int) (ok : x.ok) (few : x.few) (hc : x.code = 0) (hs : RepS R q x) (hk : kind ≠ 6 ∧ kind ≠ 7 ∧ kind ≠ 8 ∧ kind ≠ 9 ∧ kind ≠ 10 ∧ kind ≠ 11 ∧ kind ≠ 12 ∧ kind ≠ 13 ∧ kind ≠ 14 ∧ kind ≠ 15 ∧ kind ≠ 16 ∧ kind ≠ 17 ∧ kind ≠ 20 ∧ kind ≠ 21 ∧ kind ≠ 22 ∧ kind ≠ 23 ∧ kind ≠ 27) :
    FnR Tryz.prog R 8 [.int .i64 kind, repV q x] [] fun r hs => ∃ A c, r = .slice A (ans kind x).length c ∧ hs = [rowH (.slice A (ans kind x).length c) (ans kind x).length 9 1 (strV (ans kind x))] := by
  have hjl := ansJ_len ok few kind
  have hW : ansW kind x = [] := by unfold ansW; rw [if_neg (by omega), if_neg (by omega), if_neg (by omega), if_neg (by omega), if_neg (by omega), if_neg (by omega), if_neg (by omega), if_neg (by omega)]
  have hans : ans kind x = [jn 32 [okT]] := by
    unfold ans
    rw [if_neg (by simp [hc]), hW]
    unfold ansM
    rw [if_neg (by omega), if_neg (by omega)]
  rw [hans]
  clear hans hW
  refine FnR.of_sat fun wS hS => ?_
  obtain ⟨_, sa⟩ := hs.cells.spot (by omega) (sat_base hS)
  have f0 : ∀ i (h : i < x.cells.length), (x.cells.flatMap celL)[i * 2]? = some (.int .i64 x.cells[i].1) ∧ (x.cells.flatMap celL)[i * 2 + 1]? = some (.int .i64 x.cells[i].2) := fun i h =>
    ⟨flat_at (f := celL) (s := 2) (fun _ => rfl) (l := x.cells) (i := i) (j := 0) h (by omega), flat_at (f := celL) (s := 2) (fun _ => rfl) (l := x.cells) (i := i) (j := 1) h (by omega)⟩
  have hcn := few.cells
  have hlen := fun i => allC_len ok.cells i hcn
  obtain ⟨m, hm⟩ : ∃ m, x.cells.length = m := ⟨_, rfl⟩
  unfold repV
  rw [hc]
  rw [hm] at sa hcn ⊢
  refine fn_of_run0 false Tryz.func8 rfl hmix rfl fun w0 => ?_
  conv => whnf
  repeat (first | (refine ⟨fun _ => ?_, fun h => absurd h (by decide)⟩; conv => whnf) | (refine ⟨fun h => absurd h (by decide), fun _ => ?_⟩; conv => whnf))
  refine ⟨trivial, OpAt.lit [.string (bs okT)] 1 rfl rfl rfl rfl rfl (by decide) rfl rfl rfl (by simp [Value.cells]) rfl (by decide) fun g => ?_⟩
  conv => whnf
  refine ⟨trivial, LoopAt.keep (α := Nat) [0, 3, 5] (fun i => [(6, .v (.string (bs (allC (x.cells.take i))))), (7, .v (.int .i64 (i : Int)))]) (fun i => i ≤ m) (fun i => m - i) 0 (Nat.zero_le _) rfl ⟨⟨rfl, rfl⟩, ⟨rfl, rfl⟩, trivial⟩ ⟨⟨rfl, rfl⟩, ⟨rfl, rfl⟩, ⟨rfl, rfl⟩, trivial⟩ ⟨⟨rfl, rfl, rfl, rfl⟩, trivial⟩ ?_⟩
  intro i hi
  conv => whnf
  refine ⟨fun h => ?_, fun h => ?_⟩
  · have hi2 : i < m := by simpa using h
    clear hjl
    rcases sa with sa | ⟨ab, off, hqa, sa⟩
    · omega
    rw [hqa]
    have hil : i < x.cells.length := by omega
    obtain ⟨f1, f2⟩ := f0 i hil
    have hnx := allC_next hil
    have hli := hlen i
    have hb := ok.cells _ (List.getElem_mem hil)
    have l1 := w1_len hb.1
    have l2 := itoa_len20 hb.2
    have p1 := fun R' => sRfNumber (R := R') x.cells[i].1 hb.1
    have p2 := fun R' => sRefPrint (R := R') x.cells[i].2 hb.2.1 hb.2.2
    generalize x.cells[i] = z at *
    obtain ⟨zx, zy⟩ := z
    simp only at f1 f2 p1 p2 hnx l1 l2
    generalize allC (x.cells.take i) = t at *
    generalize w1 zx = sx at *
    generalize Lib.itoa zy = sy at *
    conv => whnf
    refine ⟨trivial, RegAt.groups [([.T 0, .T 1, .T 2, .T 3, .T 4, .T 5, .T 6, .T 10, .T 11, .T 12, .T 13, .T 14, .T 15, .H 7, .T 8, .T 9, .H 16], 17), ([.T 17], 18), ([.T 18], 19)] hmix (by kernel_rfl) ?_⟩
    conv => whnf
    refine ⟨⟨trivial, by omega⟩, LoadAt.cell (.int .i64 zx) rfl rfl (fun w hw => ?_) ?_⟩
    · simp only [Int.toNat_natCast]
      exact sa w (Sat.rest hw) _ _ f1
    conv => whnf
    refine ⟨⟨trivial, by omega⟩, LoadAt.cell (.int .i64 zy) rfl rfl (fun w hw => ?_) ?_⟩
    · simp only [Int.toNat_natCast]
      have := sa w (Sat.rest hw) _ _ f2
      rw [← Nat.add_assoc] at this
      exact this
    conv => whnf
    refine ⟨trivial, CallAt.pure (fun R' hR' => p1 R') ?_⟩
    conv => whnf
    refine ⟨trivial, ⟨⟨rfl, rfl⟩, fun h s => sub_same s⟩, ?_⟩
    conv => whnf
    rw [show (⟨#[44]⟩ : ByteArray) = bs [44] from rfl, bs_append, bs_append]
    refine ⟨?_, CallAt.pure (fun R' hR' => p2 R') ?_⟩
    · repeat' apply And.intro
      all_goals first | exact True.intro | (simp only [show (⟨#[32]⟩ : ByteArray) = bs [32] from rfl, show (⟨#[44]⟩ : ByteArray) = bs [44] from rfl, bs_append, bs_size, List.length_append, List.length_cons, List.length_nil]; omega)
    conv => whnf
    refine ⟨trivial, ⟨⟨rfl, rfl⟩, fun h s => sub_same s⟩, ?_⟩
    conv => whnf
    rw [bs_append, ← hnx]
    refine ⟨?_, ?_⟩
    · refine ⟨trivial, ?_⟩
      simp only [bs_size, List.length_append, List.length_cons, List.length_nil]
      omega
    conv => whnf
    exact ⟨⟨trivial, by unfold rng; omega⟩, .mk (i + 1) (by omega) (by omega) (Le.of (Nat.le_of_ble_eq_true rfl) (Nat.zero_le _) ⟨⟨rfl, rfl⟩, ⟨rfl, rfl⟩, ⟨rfl, rfl⟩, ⟨rfl, rfl⟩, ⟨rfl, rfl⟩, trivial⟩ ⟨⟨rfl, rfl, rfl, rfl⟩, trivial⟩ fun h s => sub_same s)⟩
  have hi3 : i = m := by simp at h; omega
  have e : x.cells.take i = x.cells := List.take_of_length_le (by omega)
  rw [e]
  conv => whnf
  repeat (refine ⟨fun h => absurd (of_decide_eq_true h) (by omega), fun _ => ?_⟩; conv => whnf)
  exact ⟨trivial, .mk _ (fun w s => s) ⟨_, _, rfl, rfl⟩⟩
end Go.Proofs.YteplckkoiffnnaaGreatDoor

/-
  The document's Answer: numbers, places.
-/
namespace Go.Proofs.YteplckkoiffnnaaGreatDoor
open Go.RowKit
open Sy
set_option linter.unusedVariables false
set_option linter.unusedSimpArgs false
set_option maxRecDepth 100000
set_option maxHeartbeats 4000000

theorem rAnswer1 {R : HP} {q : RepA} {x : Rep} (kind : Int) (ok : x.ok) (few : x.few) (hc : x.code = 0) (hs : RepS R q x) (hk : kind = 6 ∨ kind = 7 ∨ kind = 10 ∨ kind = 11 ∨ kind = 20 ∨ kind = 21 ∨ kind = 22) :
    FnR Tryz.prog R 8 [.int .i64 kind, repV q x] [] fun r hs => ∃ A c, r = .slice A (ans kind x).length c ∧ hs = [rowH (.slice A (ans kind x).length c) (ans kind x).length 9 1 (strV (ans kind x))] := by
  have hjl := ansJ_len ok few kind
  have hW : ansW kind x = [Lib.itoa x.n] := by unfold ansW; rw [if_pos (by omega)]
  have hans : ans kind x = (okT ++ wds 32 ([Lib.itoa x.n])) :: [] := by
    unfold ans
    rw [if_neg (by simp [hc]), hW, jn_ok]
    unfold ansM
    rw [if_neg (by omega), if_neg (by omega)]
  rw [hW, jn_ok] at hjl
  rw [hans]
  clear hans hW
  have hl := w1_len ok.n
  have hpr := fun R' => sRfNumber (R := R') x.n ok.n
  refine FnR.of_sat fun wS hS => ?_
  obtain ⟨_, sa⟩ := hs.cells.spot (by omega) (sat_base hS)
  have f0 : ∀ i (h : i < x.cells.length), (x.cells.flatMap celL)[i * 2]? = some (.int .i64 x.cells[i].1) ∧ (x.cells.flatMap celL)[i * 2 + 1]? = some (.int .i64 x.cells[i].2) := fun i h =>
    ⟨flat_at (f := celL) (s := 2) (fun _ => rfl) (l := x.cells) (i := i) (j := 0) h (by omega), flat_at (f := celL) (s := 2) (fun _ => rfl) (l := x.cells) (i := i) (j := 1) h (by omega)⟩
  have hcn := few.cells
  have hlen := fun i => allC_len ok.cells i hcn
  obtain ⟨m, hm⟩ : ∃ m, x.cells.length = m := ⟨_, rfl⟩
  unfold repV
  rw [hc]
  rw [hm] at sa hcn ⊢
  refine fn_of_run0 false Tryz.func8 rfl hmix rfl fun w0 => ?_
  conv => whnf
  repeat (first | (refine ⟨fun _ => ?_, fun h => absurd h (by decide)⟩; conv => whnf) | (refine ⟨fun h => absurd h (by decide), fun _ => ?_⟩; conv => whnf))
  refine ⟨trivial, OpAt.lit [.string (bs okT)] 1 rfl rfl rfl rfl rfl (by decide) rfl rfl rfl (by simp [Value.cells]) rfl (by decide) fun g => ?_⟩
  conv => whnf
  refine ⟨trivial, LoopAt.keep (α := Nat) [0, 3, 5] (fun i => [(6, .v (.string (bs (allC (x.cells.take i))))), (7, .v (.int .i64 (i : Int)))]) (fun i => i ≤ m) (fun i => m - i) 0 (Nat.zero_le _) rfl ⟨⟨rfl, rfl⟩, ⟨rfl, rfl⟩, trivial⟩ ⟨⟨rfl, rfl⟩, ⟨rfl, rfl⟩, ⟨rfl, rfl⟩, trivial⟩ ⟨⟨rfl, rfl, rfl, rfl⟩, trivial⟩ ?_⟩
  intro i hi
  conv => whnf
  refine ⟨fun h => ?_, fun h => ?_⟩
  · have hi2 : i < m := by simpa using h
    clear hjl
    rcases sa with sa | ⟨ab, off, hqa, sa⟩
    · omega
    rw [hqa]
    have hil : i < x.cells.length := by omega
    obtain ⟨f1, f2⟩ := f0 i hil
    have hnx := allC_next hil
    have hli := hlen i
    have hb := ok.cells _ (List.getElem_mem hil)
    have l1 := w1_len hb.1
    have l2 := itoa_len20 hb.2
    have p1 := fun R' => sRfNumber (R := R') x.cells[i].1 hb.1
    have p2 := fun R' => sRefPrint (R := R') x.cells[i].2 hb.2.1 hb.2.2
    generalize x.cells[i] = z at *
    obtain ⟨zx, zy⟩ := z
    simp only at f1 f2 p1 p2 hnx l1 l2
    generalize allC (x.cells.take i) = t at *
    generalize w1 zx = sx at *
    generalize Lib.itoa zy = sy at *
    conv => whnf
    refine ⟨trivial, RegAt.groups [([.T 0, .T 1, .T 2, .T 3, .T 4, .T 5, .T 6, .T 10, .T 11, .T 12, .T 13, .T 14, .T 15, .H 7, .T 8, .T 9, .H 16], 17), ([.T 17], 18), ([.T 18], 19)] hmix (by kernel_rfl) ?_⟩
    conv => whnf
    refine ⟨⟨trivial, by omega⟩, LoadAt.cell (.int .i64 zx) rfl rfl (fun w hw => ?_) ?_⟩
    · simp only [Int.toNat_natCast]
      exact sa w (Sat.rest hw) _ _ f1
    conv => whnf
    refine ⟨⟨trivial, by omega⟩, LoadAt.cell (.int .i64 zy) rfl rfl (fun w hw => ?_) ?_⟩
    · simp only [Int.toNat_natCast]
      have := sa w (Sat.rest hw) _ _ f2
      rw [← Nat.add_assoc] at this
      exact this
    conv => whnf
    refine ⟨trivial, CallAt.pure (fun R' hR' => p1 R') ?_⟩
    conv => whnf
    refine ⟨trivial, ⟨⟨rfl, rfl⟩, fun h s => sub_same s⟩, ?_⟩
    conv => whnf
    rw [show (⟨#[44]⟩ : ByteArray) = bs [44] from rfl, bs_append, bs_append]
    refine ⟨?_, CallAt.pure (fun R' hR' => p2 R') ?_⟩
    · repeat' apply And.intro
      all_goals first | exact True.intro | (simp only [show (⟨#[32]⟩ : ByteArray) = bs [32] from rfl, show (⟨#[44]⟩ : ByteArray) = bs [44] from rfl, bs_append, bs_size, List.length_append, List.length_cons, List.length_nil]; omega)
    conv => whnf
    refine ⟨trivial, ⟨⟨rfl, rfl⟩, fun h s => sub_same s⟩, ?_⟩
    conv => whnf
    rw [bs_append, ← hnx]
    refine ⟨?_, ?_⟩
    · refine ⟨trivial, ?_⟩
      simp only [bs_size, List.length_append, List.length_cons, List.length_nil]
      omega
    conv => whnf
    exact ⟨⟨trivial, by unfold rng; omega⟩, .mk (i + 1) (by omega) (by omega) (Le.of (Nat.le_of_ble_eq_true rfl) (Nat.zero_le _) ⟨⟨rfl, rfl⟩, ⟨rfl, rfl⟩, ⟨rfl, rfl⟩, ⟨rfl, rfl⟩, ⟨rfl, rfl⟩, trivial⟩ ⟨⟨rfl, rfl, rfl, rfl⟩, trivial⟩ fun h s => sub_same s)⟩
  have hi3 : i = m := by simp at h; omega
  have e : x.cells.take i = x.cells := List.take_of_length_le (by omega)
  rw [e]
  clear h sa f0 hlen
  rcases hk with rfl | rfl | rfl | rfl | rfl | rfl | rfl
  all_goals
    conv => whnf
    repeat (first | (refine ⟨fun _ => ?_, fun h => absurd h (by decide)⟩; conv => whnf) | (refine ⟨fun h => absurd h (by decide), fun _ => ?_⟩; conv => whnf))
    refine ⟨trivial, CallAt.pure (fun R' hR' => hpr R') ?_⟩
    conv => whnf
    rw [show (⟨#[111, 107]⟩ : ByteArray) = bs okT from rfl, bs_append]
    refine ⟨?_, OpAt.store (A' := rowH (.slice (some ⟨g, 0, none⟩) 1 1) 1 9 1 [.string (bs (okT ++ w1 x.n))]) g 0 (.string (bs (okT ++ w1 x.n))) [] rfl (fun h s => s) rfl rfl rfl rfl rfl (by simp [Value.cells, Value.oneCell']) (fun h r => row_put (off := 0) (ys := [.string (bs (okT ++ w1 x.n))]) (by simp) r) ?_⟩
    · repeat' apply And.intro
      all_goals first | exact True.intro | decide | omega | (simp only [show (⟨#[111, 107]⟩ : ByteArray) = bs okT from rfl, bs_append, bs_size, List.length_append, List.length_cons, List.length_nil, okT]; omega)
    conv => whnf
    exact ⟨trivial, .mk _ (fun w s => s) ⟨_, _, rfl, rfl⟩⟩
theorem rAnswer2 {R : HP} {q : RepA} {x : Rep} (kind : Int) (ok : x.ok) (few : x.few) (hc : x.code = 0) (hs : RepS R q x) (hk : kind = 8 ∨ kind = 9) :
    FnR Tryz.prog R 8 [.int .i64 kind, repV q x] [] fun r hs => ∃ A c, r = .slice A (ans kind x).length c ∧ hs = [rowH (.slice A (ans kind x).length c) (ans kind x).length 9 1 (strV (ans kind x))] := by
  have hjl := ansJ_len ok few kind
  have hW : ansW kind x = [Lib.itoa x.n, Lib.itoa x.ax, Lib.itoa x.ay] := by unfold ansW; rw [if_neg (by omega), if_pos (by omega)]
  have hans : ans kind x = (okT ++ wds 32 ([Lib.itoa x.n, Lib.itoa x.ax, Lib.itoa x.ay])) :: [] := by
    unfold ans
    rw [if_neg (by simp [hc]), hW, jn_ok]
    unfold ansM
    rw [if_neg (by omega), if_neg (by omega)]
  rw [hW, jn_ok] at hjl
  rw [hans]
  clear hans hW
  have hl := w1_len ok.n
  have hl2 : (wds 32 [Lib.itoa x.ax, Lib.itoa x.ay]).length ≤ 44 := by
    have h1 := itoa_len20 ok.ax
    have h2 := itoa_len20 ok.ay
    simp [wds]; omega
  have hpr := fun R' => sRfNumber (R := R') x.n ok.n
  have hpc := fun R' => sRfCell (R := R') x.ax x.ay ok.ax ok.ay
  have hww : wds 32 [Lib.itoa x.n, Lib.itoa x.ax, Lib.itoa x.ay] = w1 x.n ++ wds 32 [Lib.itoa x.ax, Lib.itoa x.ay] := by simp [wds]
  rw [hww, ← List.append_assoc]
  clear hww
  generalize w1 x.n = sn at *
  generalize wds 32 [Lib.itoa x.ax, Lib.itoa x.ay] = sc at *
  refine FnR.of_sat fun wS hS => ?_
  obtain ⟨_, sa⟩ := hs.cells.spot (by omega) (sat_base hS)
  have f0 : ∀ i (h : i < x.cells.length), (x.cells.flatMap celL)[i * 2]? = some (.int .i64 x.cells[i].1) ∧ (x.cells.flatMap celL)[i * 2 + 1]? = some (.int .i64 x.cells[i].2) := fun i h =>
    ⟨flat_at (f := celL) (s := 2) (fun _ => rfl) (l := x.cells) (i := i) (j := 0) h (by omega), flat_at (f := celL) (s := 2) (fun _ => rfl) (l := x.cells) (i := i) (j := 1) h (by omega)⟩
  have hcn := few.cells
  have hlen := fun i => allC_len ok.cells i hcn
  obtain ⟨m, hm⟩ : ∃ m, x.cells.length = m := ⟨_, rfl⟩
  unfold repV
  rw [hc]
  rw [hm] at sa hcn ⊢
  refine fn_of_run0 false Tryz.func8 rfl hmix rfl fun w0 => ?_
  conv => whnf
  repeat (first | (refine ⟨fun _ => ?_, fun h => absurd h (by decide)⟩; conv => whnf) | (refine ⟨fun h => absurd h (by decide), fun _ => ?_⟩; conv => whnf))
  refine ⟨trivial, OpAt.lit [.string (bs okT)] 1 rfl rfl rfl rfl rfl (by decide) rfl rfl rfl (by simp [Value.cells]) rfl (by decide) fun g => ?_⟩
  conv => whnf
  refine ⟨trivial, LoopAt.keep (α := Nat) [0, 3, 5] (fun i => [(6, .v (.string (bs (allC (x.cells.take i))))), (7, .v (.int .i64 (i : Int)))]) (fun i => i ≤ m) (fun i => m - i) 0 (Nat.zero_le _) rfl ⟨⟨rfl, rfl⟩, ⟨rfl, rfl⟩, trivial⟩ ⟨⟨rfl, rfl⟩, ⟨rfl, rfl⟩, ⟨rfl, rfl⟩, trivial⟩ ⟨⟨rfl, rfl, rfl, rfl⟩, trivial⟩ ?_⟩
  intro i hi
  conv => whnf
  refine ⟨fun h => ?_, fun h => ?_⟩
  · have hi2 : i < m := by simpa using h
    clear hjl
    rcases sa with sa | ⟨ab, off, hqa, sa⟩
    · omega
    rw [hqa]
    have hil : i < x.cells.length := by omega
    obtain ⟨f1, f2⟩ := f0 i hil
    have hnx := allC_next hil
    have hli := hlen i
    have hb := ok.cells _ (List.getElem_mem hil)
    have l1 := w1_len hb.1
    have l2 := itoa_len20 hb.2
    have p1 := fun R' => sRfNumber (R := R') x.cells[i].1 hb.1
    have p2 := fun R' => sRefPrint (R := R') x.cells[i].2 hb.2.1 hb.2.2
    generalize x.cells[i] = z at *
    obtain ⟨zx, zy⟩ := z
    simp only at f1 f2 p1 p2 hnx l1 l2
    generalize allC (x.cells.take i) = t at *
    generalize w1 zx = sx at *
    generalize Lib.itoa zy = sy at *
    conv => whnf
    refine ⟨trivial, RegAt.groups [([.T 0, .T 1, .T 2, .T 3, .T 4, .T 5, .T 6, .T 10, .T 11, .T 12, .T 13, .T 14, .T 15, .H 7, .T 8, .T 9, .H 16], 17), ([.T 17], 18), ([.T 18], 19)] hmix (by kernel_rfl) ?_⟩
    conv => whnf
    refine ⟨⟨trivial, by omega⟩, LoadAt.cell (.int .i64 zx) rfl rfl (fun w hw => ?_) ?_⟩
    · simp only [Int.toNat_natCast]
      exact sa w (Sat.rest hw) _ _ f1
    conv => whnf
    refine ⟨⟨trivial, by omega⟩, LoadAt.cell (.int .i64 zy) rfl rfl (fun w hw => ?_) ?_⟩
    · simp only [Int.toNat_natCast]
      have := sa w (Sat.rest hw) _ _ f2
      rw [← Nat.add_assoc] at this
      exact this
    conv => whnf
    refine ⟨trivial, CallAt.pure (fun R' hR' => p1 R') ?_⟩
    conv => whnf
    refine ⟨trivial, ⟨⟨rfl, rfl⟩, fun h s => sub_same s⟩, ?_⟩
    conv => whnf
    rw [show (⟨#[44]⟩ : ByteArray) = bs [44] from rfl, bs_append, bs_append]
    refine ⟨?_, CallAt.pure (fun R' hR' => p2 R') ?_⟩
    · repeat' apply And.intro
      all_goals first | exact True.intro | (simp only [show (⟨#[32]⟩ : ByteArray) = bs [32] from rfl, show (⟨#[44]⟩ : ByteArray) = bs [44] from rfl, bs_append, bs_size, List.length_append, List.length_cons, List.length_nil]; omega)
    conv => whnf
    refine ⟨trivial, ⟨⟨rfl, rfl⟩, fun h s => sub_same s⟩, ?_⟩
    conv => whnf
    rw [bs_append, ← hnx]
    refine ⟨?_, ?_⟩
    · refine ⟨trivial, ?_⟩
      simp only [bs_size, List.length_append, List.length_cons, List.length_nil]
      omega
    conv => whnf
    exact ⟨⟨trivial, by unfold rng; omega⟩, .mk (i + 1) (by omega) (by omega) (Le.of (Nat.le_of_ble_eq_true rfl) (Nat.zero_le _) ⟨⟨rfl, rfl⟩, ⟨rfl, rfl⟩, ⟨rfl, rfl⟩, ⟨rfl, rfl⟩, ⟨rfl, rfl⟩, trivial⟩ ⟨⟨rfl, rfl, rfl, rfl⟩, trivial⟩ fun h s => sub_same s)⟩
  have hi3 : i = m := by simp at h; omega
  have e : x.cells.take i = x.cells := List.take_of_length_le (by omega)
  rw [e]
  clear h sa f0 hlen
  rcases hk with rfl | rfl
  all_goals
    conv => whnf
    repeat (first | (refine ⟨fun _ => ?_, fun h => absurd h (by decide)⟩; conv => whnf) | (refine ⟨fun h => absurd h (by decide), fun _ => ?_⟩; conv => whnf))
    refine ⟨trivial, RegAt.tail 10 hmix (by kernel_rfl) ?_⟩
    conv => whnf
    refine ⟨trivial, CallQ.pure (fun R' hR' => hpr R') ?_⟩
    conv => whnf
    refine ⟨?_, CallQ.pure (fun R' hR' => hpc R') ?_⟩
    · repeat' apply And.intro
      all_goals first | exact True.intro | decide | omega | (simp only [show (⟨#[111, 107]⟩ : ByteArray) = bs okT from rfl, bs_append, bs_size, List.length_append, List.length_cons, List.length_nil, okT]; omega)
    conv => whnf
    rw [show (⟨#[111, 107]⟩ : ByteArray) = bs okT from rfl, bs_append, bs_append]
    refine ⟨?_, OpAt.store (A' := rowH (.slice (some ⟨g, 0, none⟩) 1 1) 1 9 1 [.string (bs (okT ++ sn ++ sc))]) g 0 (.string (bs (okT ++ sn ++ sc))) [] rfl (fun h s => s) rfl rfl rfl rfl rfl (by simp [Value.cells, Value.oneCell']) (fun h r => row_put (off := 0) (ys := [.string (bs (okT ++ sn ++ sc))]) (by simp) r) ?_⟩
    · repeat' apply And.intro
      all_goals first | exact True.intro | decide | omega | (simp only [show (⟨#[111, 107]⟩ : ByteArray) = bs okT from rfl, bs_append, bs_size, List.length_append, List.length_cons, List.length_nil, okT]; omega)
    conv => whnf
    refine ⟨trivial, ?_⟩
    conv => whnf
    exact ⟨trivial, .mk _ (fun w s => s) ⟨_, _, rfl, rfl⟩⟩
theorem rAnswer3 {R : HP} {q : RepA} {x : Rep} (kind : Int) (ok : x.ok) (few : x.few) (hc : x.code = 0) (hs : RepS R q x) (hk : kind = 12) :
    FnR Tryz.prog R 8 [.int .i64 kind, repV q x] [] fun r hs => ∃ A c, r = .slice A (ans kind x).length c ∧ hs = [rowH (.slice A (ans kind x).length c) (ans kind x).length 9 1 (strV (ans kind x))] := by
  have hjl := ansJ_len ok few kind
  have hW : ansW kind x = if x.yes then [yesT] else [noT, Lib.itoa x.ax, Lib.itoa x.ay] := by unfold ansW; rw [if_neg (by omega), if_neg (by omega), if_pos hk]
  have hans : ans kind x = [if x.yes then okT ++ wds 32 [yesT] else okT ++ wds 32 [noT, Lib.itoa x.ax, Lib.itoa x.ay]] := by
    unfold ans
    have hM : ansM kind x = [] := by unfold ansM; rw [if_neg (by omega), if_neg (by omega)]
    rw [if_neg (by simp [hc]), hW, jn_ok, hM]
    cases x.yes <;> rfl
  rw [hans]
  clear hans hW hjl
  have hl2 : (wds 32 [Lib.itoa x.ax, Lib.itoa x.ay]).length ≤ 44 := by
    have h1 := itoa_len20 ok.ax
    have h2 := itoa_len20 ok.ay
    simp [wds]; omega
  have hjl := hl2
  have hpc := fun R' => sRfCell (R := R') x.ax x.ay ok.ax ok.ay
  have hww : okT ++ wds 32 [noT, Lib.itoa x.ax, Lib.itoa x.ay] = [111, 107, 32, 110, 111] ++ wds 32 [Lib.itoa x.ax, Lib.itoa x.ay] := by simp [wds, okT, noT]
  rw [hww]
  clear hww
  generalize wds 32 [Lib.itoa x.ax, Lib.itoa x.ay] = sc at *
  subst hk
  refine FnR.of_sat fun wS hS => ?_
  obtain ⟨_, sa⟩ := hs.cells.spot (by omega) (sat_base hS)
  have f0 : ∀ i (h : i < x.cells.length), (x.cells.flatMap celL)[i * 2]? = some (.int .i64 x.cells[i].1) ∧ (x.cells.flatMap celL)[i * 2 + 1]? = some (.int .i64 x.cells[i].2) := fun i h =>
    ⟨flat_at (f := celL) (s := 2) (fun _ => rfl) (l := x.cells) (i := i) (j := 0) h (by omega), flat_at (f := celL) (s := 2) (fun _ => rfl) (l := x.cells) (i := i) (j := 1) h (by omega)⟩
  have hcn := few.cells
  have hlen := fun i => allC_len ok.cells i hcn
  obtain ⟨m, hm⟩ : ∃ m, x.cells.length = m := ⟨_, rfl⟩
  unfold repV
  rw [hc]
  rw [hm] at sa hcn ⊢
  refine fn_of_run0 false Tryz.func8 rfl hmix rfl fun w0 => ?_
  conv => whnf
  repeat (first | (refine ⟨fun _ => ?_, fun h => absurd h (by decide)⟩; conv => whnf) | (refine ⟨fun h => absurd h (by decide), fun _ => ?_⟩; conv => whnf))
  refine ⟨trivial, OpAt.lit [.string (bs okT)] 1 rfl rfl rfl rfl rfl (by decide) rfl rfl rfl (by simp [Value.cells]) rfl (by decide) fun g => ?_⟩
  conv => whnf
  refine ⟨trivial, LoopAt.keep (α := Nat) [0, 3, 5] (fun i => [(6, .v (.string (bs (allC (x.cells.take i))))), (7, .v (.int .i64 (i : Int)))]) (fun i => i ≤ m) (fun i => m - i) 0 (Nat.zero_le _) rfl ⟨⟨rfl, rfl⟩, ⟨rfl, rfl⟩, trivial⟩ ⟨⟨rfl, rfl⟩, ⟨rfl, rfl⟩, ⟨rfl, rfl⟩, trivial⟩ ⟨⟨rfl, rfl, rfl, rfl⟩, trivial⟩ ?_⟩
  intro i hi
  conv => whnf
  refine ⟨fun h => ?_, fun h => ?_⟩
  · have hi2 : i < m := by simpa using h
    clear hjl
    rcases sa with sa | ⟨ab, off, hqa, sa⟩
    · omega
    rw [hqa]
    have hil : i < x.cells.length := by omega
    obtain ⟨f1, f2⟩ := f0 i hil
    have hnx := allC_next hil
    have hli := hlen i
    have hb := ok.cells _ (List.getElem_mem hil)
    have l1 := w1_len hb.1
    have l2 := itoa_len20 hb.2
    have p1 := fun R' => sRfNumber (R := R') x.cells[i].1 hb.1
    have p2 := fun R' => sRefPrint (R := R') x.cells[i].2 hb.2.1 hb.2.2
    generalize x.cells[i] = z at *
    obtain ⟨zx, zy⟩ := z
    simp only at f1 f2 p1 p2 hnx l1 l2
    generalize allC (x.cells.take i) = t at *
    generalize w1 zx = sx at *
    generalize Lib.itoa zy = sy at *
    conv => whnf
    refine ⟨trivial, RegAt.groups [([.T 0, .T 1, .T 2, .T 3, .T 4, .T 5, .T 6, .T 10, .T 11, .T 12, .T 13, .T 14, .T 15, .H 7, .T 8, .T 9, .H 16], 17), ([.T 17], 18), ([.T 18], 19)] hmix (by kernel_rfl) ?_⟩
    conv => whnf
    refine ⟨⟨trivial, by omega⟩, LoadAt.cell (.int .i64 zx) rfl rfl (fun w hw => ?_) ?_⟩
    · simp only [Int.toNat_natCast]
      exact sa w (Sat.rest hw) _ _ f1
    conv => whnf
    refine ⟨⟨trivial, by omega⟩, LoadAt.cell (.int .i64 zy) rfl rfl (fun w hw => ?_) ?_⟩
    · simp only [Int.toNat_natCast]
      have := sa w (Sat.rest hw) _ _ f2
      rw [← Nat.add_assoc] at this
      exact this
    conv => whnf
    refine ⟨trivial, CallAt.pure (fun R' hR' => p1 R') ?_⟩
    conv => whnf
    refine ⟨trivial, ⟨⟨rfl, rfl⟩, fun h s => sub_same s⟩, ?_⟩
    conv => whnf
    rw [show (⟨#[44]⟩ : ByteArray) = bs [44] from rfl, bs_append, bs_append]
    refine ⟨?_, CallAt.pure (fun R' hR' => p2 R') ?_⟩
    · repeat' apply And.intro
      all_goals first | exact True.intro | (simp only [show (⟨#[32]⟩ : ByteArray) = bs [32] from rfl, show (⟨#[44]⟩ : ByteArray) = bs [44] from rfl, bs_append, bs_size, List.length_append, List.length_cons, List.length_nil]; omega)
    conv => whnf
    refine ⟨trivial, ⟨⟨rfl, rfl⟩, fun h s => sub_same s⟩, ?_⟩
    conv => whnf
    rw [bs_append, ← hnx]
    refine ⟨?_, ?_⟩
    · refine ⟨trivial, ?_⟩
      simp only [bs_size, List.length_append, List.length_cons, List.length_nil]
      omega
    conv => whnf
    exact ⟨⟨trivial, by unfold rng; omega⟩, .mk (i + 1) (by omega) (by omega) (Le.of (Nat.le_of_ble_eq_true rfl) (Nat.zero_le _) ⟨⟨rfl, rfl⟩, ⟨rfl, rfl⟩, ⟨rfl, rfl⟩, ⟨rfl, rfl⟩, ⟨rfl, rfl⟩, trivial⟩ ⟨⟨rfl, rfl, rfl, rfl⟩, trivial⟩ fun h s => sub_same s)⟩
  have hi3 : i = m := by simp at h; omega
  have e : x.cells.take i = x.cells := List.take_of_length_le (by omega)
  rw [e]
  clear h sa f0 hlen
  conv => whnf
  repeat (first | (refine ⟨fun _ => ?_, fun h => absurd h (by decide)⟩; conv => whnf) | (refine ⟨fun h => absurd h (by decide), fun _ => ?_⟩; conv => whnf))
  refine ⟨trivial, CallAt.pure (fun R' hR' => hpc R') ?_⟩
  conv => whnf
  rw [show (⟨#[111, 107, 32, 110, 111]⟩ : ByteArray) = bs [111, 107, 32, 110, 111] from rfl, bs_append]
  refine ⟨?_, OpAt.store (A' := rowH (.slice (some ⟨g, 0, none⟩) 1 1) 1 9 1 [.string (bs ([111, 107, 32, 110, 111] ++ sc))]) g 0 (.string (bs ([111, 107, 32, 110, 111] ++ sc))) [] rfl (fun h s => s) rfl rfl rfl rfl rfl (by simp [Value.cells, Value.oneCell']) (fun h r => row_put (off := 0) (ys := [.string (bs ([111, 107, 32, 110, 111] ++ sc))]) (by simp) r) ?_⟩
  · repeat' apply And.intro
    all_goals first | exact True.intro | decide | omega | (simp only [show (⟨#[111, 107]⟩ : ByteArray) = bs okT from rfl, bs_append, bs_size, List.length_append, List.length_cons, List.length_nil, okT]; omega)
  generalize x.yes = yes
  cases yes
  · conv => whnf
    repeat (first | (refine ⟨fun _ => ?_, fun h => absurd h (by decide)⟩; conv => whnf) | (refine ⟨fun h => absurd h (by decide), fun _ => ?_⟩; conv => whnf))
    exact ⟨trivial, .mk _ (fun w s => s) ⟨_, _, rfl, rfl⟩⟩
  · conv => whnf
    repeat (first | (refine ⟨fun _ => ?_, fun h => absurd h (by decide)⟩; conv => whnf) | (refine ⟨fun h => absurd h (by decide), fun _ => ?_⟩; conv => whnf))
    refine ⟨?_, OpAt.store (A' := rowH (.slice (some ⟨g, 0, none⟩) 1 1) 1 9 1 [.string (bs (okT ++ wds 32 [yesT]))]) g 0 (.string (bs (okT ++ wds 32 [yesT]))) [] rfl (fun h s => s) rfl rfl rfl rfl rfl (by simp [Value.cells, Value.oneCell']) (fun h r => row_put (off := 0) (ys := [.string (bs (okT ++ wds 32 [yesT]))]) (by simp) r) ?_⟩
    · repeat' apply And.intro
      all_goals first | exact True.intro | decide | omega | (simp only [show (⟨#[111, 107]⟩ : ByteArray) = bs okT from rfl, bs_append, bs_size, List.length_append, List.length_cons, List.length_nil, okT]; omega)
    conv => whnf
    exact ⟨trivial, .mk _ (fun w s => s) ⟨_, _, rfl, rfl⟩⟩
end Go.Proofs.YteplckkoiffnnaaGreatDoor

/-
  The document's word of bytes.
-/
namespace Go.Proofs.YteplckkoiffnnaaGreatDoor
open Go.RowKit
open Sy
set_option linter.unusedVariables false
set_option linter.unusedSimpArgs false
set_option maxRecDepth 100000
set_option maxHeartbeats 4000000

theorem hexQ (z : UInt8) : byteAt HXs ((z.toNat : Int).tdiv 16).toNat = ((hexd (z.toNat / 16)).toNat : Int) := by
  have hz := z.toNat_lt
  have e : ((z.toNat : Int).tdiv 16).toNat = z.toNat / 16 := by rw [Int.tdiv_eq_ediv_of_nonneg (by omega)]; omega
  rw [e]
  exact dig16 ⟨z.toNat / 16, by omega⟩
theorem hexM (z : UInt8) : byteAt HXs ((z.toNat : Int).tmod 16).toNat = ((hexd (z.toNat % 16)).toNat : Int) := by
  have hz := z.toNat_lt
  have e : ((z.toNat : Int).tmod 16).toNat = z.toNat % 16 := by rw [Int.tmod_eq_emod_of_nonneg (by omega)]; omega
  rw [e]
  exact dig16 ⟨z.toNat % 16, by omega⟩
theorem sRfBytes {R : HP} {A : Option Addr} {n c : Nat} (l : List UInt8) (hl : l.length = n) (hn : n ≤ 400000) (ha : Sl R A n 1 (byV l)) : PureR Tryz.prog R 25 [.slice A n c] (.string (bs (wds 32 [hexW l]))) := by
  refine PureR.of_sat fun wS hS => ?_
  obtain ⟨_, sa⟩ := ha.spot (by omega) hS
  refine fn_of_run0 true Tryz.func25 rfl hmix rfl fun w0 => ?_
  conv => whnf
  refine ⟨fun h => ?_, fun h => ?_⟩
  · have h0 : n = 0 := by have := of_decide_eq_true h; omega
    subst h0
    obtain rfl : l = [] := List.length_eq_zero_iff.1 hl
    conv => whnf
    exact ⟨trivial, fin_pure rfl rfl⟩
  have hne : l ≠ [] := by
    rintro rfl
    have := of_decide_eq_false h
    simp at hl
    omega
  conv => whnf
  refine ⟨trivial, OpAt.lit [.int .u8 32] 1 rfl rfl rfl rfl rfl (by decide) rfl rfl rfl (by simp [Value.cells]) rfl (by decide) fun g => ?_⟩
  conv => whnf
  refine ⟨trivial, LoopAt.heap (α := Nat × Nat × Nat) [0, 3] (fun a => [(4, .v (.slice (some ⟨a.2.1, 0, none⟩) (1 + 2 * a.1) a.2.2)), (5, .v (.int .i64 (a.1 : Int)))]) (fun a => [rowH (.slice (some ⟨a.2.1, 0, none⟩) (1 + 2 * a.1) a.2.2) (1 + 2 * a.1) 5 1 (byV (32 :: hexT (l.take a.1)))]) (fun a => a.1 ≤ n) (fun a => n - a.1) (0, g, 1) (Nat.zero_le _) rfl ⟨⟨rfl, rfl⟩, ⟨rfl, rfl⟩, trivial⟩ ⟨⟨rfl, rfl⟩, ⟨rfl, rfl⟩, trivial⟩ trivial (fun h s => sub_same s) ?_⟩
  rintro ⟨i, B, cb⟩ hi
  simp only at hi
  conv => whnf
  refine ⟨fun h3 => ?_, fun h3 => ?_⟩
  · have g3 : i < n := by simpa using h3
    rcases sa with sa | ⟨ab, off, rfl, sa⟩
    · omega
    have hil : i < l.length := by omega
    have f1 : (byV l)[i]? = some (.int .u8 (l[i].toNat : Int)) := by simp [hil]
    have hnx : byV (32 :: hexT (l.take (i + 1))) = byV (32 :: hexT (l.take i)) ++ [.int .u8 ((hexd (l[i].toNat / 16)).toNat : Int), .int .u8 ((hexd (l[i].toNat % 16)).toNat : Int)] := by
      rw [List.take_succ_eq_append_getElem hil, hexT_append]
      show byV ((32 :: hexT (l.take i)) ++ [hexd (l[i].toNat / 16), hexd (l[i].toNat % 16)]) = _
      unfold byV
      rw [List.map_append]
      rfl
    have hz := l[i].toNat_lt
    generalize l[i] = z at *
    generalize byV (32 :: hexT (l.take i)) = us at *
    conv => whnf
    refine ⟨trivial, RegAt.groups [([.T 0, .T 1, .T 2, .T 3, .T 4, .T 5, .T 6, .T 7, .T 8, .T 9, .T 10, .T 11, .T 12, .T 13, .T 14, .H 15], 16), ([.H 16], 17), ([.T 17], 18)] hmix (by kernel_rfl) ?_⟩
    conv => whnf
    refine ⟨⟨trivial, by simp only; omega⟩, LoadAt.cell (.int .u8 (z.toNat : Int)) rfl rfl (fun w hw => ?_) ?_⟩
    · simp only [Int.toNat_natCast, Nat.mul_one]
      exact sa w (Sat.rest hw) _ _ f1
    conv => whnf
    refine ⟨?_, LoadAt.cell (.int .u8 (z.toNat : Int)) rfl rfl (fun w hw => ?_) ?_⟩
    rotate_left
    · simp only [Int.toNat_natCast, Nat.mul_one]
      exact sa w (Sat.rest hw) _ _ f1
    · conv => whnf
      refine ⟨⟨⟨trivial, by decide⟩, ?_⟩, OpAt.lit [.int .u8 ((hexd (z.toNat / 16)).toNat : Int), .int .u8 ((hexd (z.toNat % 16)).toNat : Int)] 1 rfl rfl rfl rfl rfl (by decide) rfl rfl ?_ (by simp [Value.cells]) rfl (by decide) fun g2 => ?_⟩
      · show 0 ≤ (z.toNat : Int).tmod 16 ∧ (z.toNat : Int).tmod 16 < 16
        rw [Int.tmod_eq_emod_of_nonneg (by omega)]
        omega
      · show _ = [Value.int .u8 (byteAt HXs ((z.toNat : Int).tdiv 16).toNat), Value.int .u8 (byteAt HXs ((z.toNat : Int).tmod 16).toNat)]
        rw [hexQ, hexM]
      conv => whnf
      refine ⟨trivial, ⟨⟨rfl, rfl⟩, fun h s => sub_tail s⟩, ?_⟩
      conv => whnf
      refine ⟨trivial, OpAt.append1 (.slice (some ⟨B, 0, none⟩) (1 + 2 * i) cb) (1 + 2 * i) 1 1 us [.int .u8 ((hexd (z.toNat / 16)).toNat : Int), .int .u8 ((hexd (z.toNat % 16)).toNat : Int)] (some ⟨g2, 0, none⟩) 2 2 _ rfl (fun h s => sepL_pull 1 s) rfl rfl rfl rfl rfl rfl rfl rfl rfl (by decide) (fun w hw => rowH_reads rfl (hw.in_ 0 rfl)) (by simp [Value.oneCell']) (by simp only [maxLen]; omega) (by omega) (by omega) fun B' cb' => ?_⟩
      conv => whnf
      refine ⟨trivial, ?_⟩
      conv => whnf
      rw [show 1 + 2 * i + 2 = 1 + 2 * (i + 1) by omega]
      refine ⟨⟨trivial, by unfold rng; simp only; omega⟩, Next.heap (i + 1, B', cb') (by simp only; omega) (by simp only; omega) ⟨⟨rfl, rfl⟩, ⟨rfl, rfl⟩, trivial⟩ ⟨⟨rfl, rfl⟩, ⟨rfl, rfl⟩, trivial⟩ trivial rfl rfl fun h s => ?_⟩
      obtain ⟨h', e, s'⟩ := sub_drop1 s
      refine ⟨h', e, ?_⟩
      show sepL [rowH (.slice (some ⟨B', 0, none⟩) (1 + 2 * (i + 1)) cb') (1 + 2 * (i + 1)) 5 1 (byV (32 :: hexT (l.take (i + 1))))] R h'
      rw [hnx]
      exact s'
    · have e : (z.toNat : Int).tdiv 16 = ((z.toNat / 16 : Nat) : Int) := by rw [Int.tdiv_eq_ediv_of_nonneg (by omega)]; omega
      refine ⟨⟨⟨trivial, by decide, ?_⟩, ?_⟩, by simp only; omega⟩
      · rw [e]
        simp [IntKind.wrap, IntKind.bits, IntKind.signed]
        omega
      · rw [e]
        show 0 ≤ ((z.toNat / 16 : Nat) : Int) ∧ ((z.toNat / 16 : Nat) : Int) < 16
        omega
  · have g3 : i = n := by simp at h3; omega
    subst g3
    have e : l.take i = l := List.take_of_length_le (by omega)
    have e2 : wds 32 [hexW l] = 32 :: hexT l := by unfold hexW; rw [if_neg hne]; simp [wds]
    have e3 : 1 + 2 * i = (32 :: hexT l).length := by rw [List.length_cons, hexT_len]; omega
    rw [e, e3, e2]
    conv => whnf
    refine ⟨trivial, OpAt.bytesStr B (32 :: hexT l).length cb (32 :: hexT l) [] rfl (fun h s => s) rfl rfl rfl rfl rfl ?_⟩
    conv => whnf
    exact ⟨trivial, fin_drop rfl⟩
end Go.Proofs.YteplckkoiffnnaaGreatDoor

/-
  The document's Answer: cells, values, bytes, lines.
-/
namespace Go.Proofs.YteplckkoiffnnaaGreatDoor
open Go.RowKit
open Sy
set_option linter.unusedVariables false
set_option linter.unusedSimpArgs false
set_option maxRecDepth 100000
set_option maxHeartbeats 4000000

theorem rAnswer15 {R : HP} {q : RepA} {x : Rep} (kind : Int) (ok : x.ok) (few : x.few) (hc : x.code = 0) (hs : RepS R q x) (hk : kind = 15) :
    FnR Tryz.prog R 8 [.int .i64 kind, repV q x] [] fun r hs => ∃ A c, r = .slice A (ans kind x).length c ∧ hs = [rowH (.slice A (ans kind x).length c) (ans kind x).length 9 1 (strV (ans kind x))] := by
  have hjl := ansJ_len ok few kind
  have hW : ansW kind x = x.cells.map celW := by unfold ansW; rw [if_neg (by omega), if_neg (by omega), if_neg (by omega), if_neg (by omega), if_neg (by omega), if_pos (by omega)]
  have hans : ans kind x = (okT ++ wds 32 (x.cells.map celW)) :: [] := by
    unfold ans
    rw [if_neg (by simp [hc]), hW, jn_ok]
    unfold ansM
    rw [if_neg (by omega), if_neg (by omega)]
  rw [hW, jn_ok] at hjl
  rw [hans]
  clear hans hW
  subst hk
  have hq := allC_len ok.cells x.cells.length few.cells
  rw [List.take_length] at hq
  have hal : wds 32 (x.cells.map celW) = allC x.cells := rfl
  rw [hal]
  refine FnR.of_sat fun wS hS => ?_
  obtain ⟨_, sa⟩ := hs.cells.spot (by omega) (sat_base hS)
  have f0 : ∀ i (h : i < x.cells.length), (x.cells.flatMap celL)[i * 2]? = some (.int .i64 x.cells[i].1) ∧ (x.cells.flatMap celL)[i * 2 + 1]? = some (.int .i64 x.cells[i].2) := fun i h =>
    ⟨flat_at (f := celL) (s := 2) (fun _ => rfl) (l := x.cells) (i := i) (j := 0) h (by omega), flat_at (f := celL) (s := 2) (fun _ => rfl) (l := x.cells) (i := i) (j := 1) h (by omega)⟩
  have hcn := few.cells
  have hlen := fun i => allC_len ok.cells i hcn
  obtain ⟨m, hm⟩ : ∃ m, x.cells.length = m := ⟨_, rfl⟩
  unfold repV
  rw [hc]
  rw [hm] at sa hcn ⊢
  refine fn_of_run0 false Tryz.func8 rfl hmix rfl fun w0 => ?_
  conv => whnf
  repeat (first | (refine ⟨fun _ => ?_, fun h => absurd h (by decide)⟩; conv => whnf) | (refine ⟨fun h => absurd h (by decide), fun _ => ?_⟩; conv => whnf))
  refine ⟨trivial, OpAt.lit [.string (bs okT)] 1 rfl rfl rfl rfl rfl (by decide) rfl rfl rfl (by simp [Value.cells]) rfl (by decide) fun g => ?_⟩
  conv => whnf
  refine ⟨trivial, LoopAt.keep (α := Nat) [0, 3, 5] (fun i => [(6, .v (.string (bs (allC (x.cells.take i))))), (7, .v (.int .i64 (i : Int)))]) (fun i => i ≤ m) (fun i => m - i) 0 (Nat.zero_le _) rfl ⟨⟨rfl, rfl⟩, ⟨rfl, rfl⟩, trivial⟩ ⟨⟨rfl, rfl⟩, ⟨rfl, rfl⟩, ⟨rfl, rfl⟩, trivial⟩ ⟨⟨rfl, rfl, rfl, rfl⟩, trivial⟩ ?_⟩
  intro i hi
  conv => whnf
  refine ⟨fun h => ?_, fun h => ?_⟩
  · have hi2 : i < m := by simpa using h
    clear hjl
    rcases sa with sa | ⟨ab, off, hqa, sa⟩
    · omega
    rw [hqa]
    have hil : i < x.cells.length := by omega
    obtain ⟨f1, f2⟩ := f0 i hil
    have hnx := allC_next hil
    have hli := hlen i
    have hb := ok.cells _ (List.getElem_mem hil)
    have l1 := w1_len hb.1
    have l2 := itoa_len20 hb.2
    have p1 := fun R' => sRfNumber (R := R') x.cells[i].1 hb.1
    have p2 := fun R' => sRefPrint (R := R') x.cells[i].2 hb.2.1 hb.2.2
    generalize x.cells[i] = z at *
    obtain ⟨zx, zy⟩ := z
    simp only at f1 f2 p1 p2 hnx l1 l2
    generalize allC (x.cells.take i) = t at *
    generalize w1 zx = sx at *
    generalize Lib.itoa zy = sy at *
    conv => whnf
    refine ⟨trivial, RegAt.groups [([.T 0, .T 1, .T 2, .T 3, .T 4, .T 5, .T 6, .T 10, .T 11, .T 12, .T 13, .T 14, .T 15, .H 7, .T 8, .T 9, .H 16], 17), ([.T 17], 18), ([.T 18], 19)] hmix (by kernel_rfl) ?_⟩
    conv => whnf
    refine ⟨⟨trivial, by omega⟩, LoadAt.cell (.int .i64 zx) rfl rfl (fun w hw => ?_) ?_⟩
    · simp only [Int.toNat_natCast]
      exact sa w (Sat.rest hw) _ _ f1
    conv => whnf
    refine ⟨⟨trivial, by omega⟩, LoadAt.cell (.int .i64 zy) rfl rfl (fun w hw => ?_) ?_⟩
    · simp only [Int.toNat_natCast]
      have := sa w (Sat.rest hw) _ _ f2
      rw [← Nat.add_assoc] at this
      exact this
    conv => whnf
    refine ⟨trivial, CallAt.pure (fun R' hR' => p1 R') ?_⟩
    conv => whnf
    refine ⟨trivial, ⟨⟨rfl, rfl⟩, fun h s => sub_same s⟩, ?_⟩
    conv => whnf
    rw [show (⟨#[44]⟩ : ByteArray) = bs [44] from rfl, bs_append, bs_append]
    refine ⟨?_, CallAt.pure (fun R' hR' => p2 R') ?_⟩
    · repeat' apply And.intro
      all_goals first | exact True.intro | (simp only [show (⟨#[32]⟩ : ByteArray) = bs [32] from rfl, show (⟨#[44]⟩ : ByteArray) = bs [44] from rfl, bs_append, bs_size, List.length_append, List.length_cons, List.length_nil]; omega)
    conv => whnf
    refine ⟨trivial, ⟨⟨rfl, rfl⟩, fun h s => sub_same s⟩, ?_⟩
    conv => whnf
    rw [bs_append, ← hnx]
    refine ⟨?_, ?_⟩
    · refine ⟨trivial, ?_⟩
      simp only [bs_size, List.length_append, List.length_cons, List.length_nil]
      omega
    conv => whnf
    exact ⟨⟨trivial, by unfold rng; omega⟩, .mk (i + 1) (by omega) (by omega) (Le.of (Nat.le_of_ble_eq_true rfl) (Nat.zero_le _) ⟨⟨rfl, rfl⟩, ⟨rfl, rfl⟩, ⟨rfl, rfl⟩, ⟨rfl, rfl⟩, ⟨rfl, rfl⟩, trivial⟩ ⟨⟨rfl, rfl, rfl, rfl⟩, trivial⟩ fun h s => sub_same s)⟩
  have hi3 : i = m := by simp at h; omega
  have e : x.cells.take i = x.cells := List.take_of_length_le (by omega)
  rw [e]
  clear h sa f0 hlen
  generalize allC x.cells = al at *
  conv => whnf
  repeat (first | (refine ⟨fun _ => ?_, fun h => absurd h (by decide)⟩; conv => whnf) | (refine ⟨fun h => absurd h (by decide), fun _ => ?_⟩; conv => whnf))
  rw [show (⟨#[111, 107]⟩ : ByteArray) = bs okT from rfl, bs_append]
  refine ⟨?_, OpAt.store (A' := rowH (.slice (some ⟨g, 0, none⟩) 1 1) 1 9 1 [.string (bs (okT ++ al))]) g 0 (.string (bs (okT ++ al))) [] rfl (fun h s => s) rfl rfl rfl rfl rfl (by simp [Value.cells, Value.oneCell']) (fun h r => row_put (off := 0) (ys := [.string (bs (okT ++ al))]) (by simp) r) ?_⟩
  · repeat' apply And.intro
    all_goals first | exact True.intro | decide | omega | (simp only [show (⟨#[111, 107]⟩ : ByteArray) = bs okT from rfl, bs_append, bs_size, List.length_append, List.length_cons, List.length_nil, okT]; omega)
  conv => whnf
  exact ⟨trivial, .mk _ (fun w s => s) ⟨_, _, rfl, rfl⟩⟩
theorem rAnswer13 {R : HP} {q : RepA} {x : Rep} (kind : Int) (ok : x.ok) (few : x.few) (hc : x.code = 0) (hs : RepS R q x) (hk : kind = 13 ∨ kind = 16) :
    FnR Tryz.prog R 8 [.int .i64 kind, repV q x] [] fun r hs => ∃ A c, r = .slice A (ans kind x).length c ∧ hs = [rowH (.slice A (ans kind x).length c) (ans kind x).length 9 1 (strV (ans kind x))] := by
  have hjl := ansJ_len ok few kind
  have hW : ansW kind x = Lib.itoa x.n :: x.cells.map celW := by unfold ansW; rw [if_neg (by omega), if_neg (by omega), if_neg (by omega), if_pos (by omega)]
  have hans : ans kind x = (okT ++ wds 32 (Lib.itoa x.n :: x.cells.map celW)) :: [] := by
    unfold ans
    rw [if_neg (by simp [hc]), hW, jn_ok]
    unfold ansM
    rw [if_neg (by omega), if_neg (by omega)]
  rw [hW, jn_ok] at hjl
  rw [hans]
  clear hans hW
  have hq := allC_len ok.cells x.cells.length few.cells
  rw [List.take_length] at hq
  have hl := w1_len ok.n
  have hpr := fun R' => sRfNumber (R := R') x.n ok.n
  have hal : wds 32 (Lib.itoa x.n :: x.cells.map celW) = w1 x.n ++ allC x.cells := by
    show wds 32 ([Lib.itoa x.n] ++ x.cells.map celW) = _
    rw [wds_append]; rfl
  rw [hal, ← List.append_assoc]
  generalize w1 x.n = sn at *
  refine FnR.of_sat fun wS hS => ?_
  obtain ⟨_, sa⟩ := hs.cells.spot (by omega) (sat_base hS)
  have f0 : ∀ i (h : i < x.cells.length), (x.cells.flatMap celL)[i * 2]? = some (.int .i64 x.cells[i].1) ∧ (x.cells.flatMap celL)[i * 2 + 1]? = some (.int .i64 x.cells[i].2) := fun i h =>
    ⟨flat_at (f := celL) (s := 2) (fun _ => rfl) (l := x.cells) (i := i) (j := 0) h (by omega), flat_at (f := celL) (s := 2) (fun _ => rfl) (l := x.cells) (i := i) (j := 1) h (by omega)⟩
  have hcn := few.cells
  have hlen := fun i => allC_len ok.cells i hcn
  obtain ⟨m, hm⟩ : ∃ m, x.cells.length = m := ⟨_, rfl⟩
  unfold repV
  rw [hc]
  rw [hm] at sa hcn ⊢
  refine fn_of_run0 false Tryz.func8 rfl hmix rfl fun w0 => ?_
  conv => whnf
  repeat (first | (refine ⟨fun _ => ?_, fun h => absurd h (by decide)⟩; conv => whnf) | (refine ⟨fun h => absurd h (by decide), fun _ => ?_⟩; conv => whnf))
  refine ⟨trivial, OpAt.lit [.string (bs okT)] 1 rfl rfl rfl rfl rfl (by decide) rfl rfl rfl (by simp [Value.cells]) rfl (by decide) fun g => ?_⟩
  conv => whnf
  refine ⟨trivial, LoopAt.keep (α := Nat) [0, 3, 5] (fun i => [(6, .v (.string (bs (allC (x.cells.take i))))), (7, .v (.int .i64 (i : Int)))]) (fun i => i ≤ m) (fun i => m - i) 0 (Nat.zero_le _) rfl ⟨⟨rfl, rfl⟩, ⟨rfl, rfl⟩, trivial⟩ ⟨⟨rfl, rfl⟩, ⟨rfl, rfl⟩, ⟨rfl, rfl⟩, trivial⟩ ⟨⟨rfl, rfl, rfl, rfl⟩, trivial⟩ ?_⟩
  intro i hi
  conv => whnf
  refine ⟨fun h => ?_, fun h => ?_⟩
  · have hi2 : i < m := by simpa using h
    clear hjl
    rcases sa with sa | ⟨ab, off, hqa, sa⟩
    · omega
    rw [hqa]
    have hil : i < x.cells.length := by omega
    obtain ⟨f1, f2⟩ := f0 i hil
    have hnx := allC_next hil
    have hli := hlen i
    have hb := ok.cells _ (List.getElem_mem hil)
    have l1 := w1_len hb.1
    have l2 := itoa_len20 hb.2
    have p1 := fun R' => sRfNumber (R := R') x.cells[i].1 hb.1
    have p2 := fun R' => sRefPrint (R := R') x.cells[i].2 hb.2.1 hb.2.2
    generalize x.cells[i] = z at *
    obtain ⟨zx, zy⟩ := z
    simp only at f1 f2 p1 p2 hnx l1 l2
    generalize allC (x.cells.take i) = t at *
    generalize w1 zx = sx at *
    generalize Lib.itoa zy = sy at *
    conv => whnf
    refine ⟨trivial, RegAt.groups [([.T 0, .T 1, .T 2, .T 3, .T 4, .T 5, .T 6, .T 10, .T 11, .T 12, .T 13, .T 14, .T 15, .H 7, .T 8, .T 9, .H 16], 17), ([.T 17], 18), ([.T 18], 19)] hmix (by kernel_rfl) ?_⟩
    conv => whnf
    refine ⟨⟨trivial, by omega⟩, LoadAt.cell (.int .i64 zx) rfl rfl (fun w hw => ?_) ?_⟩
    · simp only [Int.toNat_natCast]
      exact sa w (Sat.rest hw) _ _ f1
    conv => whnf
    refine ⟨⟨trivial, by omega⟩, LoadAt.cell (.int .i64 zy) rfl rfl (fun w hw => ?_) ?_⟩
    · simp only [Int.toNat_natCast]
      have := sa w (Sat.rest hw) _ _ f2
      rw [← Nat.add_assoc] at this
      exact this
    conv => whnf
    refine ⟨trivial, CallAt.pure (fun R' hR' => p1 R') ?_⟩
    conv => whnf
    refine ⟨trivial, ⟨⟨rfl, rfl⟩, fun h s => sub_same s⟩, ?_⟩
    conv => whnf
    rw [show (⟨#[44]⟩ : ByteArray) = bs [44] from rfl, bs_append, bs_append]
    refine ⟨?_, CallAt.pure (fun R' hR' => p2 R') ?_⟩
    · repeat' apply And.intro
      all_goals first | exact True.intro | (simp only [show (⟨#[32]⟩ : ByteArray) = bs [32] from rfl, show (⟨#[44]⟩ : ByteArray) = bs [44] from rfl, bs_append, bs_size, List.length_append, List.length_cons, List.length_nil]; omega)
    conv => whnf
    refine ⟨trivial, ⟨⟨rfl, rfl⟩, fun h s => sub_same s⟩, ?_⟩
    conv => whnf
    rw [bs_append, ← hnx]
    refine ⟨?_, ?_⟩
    · refine ⟨trivial, ?_⟩
      simp only [bs_size, List.length_append, List.length_cons, List.length_nil]
      omega
    conv => whnf
    exact ⟨⟨trivial, by unfold rng; omega⟩, .mk (i + 1) (by omega) (by omega) (Le.of (Nat.le_of_ble_eq_true rfl) (Nat.zero_le _) ⟨⟨rfl, rfl⟩, ⟨rfl, rfl⟩, ⟨rfl, rfl⟩, ⟨rfl, rfl⟩, ⟨rfl, rfl⟩, trivial⟩ ⟨⟨rfl, rfl, rfl, rfl⟩, trivial⟩ fun h s => sub_same s)⟩
  have hi3 : i = m := by simp at h; omega
  have e : x.cells.take i = x.cells := List.take_of_length_le (by omega)
  rw [e]
  clear h sa f0 hlen
  generalize allC x.cells = al at *
  rcases hk with rfl | rfl
  all_goals
    conv => whnf
    repeat (first | (refine ⟨fun _ => ?_, fun h => absurd h (by decide)⟩; conv => whnf) | (refine ⟨fun h => absurd h (by decide), fun _ => ?_⟩; conv => whnf))
    refine ⟨trivial, CallAt.pure (fun R' hR' => hpr R') ?_⟩
    conv => whnf
    rw [show (⟨#[111, 107]⟩ : ByteArray) = bs okT from rfl, bs_append, bs_append]
    refine ⟨?_, OpAt.store (A' := rowH (.slice (some ⟨g, 0, none⟩) 1 1) 1 9 1 [.string (bs (okT ++ sn ++ al))]) g 0 (.string (bs (okT ++ sn ++ al))) [] rfl (fun h s => s) rfl rfl rfl rfl rfl (by simp [Value.cells, Value.oneCell']) (fun h r => row_put (off := 0) (ys := [.string (bs (okT ++ sn ++ al))]) (by simp) r) ?_⟩
    · repeat' apply And.intro
      all_goals first | exact True.intro | decide | omega | (simp only [show (⟨#[111, 107]⟩ : ByteArray) = bs okT from rfl, bs_append, bs_size, List.length_append, List.length_cons, List.length_nil, okT]; omega)
    conv => whnf
    exact ⟨trivial, .mk _ (fun w s => s) ⟨_, _, rfl, rfl⟩⟩
theorem rAnswer17 {R : HP} {q : RepA} {x : Rep} (kind : Int) (ok : x.ok) (few : x.few) (hc : x.code = 0) (hs : RepS R q x) (hk : kind = 17) :
    FnR Tryz.prog R 8 [.int .i64 kind, repV q x] [] fun r hs => ∃ A c, r = .slice A (ans kind x).length c ∧ hs = [rowH (.slice A (ans kind x).length c) (ans kind x).length 9 1 (strV (ans kind x))] := by
  have hjl := ansJ_len ok few kind
  have hW : ansW kind x = [Lib.itoa x.ax, Lib.itoa x.ay, listW x.vals] := by unfold ansW; rw [if_neg (by omega), if_neg (by omega), if_neg (by omega), if_neg (by omega), if_neg (by omega), if_neg (by omega), if_pos (by omega)]
  have hans : ans kind x = (okT ++ wds 32 ([Lib.itoa x.ax, Lib.itoa x.ay, listW x.vals])) :: [] := by
    unfold ans
    rw [if_neg (by simp [hc]), hW, jn_ok]
    unfold ansM
    rw [if_neg (by omega), if_neg (by omega)]
  rw [hW, jn_ok] at hjl
  rw [hans]
  clear hans hW
  subst hk
  have hl2 : (wds 32 [Lib.itoa x.ax, Lib.itoa x.ay]).length ≤ 44 := by
    have h1 := itoa_len20 ok.ax
    have h2 := itoa_len20 ok.ay
    simp [wds]; omega
  have hv := few.vals
  have hl3 : (wds 32 [listW x.vals]).length ≤ 20000 := by
    have := listW_len ok.vals
    simp [wds]; omega
  have hpc := fun R' => sRfCell (R := R') x.ax x.ay ok.ax ok.ay
  have hpl := fun R' (h : ∀ w, Sat R' w → Sat R w) => sRfList (R := R') (c := q.c2) x.vals rfl (by omega) ok.vals (hs.vals.mono h)
  have hww : wds 32 [Lib.itoa x.ax, Lib.itoa x.ay, listW x.vals] = wds 32 [Lib.itoa x.ax, Lib.itoa x.ay] ++ wds 32 [listW x.vals] := by simp [wds]
  rw [hww, ← List.append_assoc]
  clear hww
  generalize wds 32 [Lib.itoa x.ax, Lib.itoa x.ay] = sc at *
  generalize wds 32 [listW x.vals] = sl at *
  refine FnR.of_sat fun wS hS => ?_
  obtain ⟨_, sa⟩ := hs.cells.spot (by omega) (sat_base hS)
  have f0 : ∀ i (h : i < x.cells.length), (x.cells.flatMap celL)[i * 2]? = some (.int .i64 x.cells[i].1) ∧ (x.cells.flatMap celL)[i * 2 + 1]? = some (.int .i64 x.cells[i].2) := fun i h =>
    ⟨flat_at (f := celL) (s := 2) (fun _ => rfl) (l := x.cells) (i := i) (j := 0) h (by omega), flat_at (f := celL) (s := 2) (fun _ => rfl) (l := x.cells) (i := i) (j := 1) h (by omega)⟩
  have hcn := few.cells
  have hlen := fun i => allC_len ok.cells i hcn
  obtain ⟨m, hm⟩ : ∃ m, x.cells.length = m := ⟨_, rfl⟩
  unfold repV
  rw [hc]
  rw [hm] at sa hcn ⊢
  refine fn_of_run0 false Tryz.func8 rfl hmix rfl fun w0 => ?_
  conv => whnf
  repeat (first | (refine ⟨fun _ => ?_, fun h => absurd h (by decide)⟩; conv => whnf) | (refine ⟨fun h => absurd h (by decide), fun _ => ?_⟩; conv => whnf))
  refine ⟨trivial, OpAt.lit [.string (bs okT)] 1 rfl rfl rfl rfl rfl (by decide) rfl rfl rfl (by simp [Value.cells]) rfl (by decide) fun g => ?_⟩
  conv => whnf
  refine ⟨trivial, LoopAt.keep (α := Nat) [0, 3, 5] (fun i => [(6, .v (.string (bs (allC (x.cells.take i))))), (7, .v (.int .i64 (i : Int)))]) (fun i => i ≤ m) (fun i => m - i) 0 (Nat.zero_le _) rfl ⟨⟨rfl, rfl⟩, ⟨rfl, rfl⟩, trivial⟩ ⟨⟨rfl, rfl⟩, ⟨rfl, rfl⟩, ⟨rfl, rfl⟩, trivial⟩ ⟨⟨rfl, rfl, rfl, rfl⟩, trivial⟩ ?_⟩
  intro i hi
  conv => whnf
  refine ⟨fun h => ?_, fun h => ?_⟩
  · have hi2 : i < m := by simpa using h
    clear hjl
    rcases sa with sa | ⟨ab, off, hqa, sa⟩
    · omega
    rw [hqa]
    have hil : i < x.cells.length := by omega
    obtain ⟨f1, f2⟩ := f0 i hil
    have hnx := allC_next hil
    have hli := hlen i
    have hb := ok.cells _ (List.getElem_mem hil)
    have l1 := w1_len hb.1
    have l2 := itoa_len20 hb.2
    have p1 := fun R' => sRfNumber (R := R') x.cells[i].1 hb.1
    have p2 := fun R' => sRefPrint (R := R') x.cells[i].2 hb.2.1 hb.2.2
    generalize x.cells[i] = z at *
    obtain ⟨zx, zy⟩ := z
    simp only at f1 f2 p1 p2 hnx l1 l2
    generalize allC (x.cells.take i) = t at *
    generalize w1 zx = sx at *
    generalize Lib.itoa zy = sy at *
    conv => whnf
    refine ⟨trivial, RegAt.groups [([.T 0, .T 1, .T 2, .T 3, .T 4, .T 5, .T 6, .T 10, .T 11, .T 12, .T 13, .T 14, .T 15, .H 7, .T 8, .T 9, .H 16], 17), ([.T 17], 18), ([.T 18], 19)] hmix (by kernel_rfl) ?_⟩
    conv => whnf
    refine ⟨⟨trivial, by omega⟩, LoadAt.cell (.int .i64 zx) rfl rfl (fun w hw => ?_) ?_⟩
    · simp only [Int.toNat_natCast]
      exact sa w (Sat.rest hw) _ _ f1
    conv => whnf
    refine ⟨⟨trivial, by omega⟩, LoadAt.cell (.int .i64 zy) rfl rfl (fun w hw => ?_) ?_⟩
    · simp only [Int.toNat_natCast]
      have := sa w (Sat.rest hw) _ _ f2
      rw [← Nat.add_assoc] at this
      exact this
    conv => whnf
    refine ⟨trivial, CallAt.pure (fun R' hR' => p1 R') ?_⟩
    conv => whnf
    refine ⟨trivial, ⟨⟨rfl, rfl⟩, fun h s => sub_same s⟩, ?_⟩
    conv => whnf
    rw [show (⟨#[44]⟩ : ByteArray) = bs [44] from rfl, bs_append, bs_append]
    refine ⟨?_, CallAt.pure (fun R' hR' => p2 R') ?_⟩
    · repeat' apply And.intro
      all_goals first | exact True.intro | (simp only [show (⟨#[32]⟩ : ByteArray) = bs [32] from rfl, show (⟨#[44]⟩ : ByteArray) = bs [44] from rfl, bs_append, bs_size, List.length_append, List.length_cons, List.length_nil]; omega)
    conv => whnf
    refine ⟨trivial, ⟨⟨rfl, rfl⟩, fun h s => sub_same s⟩, ?_⟩
    conv => whnf
    rw [bs_append, ← hnx]
    refine ⟨?_, ?_⟩
    · refine ⟨trivial, ?_⟩
      simp only [bs_size, List.length_append, List.length_cons, List.length_nil]
      omega
    conv => whnf
    exact ⟨⟨trivial, by unfold rng; omega⟩, .mk (i + 1) (by omega) (by omega) (Le.of (Nat.le_of_ble_eq_true rfl) (Nat.zero_le _) ⟨⟨rfl, rfl⟩, ⟨rfl, rfl⟩, ⟨rfl, rfl⟩, ⟨rfl, rfl⟩, ⟨rfl, rfl⟩, trivial⟩ ⟨⟨rfl, rfl, rfl, rfl⟩, trivial⟩ fun h s => sub_same s)⟩
  have hi3 : i = m := by simp at h; omega
  have e : x.cells.take i = x.cells := List.take_of_length_le (by omega)
  rw [e]
  clear h sa f0 hlen
  conv => whnf
  repeat (first | (refine ⟨fun _ => ?_, fun h => absurd h (by decide)⟩; conv => whnf) | (refine ⟨fun h => absurd h (by decide), fun _ => ?_⟩; conv => whnf))
  refine ⟨trivial, RegAt.tail 10 hmix (by kernel_rfl) ?_⟩
  conv => whnf
  refine ⟨trivial, CallQ.pure (fun R' hR' => hpc R') ?_⟩
  conv => whnf
  refine ⟨?_, CallQ.pure (fun R' hR' => hpl R' fun w s => Sat.rest (hR' w s)) ?_⟩
  · repeat' apply And.intro
    all_goals first | exact True.intro | decide | omega | (simp only [show (⟨#[111, 107]⟩ : ByteArray) = bs okT from rfl, bs_append, bs_size, List.length_append, List.length_cons, List.length_nil, okT]; omega)
  conv => whnf
  rw [show (⟨#[111, 107]⟩ : ByteArray) = bs okT from rfl, bs_append, bs_append]
  refine ⟨?_, OpAt.store (A' := rowH (.slice (some ⟨g, 0, none⟩) 1 1) 1 9 1 [.string (bs (okT ++ sc ++ sl))]) g 0 (.string (bs (okT ++ sc ++ sl))) [] rfl (fun h s => s) rfl rfl rfl rfl rfl (by simp [Value.cells, Value.oneCell']) (fun h r => row_put (off := 0) (ys := [.string (bs (okT ++ sc ++ sl))]) (by simp) r) ?_⟩
  · repeat' apply And.intro
    all_goals first | exact True.intro | decide | omega | (simp only [show (⟨#[111, 107]⟩ : ByteArray) = bs okT from rfl, bs_append, bs_size, List.length_append, List.length_cons, List.length_nil, okT]; omega)
  conv => whnf
  refine ⟨trivial, ?_⟩
  conv => whnf
  exact ⟨trivial, .mk _ (fun w s => s) ⟨_, _, rfl, rfl⟩⟩
theorem rAnswer23 {R : HP} {q : RepA} {x : Rep} (kind : Int) (ok : x.ok) (few : x.few) (hc : x.code = 0) (hs : RepS R q x) (hk : kind = 23) :
    FnR Tryz.prog R 8 [.int .i64 kind, repV q x] [] fun r hs => ∃ A c, r = .slice A (ans kind x).length c ∧ hs = [rowH (.slice A (ans kind x).length c) (ans kind x).length 9 1 (strV (ans kind x))] := by
  have hjl := ansJ_len ok few kind
  have hW : ansW kind x = [hexW x.byts] := by unfold ansW; rw [if_neg (by omega), if_neg (by omega), if_neg (by omega), if_neg (by omega), if_neg (by omega), if_neg (by omega), if_neg (by omega), if_pos (by omega)]
  have hans : ans kind x = (okT ++ wds 32 ([hexW x.byts])) :: [] := by
    unfold ans
    rw [if_neg (by simp [hc]), hW, jn_ok]
    unfold ansM
    rw [if_neg (by omega), if_neg (by omega)]
  rw [hW, jn_ok] at hjl
  rw [hans]
  clear hans hW
  subst hk
  have hv := few.byts
  have hl3 : (wds 32 [hexW x.byts]).length ≤ 5000 := by
    have hh : (hexW x.byts).length ≤ 4001 := by
      unfold hexW
      split
      · simp
      · rw [hexT_len]; omega
    simp [wds]; omega
  have hpb := fun R' (h : ∀ w, Sat R' w → Sat R w) => sRfBytes (R := R') (c := q.c4) x.byts rfl (by omega) (hs.byts.mono h)
  generalize wds 32 [hexW x.byts] = sb at *
  refine FnR.of_sat fun wS hS => ?_
  obtain ⟨_, sa⟩ := hs.cells.spot (by omega) (sat_base hS)
  have f0 : ∀ i (h : i < x.cells.length), (x.cells.flatMap celL)[i * 2]? = some (.int .i64 x.cells[i].1) ∧ (x.cells.flatMap celL)[i * 2 + 1]? = some (.int .i64 x.cells[i].2) := fun i h =>
    ⟨flat_at (f := celL) (s := 2) (fun _ => rfl) (l := x.cells) (i := i) (j := 0) h (by omega), flat_at (f := celL) (s := 2) (fun _ => rfl) (l := x.cells) (i := i) (j := 1) h (by omega)⟩
  have hcn := few.cells
  have hlen := fun i => allC_len ok.cells i hcn
  obtain ⟨m, hm⟩ : ∃ m, x.cells.length = m := ⟨_, rfl⟩
  unfold repV
  rw [hc]
  rw [hm] at sa hcn ⊢
  refine fn_of_run0 false Tryz.func8 rfl hmix rfl fun w0 => ?_
  conv => whnf
  repeat (first | (refine ⟨fun _ => ?_, fun h => absurd h (by decide)⟩; conv => whnf) | (refine ⟨fun h => absurd h (by decide), fun _ => ?_⟩; conv => whnf))
  refine ⟨trivial, OpAt.lit [.string (bs okT)] 1 rfl rfl rfl rfl rfl (by decide) rfl rfl rfl (by simp [Value.cells]) rfl (by decide) fun g => ?_⟩
  conv => whnf
  refine ⟨trivial, LoopAt.keep (α := Nat) [0, 3, 5] (fun i => [(6, .v (.string (bs (allC (x.cells.take i))))), (7, .v (.int .i64 (i : Int)))]) (fun i => i ≤ m) (fun i => m - i) 0 (Nat.zero_le _) rfl ⟨⟨rfl, rfl⟩, ⟨rfl, rfl⟩, trivial⟩ ⟨⟨rfl, rfl⟩, ⟨rfl, rfl⟩, ⟨rfl, rfl⟩, trivial⟩ ⟨⟨rfl, rfl, rfl, rfl⟩, trivial⟩ ?_⟩
  intro i hi
  conv => whnf
  refine ⟨fun h => ?_, fun h => ?_⟩
  · have hi2 : i < m := by simpa using h
    clear hjl
    rcases sa with sa | ⟨ab, off, hqa, sa⟩
    · omega
    rw [hqa]
    have hil : i < x.cells.length := by omega
    obtain ⟨f1, f2⟩ := f0 i hil
    have hnx := allC_next hil
    have hli := hlen i
    have hb := ok.cells _ (List.getElem_mem hil)
    have l1 := w1_len hb.1
    have l2 := itoa_len20 hb.2
    have p1 := fun R' => sRfNumber (R := R') x.cells[i].1 hb.1
    have p2 := fun R' => sRefPrint (R := R') x.cells[i].2 hb.2.1 hb.2.2
    generalize x.cells[i] = z at *
    obtain ⟨zx, zy⟩ := z
    simp only at f1 f2 p1 p2 hnx l1 l2
    generalize allC (x.cells.take i) = t at *
    generalize w1 zx = sx at *
    generalize Lib.itoa zy = sy at *
    conv => whnf
    refine ⟨trivial, RegAt.groups [([.T 0, .T 1, .T 2, .T 3, .T 4, .T 5, .T 6, .T 10, .T 11, .T 12, .T 13, .T 14, .T 15, .H 7, .T 8, .T 9, .H 16], 17), ([.T 17], 18), ([.T 18], 19)] hmix (by kernel_rfl) ?_⟩
    conv => whnf
    refine ⟨⟨trivial, by omega⟩, LoadAt.cell (.int .i64 zx) rfl rfl (fun w hw => ?_) ?_⟩
    · simp only [Int.toNat_natCast]
      exact sa w (Sat.rest hw) _ _ f1
    conv => whnf
    refine ⟨⟨trivial, by omega⟩, LoadAt.cell (.int .i64 zy) rfl rfl (fun w hw => ?_) ?_⟩
    · simp only [Int.toNat_natCast]
      have := sa w (Sat.rest hw) _ _ f2
      rw [← Nat.add_assoc] at this
      exact this
    conv => whnf
    refine ⟨trivial, CallAt.pure (fun R' hR' => p1 R') ?_⟩
    conv => whnf
    refine ⟨trivial, ⟨⟨rfl, rfl⟩, fun h s => sub_same s⟩, ?_⟩
    conv => whnf
    rw [show (⟨#[44]⟩ : ByteArray) = bs [44] from rfl, bs_append, bs_append]
    refine ⟨?_, CallAt.pure (fun R' hR' => p2 R') ?_⟩
    · repeat' apply And.intro
      all_goals first | exact True.intro | (simp only [show (⟨#[32]⟩ : ByteArray) = bs [32] from rfl, show (⟨#[44]⟩ : ByteArray) = bs [44] from rfl, bs_append, bs_size, List.length_append, List.length_cons, List.length_nil]; omega)
    conv => whnf
    refine ⟨trivial, ⟨⟨rfl, rfl⟩, fun h s => sub_same s⟩, ?_⟩
    conv => whnf
    rw [bs_append, ← hnx]
    refine ⟨?_, ?_⟩
    · refine ⟨trivial, ?_⟩
      simp only [bs_size, List.length_append, List.length_cons, List.length_nil]
      omega
    conv => whnf
    exact ⟨⟨trivial, by unfold rng; omega⟩, .mk (i + 1) (by omega) (by omega) (Le.of (Nat.le_of_ble_eq_true rfl) (Nat.zero_le _) ⟨⟨rfl, rfl⟩, ⟨rfl, rfl⟩, ⟨rfl, rfl⟩, ⟨rfl, rfl⟩, ⟨rfl, rfl⟩, trivial⟩ ⟨⟨rfl, rfl, rfl, rfl⟩, trivial⟩ fun h s => sub_same s)⟩
  have hi3 : i = m := by simp at h; omega
  have e : x.cells.take i = x.cells := List.take_of_length_le (by omega)
  rw [e]
  clear h sa f0 hlen
  conv => whnf
  repeat (first | (refine ⟨fun _ => ?_, fun h => absurd h (by decide)⟩; conv => whnf) | (refine ⟨fun h => absurd h (by decide), fun _ => ?_⟩; conv => whnf))
  refine ⟨trivial, CallAt.pure (fun R' hR' => hpb R' fun w s => Sat.rest (hR' w s)) ?_⟩
  conv => whnf
  rw [show (⟨#[111, 107]⟩ : ByteArray) = bs okT from rfl, bs_append]
  refine ⟨?_, OpAt.store (A' := rowH (.slice (some ⟨g, 0, none⟩) 1 1) 1 9 1 [.string (bs (okT ++ sb))]) g 0 (.string (bs (okT ++ sb))) [] rfl (fun h s => s) rfl rfl rfl rfl rfl (by simp [Value.cells, Value.oneCell']) (fun h r => row_put (off := 0) (ys := [.string (bs (okT ++ sb))]) (by simp) r) ?_⟩
  · repeat' apply And.intro
    all_goals first | exact True.intro | decide | omega | (simp only [show (⟨#[111, 107]⟩ : ByteArray) = bs okT from rfl, bs_append, bs_size, List.length_append, List.length_cons, List.length_nil, okT]; omega)
  conv => whnf
  exact ⟨trivial, .mk _ (fun w s => s) ⟨_, _, rfl, rfl⟩⟩
theorem rAnswer27 {R : HP} {q : RepA} {x : Rep} (kind : Int) (ok : x.ok) (few : x.few) (hc : x.code = 0) (hs : RepS R q x) (hk : kind = 27) :
    FnR Tryz.prog R 8 [.int .i64 kind, repV q x] [] fun r hs => ∃ A c, r = .slice A (ans kind x).length c ∧ hs = [rowH (.slice A (ans kind x).length c) (ans kind x).length 9 1 (strV (ans kind x))] := by
  have hjl := ansJ_len ok few kind
  have hW : ansW kind x = [] := by unfold ansW; rw [if_neg (by omega), if_neg (by omega), if_neg (by omega), if_neg (by omega), if_neg (by omega), if_neg (by omega), if_neg (by omega), if_neg (by omega)]
  have hans : ans kind x = okT :: x.lines := by
    unfold ans
    rw [if_neg (by simp [hc]), hW, jn_one]
    unfold ansM
    rw [if_neg (by omega), if_pos hk]
  rw [hans]
  clear hans hW
  subst hk
  have hv := few.lines
  have hll : (strV x.lines).length = x.lines.length := List.length_map _
  refine FnR.of_sat fun wS hS => ?_
  obtain ⟨_, sa⟩ := hs.cells.spot (by omega) (sat_base hS)
  have f0 : ∀ i (h : i < x.cells.length), (x.cells.flatMap celL)[i * 2]? = some (.int .i64 x.cells[i].1) ∧ (x.cells.flatMap celL)[i * 2 + 1]? = some (.int .i64 x.cells[i].2) := fun i h =>
    ⟨flat_at (f := celL) (s := 2) (fun _ => rfl) (l := x.cells) (i := i) (j := 0) h (by omega), flat_at (f := celL) (s := 2) (fun _ => rfl) (l := x.cells) (i := i) (j := 1) h (by omega)⟩
  have hcn := few.cells
  have hlen := fun i => allC_len ok.cells i hcn
  obtain ⟨m, hm⟩ : ∃ m, x.cells.length = m := ⟨_, rfl⟩
  unfold repV
  rw [hc]
  rw [hm] at sa hcn ⊢
  refine fn_of_run0 false Tryz.func8 rfl hmix rfl fun w0 => ?_
  conv => whnf
  repeat (first | (refine ⟨fun _ => ?_, fun h => absurd h (by decide)⟩; conv => whnf) | (refine ⟨fun h => absurd h (by decide), fun _ => ?_⟩; conv => whnf))
  refine ⟨trivial, OpAt.lit [.string (bs okT)] 1 rfl rfl rfl rfl rfl (by decide) rfl rfl rfl (by simp [Value.cells]) rfl (by decide) fun g => ?_⟩
  conv => whnf
  refine ⟨trivial, LoopAt.keep (α := Nat) [0, 3, 5] (fun i => [(6, .v (.string (bs (allC (x.cells.take i))))), (7, .v (.int .i64 (i : Int)))]) (fun i => i ≤ m) (fun i => m - i) 0 (Nat.zero_le _) rfl ⟨⟨rfl, rfl⟩, ⟨rfl, rfl⟩, trivial⟩ ⟨⟨rfl, rfl⟩, ⟨rfl, rfl⟩, ⟨rfl, rfl⟩, trivial⟩ ⟨⟨rfl, rfl, rfl, rfl⟩, trivial⟩ ?_⟩
  intro i hi
  conv => whnf
  refine ⟨fun h => ?_, fun h => ?_⟩
  · have hi2 : i < m := by simpa using h
    clear hjl
    rcases sa with sa | ⟨ab, off, hqa, sa⟩
    · omega
    rw [hqa]
    have hil : i < x.cells.length := by omega
    obtain ⟨f1, f2⟩ := f0 i hil
    have hnx := allC_next hil
    have hli := hlen i
    have hb := ok.cells _ (List.getElem_mem hil)
    have l1 := w1_len hb.1
    have l2 := itoa_len20 hb.2
    have p1 := fun R' => sRfNumber (R := R') x.cells[i].1 hb.1
    have p2 := fun R' => sRefPrint (R := R') x.cells[i].2 hb.2.1 hb.2.2
    generalize x.cells[i] = z at *
    obtain ⟨zx, zy⟩ := z
    simp only at f1 f2 p1 p2 hnx l1 l2
    generalize allC (x.cells.take i) = t at *
    generalize w1 zx = sx at *
    generalize Lib.itoa zy = sy at *
    conv => whnf
    refine ⟨trivial, RegAt.groups [([.T 0, .T 1, .T 2, .T 3, .T 4, .T 5, .T 6, .T 10, .T 11, .T 12, .T 13, .T 14, .T 15, .H 7, .T 8, .T 9, .H 16], 17), ([.T 17], 18), ([.T 18], 19)] hmix (by kernel_rfl) ?_⟩
    conv => whnf
    refine ⟨⟨trivial, by omega⟩, LoadAt.cell (.int .i64 zx) rfl rfl (fun w hw => ?_) ?_⟩
    · simp only [Int.toNat_natCast]
      exact sa w (Sat.rest hw) _ _ f1
    conv => whnf
    refine ⟨⟨trivial, by omega⟩, LoadAt.cell (.int .i64 zy) rfl rfl (fun w hw => ?_) ?_⟩
    · simp only [Int.toNat_natCast]
      have := sa w (Sat.rest hw) _ _ f2
      rw [← Nat.add_assoc] at this
      exact this
    conv => whnf
    refine ⟨trivial, CallAt.pure (fun R' hR' => p1 R') ?_⟩
    conv => whnf
    refine ⟨trivial, ⟨⟨rfl, rfl⟩, fun h s => sub_same s⟩, ?_⟩
    conv => whnf
    rw [show (⟨#[44]⟩ : ByteArray) = bs [44] from rfl, bs_append, bs_append]
    refine ⟨?_, CallAt.pure (fun R' hR' => p2 R') ?_⟩
    · repeat' apply And.intro
      all_goals first | exact True.intro | (simp only [show (⟨#[32]⟩ : ByteArray) = bs [32] from rfl, show (⟨#[44]⟩ : ByteArray) = bs [44] from rfl, bs_append, bs_size, List.length_append, List.length_cons, List.length_nil]; omega)
    conv => whnf
    refine ⟨trivial, ⟨⟨rfl, rfl⟩, fun h s => sub_same s⟩, ?_⟩
    conv => whnf
    rw [bs_append, ← hnx]
    refine ⟨?_, ?_⟩
    · refine ⟨trivial, ?_⟩
      simp only [bs_size, List.length_append, List.length_cons, List.length_nil]
      omega
    conv => whnf
    exact ⟨⟨trivial, by unfold rng; omega⟩, .mk (i + 1) (by omega) (by omega) (Le.of (Nat.le_of_ble_eq_true rfl) (Nat.zero_le _) ⟨⟨rfl, rfl⟩, ⟨rfl, rfl⟩, ⟨rfl, rfl⟩, ⟨rfl, rfl⟩, ⟨rfl, rfl⟩, trivial⟩ ⟨⟨rfl, rfl, rfl, rfl⟩, trivial⟩ fun h s => sub_same s)⟩
  have hi3 : i = m := by simp at h; omega
  have e : x.cells.take i = x.cells := List.take_of_length_le (by omega)
  rw [e]
  clear h sa f0 hlen
  conv => whnf
  repeat (first | (refine ⟨fun _ => ?_, fun h => absurd h (by decide)⟩; conv => whnf) | (refine ⟨fun h => absurd h (by decide), fun _ => ?_⟩; conv => whnf))
  refine ⟨trivial, OpAt.append (.slice (some ⟨g, 0, none⟩) 1 1) 1 1 16 (strV [okT]) (strV x.lines) q.A5 x.lines.length q.c5 _ rfl (fun h s => s) rfl rfl rfl rfl rfl rfl rfl rfl rfl (by decide) (fun w hw => hs.lines w (Sat.rest hw)) (by simp [Value.oneCell']) (by simp only [maxLen]; omega) (by omega) fun A9 c9 => ?_⟩
  conv => whnf
  have e9 : 1 + x.lines.length = (okT :: x.lines).length := by simp; omega
  refine ⟨trivial, .mk _ (fun w s => s) ⟨A9, c9, ?_, ?_⟩⟩
  · rw [← e9]; rfl
  · rw [← e9]; rfl
end Go.Proofs.YteplckkoiffnnaaGreatDoor

/-
  The document's Answer: regions.
-/
namespace Go.Proofs.YteplckkoiffnnaaGreatDoor
open Go.RowKit
open Sy
set_option linter.unusedVariables false
set_option linter.unusedSimpArgs false
set_option maxRecDepth 100000
set_option maxHeartbeats 4000000

theorem rAnswer14 {R : HP} {q : RepA} {x : Rep} (kind : Int) (ok : x.ok) (few : x.few) (hc : x.code = 0) (hs : RepS R q x) (hk : kind = 14) :
    FnR Tryz.prog R 8 [.int .i64 kind, repV q x] [] fun r hs => ∃ A c, r = .slice A (ans kind x).length c ∧ hs = [rowH (.slice A (ans kind x).length c) (ans kind x).length 9 1 (strV (ans kind x))] := by
  have hjl := ansJ_len ok few kind
  have hW : ansW kind x = [Lib.itoa x.n] := by unfold ansW; rw [if_neg (by omega), if_neg (by omega), if_neg (by omega), if_neg (by omega), if_pos hk]
  have hans : ans kind x = (okT ++ w1 x.n) :: x.parts.map prtW := by
    unfold ans
    rw [if_neg (by simp [hc]), hW, jn_ok]
    unfold ansM
    rw [if_pos hk]
  rw [hans]
  clear hans hW
  subst hk
  have hl := w1_len ok.n
  have hpr := fun R' => sRfNumber (R := R') x.n ok.n
  generalize w1 x.n = sn at *
  refine FnR.of_sat fun wP hP => ?_
  obtain ⟨_, sp⟩ := hs.parts.spot (by omega) (sat_base hP)
  have hpv := few.parts
  have fp : ∀ i (h : i < x.parts.length) (j : Nat) u, (prtL x.parts[i])[j]? = some u → (x.parts.flatMap prtL)[i * 8 + j]? = some u := fun i h j u hj => by
    have hjl : j < 8 := (List.getElem?_eq_some_iff.1 hj).1
    rw [flat_at (f := prtL) (s := 8) (fun _ => rfl) h hjl]
    exact hj
  have hokp := ok.parts
  refine FnR.of_sat fun wS hS => ?_
  obtain ⟨_, sa⟩ := hs.cells.spot (by omega) (sat_base hS)
  have f0 : ∀ i (h : i < x.cells.length), (x.cells.flatMap celL)[i * 2]? = some (.int .i64 x.cells[i].1) ∧ (x.cells.flatMap celL)[i * 2 + 1]? = some (.int .i64 x.cells[i].2) := fun i h =>
    ⟨flat_at (f := celL) (s := 2) (fun _ => rfl) (l := x.cells) (i := i) (j := 0) h (by omega), flat_at (f := celL) (s := 2) (fun _ => rfl) (l := x.cells) (i := i) (j := 1) h (by omega)⟩
  have hcn := few.cells
  have hlen := fun i => allC_len ok.cells i hcn
  obtain ⟨m, hm⟩ : ∃ m, x.cells.length = m := ⟨_, rfl⟩
  unfold repV
  rw [hc]
  rw [hm] at sa hcn ⊢
  refine fn_of_run0 false Tryz.func8 rfl hmix rfl fun w0 => ?_
  conv => whnf
  repeat (first | (refine ⟨fun _ => ?_, fun h => absurd h (by decide)⟩; conv => whnf) | (refine ⟨fun h => absurd h (by decide), fun _ => ?_⟩; conv => whnf))
  refine ⟨trivial, OpAt.lit [.string (bs okT)] 1 rfl rfl rfl rfl rfl (by decide) rfl rfl rfl (by simp [Value.cells]) rfl (by decide) fun g => ?_⟩
  conv => whnf
  refine ⟨trivial, LoopAt.keep (α := Nat) [0, 3, 5] (fun i => [(6, .v (.string (bs (allC (x.cells.take i))))), (7, .v (.int .i64 (i : Int)))]) (fun i => i ≤ m) (fun i => m - i) 0 (Nat.zero_le _) rfl ⟨⟨rfl, rfl⟩, ⟨rfl, rfl⟩, trivial⟩ ⟨⟨rfl, rfl⟩, ⟨rfl, rfl⟩, ⟨rfl, rfl⟩, trivial⟩ ⟨⟨rfl, rfl, rfl, rfl⟩, trivial⟩ ?_⟩
  intro i hi
  conv => whnf
  refine ⟨fun h => ?_, fun h => ?_⟩
  · have hi2 : i < m := by simpa using h
    clear hjl
    rcases sa with sa | ⟨ab, off, hqa, sa⟩
    · omega
    rw [hqa]
    have hil : i < x.cells.length := by omega
    obtain ⟨f1, f2⟩ := f0 i hil
    have hnx := allC_next hil
    have hli := hlen i
    have hb := ok.cells _ (List.getElem_mem hil)
    have l1 := w1_len hb.1
    have l2 := itoa_len20 hb.2
    have p1 := fun R' => sRfNumber (R := R') x.cells[i].1 hb.1
    have p2 := fun R' => sRefPrint (R := R') x.cells[i].2 hb.2.1 hb.2.2
    generalize x.cells[i] = z at *
    obtain ⟨zx, zy⟩ := z
    simp only at f1 f2 p1 p2 hnx l1 l2
    generalize allC (x.cells.take i) = t at *
    generalize w1 zx = sx at *
    generalize Lib.itoa zy = sy at *
    conv => whnf
    refine ⟨trivial, RegAt.groups [([.T 0, .T 1, .T 2, .T 3, .T 4, .T 5, .T 6, .T 10, .T 11, .T 12, .T 13, .T 14, .T 15, .H 7, .T 8, .T 9, .H 16], 17), ([.T 17], 18), ([.T 18], 19)] hmix (by kernel_rfl) ?_⟩
    conv => whnf
    refine ⟨⟨trivial, by omega⟩, LoadAt.cell (.int .i64 zx) rfl rfl (fun w hw => ?_) ?_⟩
    · simp only [Int.toNat_natCast]
      exact sa w (Sat.rest hw) _ _ f1
    conv => whnf
    refine ⟨⟨trivial, by omega⟩, LoadAt.cell (.int .i64 zy) rfl rfl (fun w hw => ?_) ?_⟩
    · simp only [Int.toNat_natCast]
      have := sa w (Sat.rest hw) _ _ f2
      rw [← Nat.add_assoc] at this
      exact this
    conv => whnf
    refine ⟨trivial, CallAt.pure (fun R' hR' => p1 R') ?_⟩
    conv => whnf
    refine ⟨trivial, ⟨⟨rfl, rfl⟩, fun h s => sub_same s⟩, ?_⟩
    conv => whnf
    rw [show (⟨#[44]⟩ : ByteArray) = bs [44] from rfl, bs_append, bs_append]
    refine ⟨?_, CallAt.pure (fun R' hR' => p2 R') ?_⟩
    · repeat' apply And.intro
      all_goals first | exact True.intro | (simp only [show (⟨#[32]⟩ : ByteArray) = bs [32] from rfl, show (⟨#[44]⟩ : ByteArray) = bs [44] from rfl, bs_append, bs_size, List.length_append, List.length_cons, List.length_nil]; omega)
    conv => whnf
    refine ⟨trivial, ⟨⟨rfl, rfl⟩, fun h s => sub_same s⟩, ?_⟩
    conv => whnf
    rw [bs_append, ← hnx]
    refine ⟨?_, ?_⟩
    · refine ⟨trivial, ?_⟩
      simp only [bs_size, List.length_append, List.length_cons, List.length_nil]
      omega
    conv => whnf
    exact ⟨⟨trivial, by unfold rng; omega⟩, .mk (i + 1) (by omega) (by omega) (Le.of (Nat.le_of_ble_eq_true rfl) (Nat.zero_le _) ⟨⟨rfl, rfl⟩, ⟨rfl, rfl⟩, ⟨rfl, rfl⟩, ⟨rfl, rfl⟩, ⟨rfl, rfl⟩, trivial⟩ ⟨⟨rfl, rfl, rfl, rfl⟩, trivial⟩ fun h s => sub_same s)⟩
  have hi3 : i = m := by simp at h; omega
  have e : x.cells.take i = x.cells := List.take_of_length_le (by omega)
  rw [e]
  clear h sa f0 hlen hi3 e hi
  clear hm hS wS
  conv => whnf
  repeat (first | (refine ⟨fun _ => ?_, fun h => absurd h (by decide)⟩; conv => whnf) | (refine ⟨fun h => absurd h (by decide), fun _ => ?_⟩; conv => whnf))
  refine ⟨trivial, CallAt.pure (fun R' hR' => hpr R') ?_⟩
  conv => whnf
  rw [show (⟨#[111, 107]⟩ : ByteArray) = bs okT from rfl, bs_append]
  refine ⟨?_, OpAt.store (A' := rowH (.slice (some ⟨g, 0, none⟩) 1 1) 1 9 1 [.string (bs (okT ++ sn))]) g 0 (.string (bs (okT ++ sn))) [] rfl (fun h s => s) rfl rfl rfl rfl rfl (by simp [Value.cells, Value.oneCell']) (fun h r => row_put (off := 0) (ys := [.string (bs (okT ++ sn))]) (by simp) r) ?_⟩
  · repeat' apply And.intro
    all_goals first | exact True.intro | decide | omega | (simp only [show (⟨#[111, 107]⟩ : ByteArray) = bs okT from rfl, bs_append, bs_size, List.length_append, List.length_cons, List.length_nil, okT]; omega)
  conv => whnf
  obtain ⟨m2, hm2⟩ : ∃ m2, x.parts.length = m2 := ⟨_, rfl⟩
  rw [hm2] at sp hpv ⊢
  refine ⟨trivial, LoopAt.heap (α := Nat × Option Addr × Nat) [3] (fun a => [(5, .v (.slice a.2.1 (1 + a.1) a.2.2)), (8, .v (.int .i64 (a.1 : Int)))]) (fun a => [rowH (.slice a.2.1 (1 + a.1) a.2.2) (1 + a.1) 9 1 (strV ((okT ++ sn) :: (x.parts.take a.1).map prtW))]) (fun a => a.1 ≤ m2) (fun a => m2 - a.1) (0, some ⟨g, 0, none⟩, 1) (Nat.zero_le _) rfl ⟨⟨rfl, rfl⟩, ⟨rfl, rfl⟩, trivial⟩ ⟨⟨rfl, rfl⟩, trivial⟩ ⟨⟨rfl, rfl, rfl, rfl⟩, trivial⟩ (fun h s => sub_same s) ?_⟩
  rintro ⟨i, B, cb⟩ hi'
  simp only at hi'
  conv => whnf
  refine ⟨fun h => ?_, fun h => ?_⟩
  · have hi2 : i < m2 := by simpa using h
    rcases sp with sp | ⟨ab, off, hq3, sp⟩
    · omega
    rw [hq3]
    have hil : i < x.parts.length := by omega
    have f1 := fp i hil
    have f3 : strV ((okT ++ sn) :: (x.parts.take (i + 1)).map prtW) = strV ((okT ++ sn) :: (x.parts.take i).map prtW) ++ [.string (bs (prtW x.parts[i]))] := by
      rw [List.take_succ_eq_append_getElem hil, List.map_append]
      show strV (((okT ++ sn) :: (x.parts.take i).map prtW) ++ [prtW x.parts[i]]) = _
      unfold strV
      rw [List.map_append]
      rfl
    have hb := hokp _ (List.getElem_mem hil)
    have hl1 := itoa_len20 hb.l
    have hl2 := w1_len hb.a
    have hl3 : (wds 32 [Lib.itoa x.parts[i].fx, Lib.itoa x.parts[i].fy]).length ≤ 44 := by
      have h1 := itoa_len20 hb.fx
      have h2 := itoa_len20 hb.fy
      simp [wds]; omega
    have hl4 : (wds 32 [Lib.itoa x.parts[i].x0, Lib.itoa x.parts[i].y0, Lib.itoa x.parts[i].x1, Lib.itoa x.parts[i].y1]).length ≤ 88 := by
      have h1 := itoa_len20 hb.x0
      have h2 := itoa_len20 hb.y0
      have h3 := itoa_len20 hb.x1
      have h4 := itoa_len20 hb.y1
      simp [wds]; omega
    have q1 := fun R' => sRefPrint (R := R') x.parts[i].l hb.l.1 hb.l.2
    have q2 := fun R' => sRfNumber (R := R') x.parts[i].a hb.a
    have q3 := fun R' => sRfCell (R := R') x.parts[i].fx x.parts[i].fy hb.fx hb.fy
    have q4 := fun R' => sRfRect (R := R') x.parts[i].x0 x.parts[i].y0 x.parts[i].x1 x.parts[i].y1 hb.x0 hb.y0 hb.x1 hb.y1
    have hpw : prtW x.parts[i] = Lib.itoa x.parts[i].l ++ w1 x.parts[i].a ++ wds 32 [Lib.itoa x.parts[i].fx, Lib.itoa x.parts[i].fy] ++ wds 32 [Lib.itoa x.parts[i].x0, Lib.itoa x.parts[i].y0, Lib.itoa x.parts[i].x1, Lib.itoa x.parts[i].y1] := by
      simp [prtW, prtN, jn_cons, wds]
    generalize x.parts[i] = p at *
    generalize strV ((okT ++ sn) :: (x.parts.take i).map prtW) = us at *
    generalize Lib.itoa p.l = t1 at *
    generalize w1 p.a = t2 at *
    generalize wds 32 [Lib.itoa p.fx, Lib.itoa p.fy] = t3 at *
    generalize wds 32 [Lib.itoa p.x0, Lib.itoa p.y0, Lib.itoa p.x1, Lib.itoa p.y1] = t4 at *
    generalize prtW p = pw at *
    conv => whnf
    refine ⟨⟨trivial, by simp only; omega⟩, LoadAt.agg (prtL p) rfl rfl rfl (fun w hw j u hj => ?_) ?_⟩
    · simp only [Int.toNat_natCast, Nat.add_assoc]
      exact sp w (Sat.rest hw) _ _ (f1 j u hj)
    conv => whnf
    refine ⟨trivial, RegAt.groups [([.T 0, .T 1, .T 2, .T 4, .T 5, .T 8, .T 9, .T 12, .T 13, .H 3, .H 6, .T 7, .H 10, .T 11, .H 14, .T 15, .H 16], 17), ([.H 17], 18), ([.T 18], 19)] hmix (by kernel_rfl) ?_⟩
    conv => whnf
    refine ⟨trivial, CallAt.pure (fun R' hR' => q1 R') ?_⟩
    conv => whnf
    refine ⟨trivial, ⟨⟨rfl, rfl⟩, fun h s => sub_same s⟩, ?_⟩
    conv => whnf
    refine ⟨trivial, CallAt.pure (fun R' hR' => q2 R') ?_⟩
    conv => whnf
    refine ⟨trivial, ⟨⟨rfl, rfl⟩, fun h s => sub_same s⟩, ?_⟩
    conv => whnf
    rw [bs_append]
    refine ⟨?_, CallAt.pure (fun R' hR' => q3 R') ?_⟩
    · repeat' apply And.intro
      all_goals first | exact True.intro | decide | omega | (simp only [show (⟨#[111, 107]⟩ : ByteArray) = bs okT from rfl, bs_append, bs_size, List.length_append, List.length_cons, List.length_nil, okT]; omega)
    conv => whnf
    refine ⟨trivial, ⟨⟨rfl, rfl⟩, fun h s => sub_same s⟩, ?_⟩
    conv => whnf
    rw [bs_append]
    refine ⟨?_, CallAt.pure (fun R' hR' => q4 R') ?_⟩
    · repeat' apply And.intro
      all_goals first | exact True.intro | decide | omega | (simp only [show (⟨#[111, 107]⟩ : ByteArray) = bs okT from rfl, bs_append, bs_size, List.length_append, List.length_cons, List.length_nil, okT]; omega)
    conv => whnf
    refine ⟨trivial, ⟨⟨rfl, rfl⟩, fun h s => sub_same s⟩, ?_⟩
    conv => whnf
    rw [bs_append, ← hpw]
    refine ⟨?_, OpAt.lit [.string (bs pw)] 1 rfl rfl rfl rfl rfl (by decide) rfl rfl rfl (by simp [Value.cells]) rfl (by decide) fun g4 => ?_⟩
    · repeat' apply And.intro
      all_goals first | exact True.intro | decide | omega | (simp only [show (⟨#[111, 107]⟩ : ByteArray) = bs okT from rfl, bs_append, bs_size, List.length_append, List.length_cons, List.length_nil, okT]; omega)
    conv => whnf
    refine ⟨trivial, ⟨⟨rfl, rfl⟩, fun h s => sub_tail s⟩, ?_⟩
    conv => whnf
    refine ⟨trivial, OpAt.append (.slice B (1 + i) cb) (1 + i) 1 16 us [.string (bs pw)] (some ⟨g4, 0, none⟩) 1 1 _ rfl (fun h s => sepL_pull 1 s) rfl rfl rfl rfl rfl rfl rfl rfl rfl (by decide) (fun w hw => rowH_reads rfl (hw.in_ 0 rfl)) (by simp [Value.oneCell']) (by simp only [maxLen]; omega) (by omega) fun B' cb' => ?_⟩
    conv => whnf
    refine ⟨trivial, ?_⟩
    conv => whnf
    rw [show 1 + i + 1 = 1 + (i + 1) by omega]
    refine ⟨⟨trivial, by unfold rng; simp only; omega⟩, Next.heap (i + 1, B', cb') (by simp only; omega) (by simp only; omega) ⟨⟨rfl, rfl⟩, ⟨rfl, rfl⟩, trivial⟩ ⟨⟨rfl, rfl⟩, trivial⟩ ⟨⟨rfl, rfl, rfl, rfl⟩, trivial⟩ rfl rfl fun h s => ?_⟩
    obtain ⟨h', e, s'⟩ := sub_drop1 s
    refine ⟨h', e, ?_⟩
    show sepL [rowH (.slice B' (1 + (i + 1)) cb') (1 + (i + 1)) 9 1 (strV ((okT ++ sn) :: (x.parts.take (i + 1)).map prtW))] R h'
    rw [f3]
    exact s'
  · have hi3 : i = m2 := by simp at h; omega
    have e0 : x.parts.take i = x.parts := List.take_of_length_le (by omega)
    rw [e0]
    subst hi3
    have e9 : 1 + i = ((okT ++ sn) :: x.parts.map prtW).length := by simp; omega
    rw [e9]
    conv => whnf
    exact ⟨trivial, .mk _ (fun w s => s) ⟨_, _, rfl, rfl⟩⟩
end Go.Proofs.YteplckkoiffnnaaGreatDoor

