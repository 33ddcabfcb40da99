/-
  Texts of the proofs, one behind the other: ScRa, ScRe, TintAny.
-/
import Derived.Test.YtihkhomnhggifaaGreatDoorSPg23
import Derived.Test.YtihkhomnhggifaaGreatDoorSPg24
import Derived.Test.YtihkhomnhggifaaGreatDoorSPg13
import Derived.Test.YtihkhomnhggifaaGreatDoorSPg19
/-
  The document's Answer: what the reply's cells come to; the head.
-/
namespace Go.Proofs.YtihkhomnhggifaaGreatDoor
open Go.RowKit
open Sy
set_option linter.unusedVariables false
set_option linter.unusedSimpArgs false
set_option maxRecDepth 100000
set_option maxHeartbeats 4000000

/-- all cells, each behind a blank -/
def allC (l : List (Int × Int)) : List UInt8 := wds 32 (l.map celW)
theorem allC_next {l : List (Int × Int)} {i : Nat} (hi : i < l.length) : allC (l.take (i + 1)) = allC (l.take i) ++ w1 l[i].1 ++ [44] ++ Lib.itoa l[i].2 := by
  unfold allC
  rw [List.take_succ_eq_append_getElem hi, List.map_append, wds_append]
  simp [wds, celW]
theorem allC_len {l : List (Int × Int)} (h : ∀ x ∈ l, I64 x.1 ∧ I64 x.2) (i : Nat) (hl : l.length ≤ 500) : (allC (l.take i)).length ≤ 30000 := by
  unfold allC
  have := wds_len (c := 32) (ws := (l.take i).map celW) (m := 43) fun w hw => by
    obtain ⟨c, hc, rfl⟩ := List.mem_map.1 hw
    have h1 := itoa_len20 (h c (List.mem_of_mem_take hc)).1
    have h2 := itoa_len20 (h c (List.mem_of_mem_take hc)).2
    simp [celW]; omega
  have h3 : ((l.take i).map celW).length ≤ 500 := by simp; omega
  omega
theorem jn_ok (ws : List (List UInt8)) : jn 32 (okT :: ws) = okT ++ wds 32 ws := jn_cons 32 okT ws
end Go.Proofs.YtihkhomnhggifaaGreatDoor

/-
  The document's Answer: regions.
-/
namespace Go.Proofs.YtihkhomnhggifaaGreatDoor
open Go.RowKit
open Sy
set_option linter.unusedVariables false
set_option linter.unusedSimpArgs false
set_option maxRecDepth 100000
set_option maxHeartbeats 4000000

end Go.Proofs.YtihkhomnhggifaaGreatDoor

/-
  The document's Print of any bands.
-/
namespace Go.Proofs.YtihkhomnhggifaaGreatDoor
open Go.RowKit
open Sy
set_option linter.unusedVariables false
set_option linter.unusedSimpArgs false
set_option maxRecDepth 100000
set_option maxHeartbeats 4000000

/-- a number's last byte -/
def w8 (z : Int) : UInt8 := u8 (IntKind.u8.wrap z).toNat
theorem w8_int (z : Int) : (((w8 z).toNat : Nat) : Int) = IntKind.u8.wrap z := by
  have h : 0 ≤ IntKind.u8.wrap z ∧ IntKind.u8.wrap z < 256 := by
    simp [IntKind.wrap, IntKind.bits, IntKind.signed]
    omega
  unfold w8
  rw [u8_nat (by omega)]
  omega
def bytA (r : Int) : List UInt8 := if r < 128 then [w8 r] else if r < 2048 then [w8 (192 + r / 64), w8 (128 + r % 64)] else [w8 (224 + r / 4096), w8 (128 + r / 64 % 64), w8 (128 + r % 64)]
theorem bytA_len (r : Int) : 1 ≤ (bytA r).length ∧ (bytA r).length ≤ 3 := by
  unfold bytA
  repeat' split
  all_goals simp
def bandA (b : Bd) : List UInt8 := Lib.itoa b.f ++ 58 :: bytA b.s
def printA (l : List Bd) : List UInt8 := jn 44 (l.map bandA)
theorem sBytesAny {R : HP} (r : Int) (hr : I32 r) : FnR Tryz.prog R 41 [.int .i32 r] [] fun v hs => ∃ g, v = .slice (some ⟨g, 0, none⟩) (bytA r).length (bytA r).length ∧ hs = [rowH (.slice (some ⟨g, 0, none⟩) (bytA r).length (bytA r).length) (bytA r).length 5 1 (byV (bytA r))] := by
  unfold I32 at hr
  by_cases h1 : r < 128
  · have e : bytA r = [w8 r] := by unfold bytA; rw [if_pos h1]
    have e2 : byV [w8 r] = [.int .u8 (IntKind.u8.wrap r)] := by simp only [byV, List.map_cons, List.map_nil, w8_int]
    rw [e, e2]
    refine fn_of_run0 true Tryz.func41 rfl hmix rfl fun w0 => ?_
    conv => whnf
    refine iff_t (decide_eq_true h1) ?_
    conv => whnf
    refine ⟨trivial, OpAt.lit [.int .u8 (IntKind.u8.wrap r)] 1 rfl rfl rfl rfl rfl (by decide) rfl rfl rfl (by simp [Value.cells]) rfl (by decide) fun g => ?_⟩
    conv => whnf
    exact ⟨trivial, .mk _ (fun w s => s) ⟨_, rfl, rfl⟩⟩
  · by_cases h2 : r < 2048
    · have e : bytA r = [w8 (192 + r / 64), w8 (128 + r % 64)] := by unfold bytA; rw [if_neg h1, if_pos h2]
      have e2 : byV [w8 (192 + r / 64), w8 (128 + r % 64)] = [.int .u8 (IntKind.u8.wrap (192 + r / 64)), .int .u8 (IntKind.u8.wrap (128 + r % 64))] := by simp only [byV, List.map_cons, List.map_nil, w8_int]
      rw [e, e2]
      refine fn_of_run0 true Tryz.func41 rfl hmix rfl fun w0 => ?_
      conv => whnf
      refine iff_f (decide_eq_false h1) ?_
      conv => whnf
      refine iff_t (decide_eq_true h2) ?_
      conv => whnf
      have q1 : Int.tdiv r 64 = r / 64 := Int.tdiv_eq_ediv_of_nonneg (by omega)
      have q2 : Int.tmod r 64 = r % 64 := Int.tmod_eq_emod_of_nonneg (by omega)
      refine ⟨?_, OpAt.lit [.int .u8 (IntKind.u8.wrap (192 + r / 64)), .int .u8 (IntKind.u8.wrap (128 + r % 64))] 1 rfl rfl rfl rfl rfl (by decide) rfl rfl ?_ (by simp [Value.cells]) rfl (by decide) fun g => ?_⟩
      · rw [q1, q2]
        repeat' apply And.intro
        all_goals first | exact True.intro | decide | exact i32_inN (by omega) | (unfold rng; omega) | omega
      · simp only [List.map, evR, getT]
        rw [q1, q2]
      conv => whnf
      exact ⟨trivial, .mk _ (fun w s => s) ⟨_, rfl, rfl⟩⟩
    · have e : bytA r = [w8 (224 + r / 4096), w8 (128 + r / 64 % 64), w8 (128 + r % 64)] := by unfold bytA; rw [if_neg h1, if_neg h2]
      have e2 : byV [w8 (224 + r / 4096), w8 (128 + r / 64 % 64), w8 (128 + r % 64)] = [.int .u8 (IntKind.u8.wrap (224 + r / 4096)), .int .u8 (IntKind.u8.wrap (128 + r / 64 % 64)), .int .u8 (IntKind.u8.wrap (128 + r % 64))] := by simp only [byV, List.map_cons, List.map_nil, w8_int]
      rw [e, e2]
      refine fn_of_run0 true Tryz.func41 rfl hmix rfl fun w0 => ?_
      conv => whnf
      refine iff_f (decide_eq_false h1) ?_
      conv => whnf
      refine iff_f (decide_eq_false h2) ?_
      conv => whnf
      have q1 : Int.tdiv r 4096 = r / 4096 := Int.tdiv_eq_ediv_of_nonneg (by omega)
      have q2 : Int.tdiv r 64 = r / 64 := Int.tdiv_eq_ediv_of_nonneg (by omega)
      have q3 : Int.tmod (r / 64) 64 = r / 64 % 64 := Int.tmod_eq_emod_of_nonneg (by omega)
      have q4 : Int.tmod r 64 = r % 64 := Int.tmod_eq_emod_of_nonneg (by omega)
      refine ⟨?_, OpAt.lit [.int .u8 (IntKind.u8.wrap (224 + r / 4096)), .int .u8 (IntKind.u8.wrap (128 + r / 64 % 64)), .int .u8 (IntKind.u8.wrap (128 + r % 64))] 1 rfl rfl rfl rfl rfl (by decide) rfl rfl ?_ (by simp [Value.cells]) rfl (by decide) fun g => ?_⟩
      · rw [q1, q2, q3, q4]
        repeat' apply And.intro
        all_goals first | exact True.intro | decide | exact i32_inN (by omega) | (unfold rng; omega) | omega
      · simp only [List.map, evR, getT]
        rw [q1, q2, q3, q4]
      conv => whnf
      exact ⟨trivial, .mk _ (fun w s => s) ⟨_, rfl, rfl⟩⟩
theorem wds_snoc (c : UInt8) (ps : List (List UInt8)) (p : List UInt8) : wds c (ps ++ [p]) = wds c ps ++ c :: p := by
  rw [wds_append, wds_cons, wds_nil, List.append_nil]
theorem printA_next {l : List Bd} {i : Nat} (h : i < l.length) : printA (l.take (i + 1)) = (if 0 < i then printA (l.take i) ++ [44] else printA (l.take i)) ++ Lib.itoa (bF l i) ++ [58] ++ bytA (bS l i) := by
  have hb : bandA l[i] = Lib.itoa (bF l i) ++ [58] ++ bytA (bS l i) := by
    rw [bF_eq h, bS_eq h]
    simp [bandA]
  unfold printA
  rw [List.take_succ_eq_append_getElem h, List.map_append, List.map_cons, List.map_nil, hb]
  by_cases h0 : 0 < i
  · rw [if_pos h0]
    obtain ⟨a, l', hl⟩ : ∃ a l', (l.take i).map bandA = a :: l' := by
      cases hc : (l.take i).map bandA with
      | nil =>
        have := congrArg List.length hc
        rw [List.length_map, List.length_take, List.length_nil] at this
        omega
      | cons a l' => exact ⟨a, l', rfl⟩
    rw [hl, List.cons_append, jn_cons, jn_cons, wds_snoc]
    simp
  · rw [if_neg h0]
    have : i = 0 := by omega
    subst this
    simp [jn_one, jn_nil]
theorem printA_le : ∀ {l : List Bd}, (∀ b ∈ l, I64 b.f) → (printA l).length ≤ 26 * l.length := by
  intro l h
  have key : ∀ l : List Bd, (∀ b ∈ l, I64 b.f) → (wds 44 (l.map bandA)).length ≤ 26 * l.length := by
    intro l h
    induction l with
    | nil => simp [wds]
    | cons b l ih =>
      have h1 := ih fun x hx => h x (List.mem_cons_of_mem _ hx)
      have h2 := itoa_len20 (h b (by simp))
      have h3 := (bytA_len b.s).2
      rw [List.map_cons, wds_cons]
      simp only [bandA, List.length_cons, List.length_append]
      omega
  unfold printA
  cases l with
  | nil => simp [jn_nil]
  | cons b l =>
    have := key (b :: l) h
    rw [List.map_cons, wds_cons] at this
    rw [List.map_cons, jn_cons]
    simp only [List.length_cons] at this ⊢
    omega
theorem sRPrint33Any {R : HP} {A : Option Addr} {n c : Nat} {l : List Bd} (hn : n ≤ 40) (ha : Sl R A n 2 (bcel l)) (hg : ∀ b ∈ l, I64 b.f ∧ I32 b.s) : PureR Tryz.prog R 23 [.slice A n c] (.string (bs (printA l))) := by
  refine PureR.of_sat fun w hs => ?_
  obtain ⟨hl, sa⟩ := ha.spot (by omega) hs
  rw [bcel_len] at hl
  have e1 : l.length = n := by omega
  clear hs hl
  have hlen : ∀ i, i ≤ n → (printA (l.take i)).length ≤ 1100 := fun i hi => by
    have := printA_le (l := l.take i) fun x hx => (hg x (List.mem_of_mem_take hx)).1
    rw [List.length_take] at this
    omega
  refine fn_of_run0 false Tryz.func23 rfl hmix rfl fun w0 => ?_
  conv => whnf
  refine ⟨trivial, LoopAt.of (α := Nat) [0] (fun i => [(3, .v (.string (bs (printA (l.take i))))), (4, .v (.int .i64 (i : Int)))]) (fun _ => []) (fun _ => []) (fun i => i ≤ n) (fun i => n - i) 0 (Nat.zero_le _)
    (Le.of (Nat.le_of_ble_eq_true rfl) (Nat.zero_le _) ⟨⟨rfl, rfl⟩, ⟨rfl, rfl⟩, ⟨rfl, rfl⟩, trivial⟩ trivial fun h s => sub_same s) ?_⟩
  intro i hi
  conv => whnf
  refine ⟨fun h3 => ?_, fun h3 => ?_⟩
  · have g3 : i < n := by simpa using h3
    rcases sa with sa | ⟨b, off, rfl, sa⟩
    · omega
    have hcl : ∀ w, Sat R w → w.cell? ⟨b, off + i * 2, none⟩ = some (.int .i64 (bF l i)) ∧ w.cell? ⟨b, off + i * 2 + 1, none⟩ = some (.int .i32 (bS l i)) := fun w s => by
      obtain ⟨f1, f2⟩ := bcel_F (l := l) (i := i) (by omega)
      exact ⟨sa w s _ _ f1, by rw [Nat.add_assoc]; exact sa w s _ _ f2⟩
    have hnx := printA_next (l := l) (i := i) (by omega)
    have hli := hlen i hi
    have hgood := hg _ (List.getElem_mem (show i < l.length by omega))
    rw [← bF_eq (by omega), ← bS_eq (by omega)] at hgood
    have hf64 := hgood.1
    have hsg := hgood.2
    generalize bF l i = x at *
    generalize bS l i = cn at *
    have hpr := fun R' => sRefPrint (R := R') x hf64.1 hf64.2
    have hil := itoa_len20 hf64
    have hul := bytA_len cn
    generalize printA (l.take i) = q at *
    conv => whnf
    refine ⟨fun h4 => ?_, fun h4 => ?_⟩
    · have h4 : 0 < i := by simpa using h4
      rw [if_pos h4] at hnx
      conv => whnf
      rw [show bs q ++ (⟨#[44]⟩ : ByteArray) = bs (q ++ [44]) from bs_append q [44]]
      refine ⟨⟨trivial, by rw [bs_size]; show _ + 1 ≤ _; omega⟩, RegAt.groups [([.T 0, .T 1, .T 2, .T 3, .T 4, .T 5, .T 9, .T 10, .T 11, .T 12, .T 13, .H 6, .T 7, .T 8, .H 14, .H 15], 16), ([.T 16], 17), ([.T 17], 18)] hmix (by kernel_rfl) ?_⟩
      conv => whnf
      refine ⟨⟨trivial, by omega⟩, LoadAt.cell (.int .i64 x) rfl rfl (fun w hw => ?_) ?_⟩
      · rw [Int.toNat_natCast]; exact (hcl w hw).1
      conv => whnf
      refine ⟨⟨trivial, by omega⟩, LoadAt.cell (.int .i32 cn) rfl rfl (fun w hw => ?_) ?_⟩
      · rw [Int.toNat_natCast]; exact (hcl w hw).2
      conv => whnf
      refine ⟨trivial, CallAt.pure (fun R' hR' => hpr R') ?_⟩
      conv => whnf
      refine ⟨trivial, ⟨⟨rfl, rfl⟩, fun h s => sub_same s⟩, ?_⟩
      conv => whnf
      rw [show (⟨#[58]⟩ : ByteArray) = bs [58] from rfl, bs_append, bs_append]
      refine ⟨⟨⟨trivial, by simp only [bs_size, List.length_append, List.length_cons, List.length_nil]; omega⟩, by simp only [bs_size, List.length_append, List.length_cons, List.length_nil]; omega⟩, CallAt.fn (pre := []) _ (fun h s => s) (fun R' _ => sBytesAny cn hsg) ?_⟩
      rintro r hs ⟨g, rfl, rfl⟩
      conv => whnf
      refine ⟨trivial, ⟨⟨rfl, rfl⟩, fun h s => sub_tail s⟩, ?_⟩
      conv => whnf
      refine ⟨trivial, OpAt.bytesStr g (bytA cn).length (bytA cn).length (bytA cn) [] rfl (fun h s => s) rfl rfl rfl rfl rfl ?_⟩
      conv => whnf
      refine ⟨trivial, ⟨⟨rfl, rfl⟩, fun h s => sub_tail s⟩, ?_⟩
      conv => whnf
      rw [bs_append, show (q ++ [44]) ++ Lib.itoa x ++ [58] ++ bytA cn = printA (l.take (i + 1)) by rw [hnx]]
      refine ⟨?_, ?_⟩
      · refine ⟨trivial, ?_⟩
        simp only [bs_size, List.length_append, List.length_cons, List.length_nil]
        omega
      conv => whnf
      refine ⟨⟨trivial, by unfold rng; omega⟩, .mk (i + 1) (by omega) (by omega) (Le.of (Nat.le_of_ble_eq_true rfl) (Nat.zero_le _) ⟨⟨rfl, rfl⟩, ⟨rfl, rfl⟩, ⟨rfl, rfl⟩, trivial⟩ trivial fun h s => sub_nil s)⟩
    · have h4 : ¬ 0 < i := by simpa using h4
      rw [if_neg h4] at hnx
      refine ⟨trivial, RegAt.groups [([.T 0, .T 1, .T 2, .T 3, .T 4, .T 5, .T 9, .T 10, .T 11, .T 12, .T 13, .H 6, .T 7, .T 8, .H 14, .H 15], 16), ([.T 16], 17), ([.T 17], 18)] hmix (by kernel_rfl) ?_⟩
      conv => whnf
      refine ⟨⟨trivial, by omega⟩, LoadAt.cell (.int .i64 x) rfl rfl (fun w hw => ?_) ?_⟩
      · rw [Int.toNat_natCast]; exact (hcl w hw).1
      conv => whnf
      refine ⟨⟨trivial, by omega⟩, LoadAt.cell (.int .i32 cn) rfl rfl (fun w hw => ?_) ?_⟩
      · rw [Int.toNat_natCast]; exact (hcl w hw).2
      conv => whnf
      refine ⟨trivial, CallAt.pure (fun R' hR' => hpr R') ?_⟩
      conv => whnf
      refine ⟨trivial, ⟨⟨rfl, rfl⟩, fun h s => sub_same s⟩, ?_⟩
      conv => whnf
      rw [show (⟨#[58]⟩ : ByteArray) = bs [58] from rfl, bs_append, bs_append]
      refine ⟨⟨⟨trivial, by simp only [bs_size, List.length_append, List.length_cons, List.length_nil]; omega⟩, by simp only [bs_size, List.length_append, List.length_cons, List.length_nil]; omega⟩, CallAt.fn (pre := []) _ (fun h s => s) (fun R' _ => sBytesAny cn hsg) ?_⟩
      rintro r hs ⟨g, rfl, rfl⟩
      conv => whnf
      refine ⟨trivial, ⟨⟨rfl, rfl⟩, fun h s => sub_tail s⟩, ?_⟩
      conv => whnf
      refine ⟨trivial, OpAt.bytesStr g (bytA cn).length (bytA cn).length (bytA cn) [] rfl (fun h s => s) rfl rfl rfl rfl rfl ?_⟩
      conv => whnf
      refine ⟨trivial, ⟨⟨rfl, rfl⟩, fun h s => sub_tail s⟩, ?_⟩
      conv => whnf
      rw [bs_append, show q ++ Lib.itoa x ++ [58] ++ bytA cn = printA (l.take (i + 1)) by rw [hnx]]
      refine ⟨?_, ?_⟩
      · refine ⟨trivial, ?_⟩
        simp only [bs_size, List.length_append, List.length_cons, List.length_nil]
        omega
      conv => whnf
      refine ⟨⟨trivial, by unfold rng; omega⟩, .mk (i + 1) (by omega) (by omega) (Le.of (Nat.le_of_ble_eq_true rfl) (Nat.zero_le _) ⟨⟨rfl, rfl⟩, ⟨rfl, rfl⟩, ⟨rfl, rfl⟩, trivial⟩ trivial fun h s => sub_nil s)⟩
  · have g3 : i = n := by simp at h3; omega
    subst g3
    have e : l.take i = l := List.take_of_length_le (by omega)
    rw [e]
    conv => whnf
    exact ⟨trivial, fin_pure rfl rfl⟩
end Go.Proofs.YtihkhomnhggifaaGreatDoor

