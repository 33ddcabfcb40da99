/-
  Texts of the proofs, one behind the other: TintH, TintI, TintJ, TintK, TintL, TintM.
-/
import Derived.Test.YtkichbggmgppmaaDoorPartU
import Derived.Test.YtkichbggmgppmaaDoorPartX
import Derived.Test.YtkichbggmgppmaaDoorPartB
/-
  strings.Builder: a sign is written; the string is handed out.
-/
namespace Go.Proofs.YtkichbggmgppmaaDoor
open Go.RowKit
open Sy
set_option linter.unusedVariables false
set_option linter.unusedSimpArgs false
set_option maxRecDepth 100000
set_option maxHeartbeats 4000000

theorem or192 : ∀ q : Fin 32, bits .or .u8 192 ((q.val : Nat) : Int) = ((192 + q.val : Nat) : Int) := by decide
theorem or224 : ∀ q : Fin 16, bits .or .u8 224 ((q.val : Nat) : Int) = ((224 + q.val : Nat) : Int) := by decide
theorem or128 : ∀ q : Fin 64, bits .or .u8 128 ((q.val : Nat) : Int) = ((128 + q.val : Nat) : Int) := by decide
theorem and63 : ∀ q : Fin 256, bits .and .u8 ((q.val : Nat) : Int) 63 = ((q.val % 64 : Nat) : Int) := by decide +kernel
theorem u8_wrapN (y : Nat) : IntKind.u8.wrap (y : Int) = ((y % 256 : Nat) : Int) := by simp [IntKind.wrap, IntKind.bits, IntKind.signed]
theorem lead192 {x : Nat} (h : x < 2048) : bits .or .u8 192 (IntKind.u8.wrap ((x : Int) / 2 ^ Int.toNat 6)) = ((192 + x / 64 : Nat) : Int) := by
  rw [show (x : Int) / 2 ^ Int.toNat 6 = ((x / 64 : Nat) : Int) by show (x : Int) / 64 = _; omega, u8_wrapN, Nat.mod_eq_of_lt (by omega)]
  exact or192 ⟨x / 64, by omega⟩
theorem lead224 {x : Nat} (h : x < 65536) : bits .or .u8 224 (IntKind.u8.wrap ((x : Int) / 2 ^ Int.toNat 12)) = ((224 + x / 4096 : Nat) : Int) := by
  rw [show (x : Int) / 2 ^ Int.toNat 12 = ((x / 4096 : Nat) : Int) by show (x : Int) / 4096 = _; omega, u8_wrapN, Nat.mod_eq_of_lt (by omega)]
  exact or224 ⟨x / 4096, by omega⟩
theorem contN (y : Nat) : bits .or .u8 128 (bits .and .u8 (IntKind.u8.wrap (y : Int)) 63) = ((128 + y % 64 : Nat) : Int) := by
  rw [u8_wrapN]
  have h1 := and63 ⟨y % 256, by omega⟩
  simp only at h1
  rw [h1]
  have h2 := or128 ⟨y % 256 % 64, by omega⟩
  simp only at h2
  rw [h2]
  congr 2
  omega
theorem div64N (x : Nat) : (x : Int) / 2 ^ Int.toNat 6 = ((x / 64 : Nat) : Int) := by show (x : Int) / 64 = _; omega
theorem utf2 {x : Nat} (h1 : 128 ≤ x) (h2 : x < 2048) : byV (utfN x) = [.int .u8 ((192 + x / 64 : Nat) : Int), .int .u8 ((128 + x % 64 : Nat) : Int)] := by
  unfold utfN
  rw [if_neg (by omega), if_pos h2]
  simp only [byV, List.map_cons, List.map_nil, u8_nat (show 192 + x / 64 < 256 by omega), u8_nat (show 128 + x % 64 < 256 by omega)]
theorem utf3 {x : Nat} (h1 : 2048 ≤ x) (h2 : x < 65536) : byV (utfN x) = [.int .u8 ((224 + x / 4096 : Nat) : Int), .int .u8 ((128 + x / 64 % 64 : Nat) : Int), .int .u8 ((128 + x % 64 : Nat) : Int)] := by
  unfold utfN
  rw [if_neg (by omega), if_neg (by omega)]
  simp only [byV, List.map_cons, List.map_nil, u8_nat (show 224 + x / 4096 < 256 by omega), u8_nat (show 128 + x / 64 % 64 < 256 by omega), u8_nat (show 128 + x % 64 < 256 by omega)]
theorem sAppendRuneN {R : HP} {A : Option Addr} {n c : Nat} {xs : List Value} (x : Nat) (hx : SignN x) (h128 : 128 ≤ x) (hn : n ≤ 1000000) :
    FnR Tryd.prog R 96 [.slice A n c, .int .i32 (x : Int)] [rowH (.slice A n c) n 5 1 xs] fun r hs => ∃ A' c', r = .slice A' (n + (utfN x).length) c' ∧ hs = [rowH (.slice A' (n + (utfN x).length) c') (n + (utfN x).length) 5 1 (xs ++ byV (utfN x))] := by
  unfold SignN at hx
  have w1 : IntKind.u32.wrap (x : Int) = (x : Int) := IntWalk.u32_in _ ⟨by omega, by omega⟩
  by_cases h2 : x < 2048
  · have hl : (utfN x).length = 2 := by unfold utfN; rw [if_neg (by omega), if_pos h2]; rfl
    rw [hl, utf2 h128 h2]
    refine fn_of_run0 false Tryd.func96 rfl hmix rfl fun w0 => ?_
    conv => whnf
    rw [w1]
    refine iff_t (decide_eq_true (by omega)) ?_
    conv => whnf
    refine ⟨⟨trivial, by decide, by decide⟩, OpAt.lit [.int .u8 ((192 + x / 64 : Nat) : Int), .int .u8 ((128 + x % 64 : Nat) : Int)] 1 rfl rfl rfl rfl rfl (by decide) rfl rfl ?_ (by simp [Value.cells]) rfl (by decide) fun g => ?_⟩
    · simp only [List.map, evR, getT]
      rw [lead192 h2, contN]
    conv => whnf
    refine ⟨trivial, OpAt.append1 (.slice A n c) n 1 1 xs [.int .u8 ((192 + x / 64 : Nat) : Int), .int .u8 ((128 + x % 64 : Nat) : Int)] (some ⟨g, 0, none⟩) 2 2 _ rfl (fun h s => sepL_pull 1 s) rfl rfl rfl rfl rfl rfl rfl rfl rfl (by decide) (fun w hw => rowH_reads rfl (Sat.left hw)) (by simp [Value.oneCell']) (by simp only [maxLen]; omega) (by omega) (by omega) fun A' c' => ?_⟩
    conv => whnf
    exact ⟨trivial, .mk _ (fun w ⟨h, hs, s⟩ => by obtain ⟨h', e, s'⟩ := sub_drop1 s; exact ⟨h', hs.mono e, s'⟩) ⟨_, _, rfl, rfl⟩⟩
  · have hl : (utfN x).length = 3 := by unfold utfN; rw [if_neg (by omega), if_neg h2]; rfl
    rw [hl, utf3 (by omega) (by omega)]
    refine fn_of_run0 false Tryd.func96 rfl hmix rfl fun w0 => ?_
    conv => whnf
    rw [w1]
    refine iff_f (decide_eq_false (by omega)) ?_
    conv => whnf
    refine ⟨fun h3 => ?_, fun h3 => ?_⟩
    · conv => whnf
      refine iff_t h3 ?_
      conv => whnf
      refine ⟨by refine ⟨⟨trivial, by decide, by decide⟩, by decide, by decide⟩, OpAt.lit [.int .u8 ((224 + x / 4096 : Nat) : Int), .int .u8 ((128 + x / 64 % 64 : Nat) : Int), .int .u8 ((128 + x % 64 : Nat) : Int)] 1 rfl rfl rfl rfl rfl (by decide) rfl rfl ?_ (by simp [Value.cells]) rfl (by decide) fun g => ?_⟩
      · simp only [List.map, evR, getT]
        rw [lead224 (by omega), div64N, contN, contN]
      conv => whnf
      refine ⟨trivial, OpAt.append1 (.slice A n c) n 1 1 xs [.int .u8 ((224 + x / 4096 : Nat) : Int), .int .u8 ((128 + x / 64 % 64 : Nat) : Int), .int .u8 ((128 + x % 64 : Nat) : Int)] (some ⟨g, 0, none⟩) 3 3 _ rfl (fun h s => sepL_pull 1 s) rfl rfl rfl rfl rfl rfl rfl rfl rfl (by decide) (fun w hw => rowH_reads rfl (Sat.left hw)) (by simp [Value.oneCell']) (by simp only [maxLen]; omega) (by omega) (by omega) fun A' c' => ?_⟩
      conv => whnf
      exact ⟨trivial, .mk _ (fun w ⟨h, hs, s⟩ => by obtain ⟨h', e, s'⟩ := sub_drop1 s; exact ⟨h', hs.mono e, s'⟩) ⟨_, _, rfl, rfl⟩⟩
    · have h3 := of_decide_eq_false h3
      conv => whnf
      refine ⟨fun _ => ?_, fun h => absurd h (by simp; omega)⟩
      conv => whnf
      refine iff_t (by simp; omega) ?_
      conv => whnf
      refine ⟨by refine ⟨⟨trivial, by decide, by decide⟩, by decide, by decide⟩, OpAt.lit [.int .u8 ((224 + x / 4096 : Nat) : Int), .int .u8 ((128 + x / 64 % 64 : Nat) : Int), .int .u8 ((128 + x % 64 : Nat) : Int)] 1 rfl rfl rfl rfl rfl (by decide) rfl rfl ?_ (by simp [Value.cells]) rfl (by decide) fun g => ?_⟩
      · simp only [List.map, evR, getT]
        rw [lead224 (by omega), div64N, contN, contN]
      conv => whnf
      refine ⟨trivial, OpAt.append1 (.slice A n c) n 1 1 xs [.int .u8 ((224 + x / 4096 : Nat) : Int), .int .u8 ((128 + x / 64 % 64 : Nat) : Int), .int .u8 ((128 + x % 64 : Nat) : Int)] (some ⟨g, 0, none⟩) 3 3 _ rfl (fun h s => sepL_pull 1 s) rfl rfl rfl rfl rfl rfl rfl rfl rfl (by decide) (fun w hw => rowH_reads rfl (Sat.left hw)) (by simp [Value.oneCell']) (by simp only [maxLen]; omega) (by omega) (by omega) fun A' c' => ?_⟩
      conv => whnf
      exact ⟨trivial, .mk _ (fun w ⟨h, hs, s⟩ => by obtain ⟨h', e, s'⟩ := sub_drop1 s; exact ⟨h', hs.mono e, s'⟩) ⟨_, _, rfl, rfl⟩⟩
theorem sAppendRune {R : HP} {A : Option Addr} {n c : Nat} {xs : List Value} (x : Nat) (hx : SignN x) (hn : n ≤ 1000000) :
    FnR Tryd.prog R 77 [.slice A n c, .int .i32 (x : Int)] [rowH (.slice A n c) n 5 1 xs] fun r hs => ∃ A' c', r = .slice A' (n + (utfN x).length) c' ∧ hs = [rowH (.slice A' (n + (utfN x).length) c') (n + (utfN x).length) 5 1 (xs ++ byV (utfN x))] := by
  have hx' := hx
  unfold SignN at hx'
  by_cases h128 : 128 ≤ x
  · have hc := fun R' => sAppendRuneN (R := R') (A := A) (c := c) (xs := xs) x hx h128 hn
    have w1 : IntKind.u32.wrap (x : Int) = (x : Int) := IntWalk.u32_in _ ⟨by omega, by omega⟩
    refine fn_of_run0 false Tryd.func77 rfl hmix rfl fun w0 => ?_
    conv => whnf
    rw [w1]
    refine iff_f (decide_eq_false (by omega)) ?_
    conv => whnf
    refine ⟨trivial, CallAt.fn (pre := [rowH (.slice A n c) n 5 1 xs]) _ (fun h s => s) (fun R' hR' => hc R') ?_⟩
    rintro r hs ⟨A', c', rfl, rfl⟩
    conv => whnf
    exact ⟨trivial, .mk _ (fun w s => s) ⟨_, _, rfl, rfl⟩⟩
  · have e : utfN x = [u8 x] := by unfold utfN; rw [if_pos (by omega)]
    have h1 := sAppendRune1 (R := R) (A := A) (c := c) (xs := xs) (u8 x) (by rw [u8_nat (by omega)]; omega) hn
    rw [u8_nat (by omega)] at h1
    rw [e]
    exact h1
end Go.Proofs.YtkichbggmgppmaaDoor

/-
  strings.Builder: a sign is written.
-/
namespace Go.Proofs.YtkichbggmgppmaaDoor
open Go.RowKit
open Sy
set_option linter.unusedVariables false
set_option linter.unusedSimpArgs false
set_option maxRecDepth 100000
set_option maxHeartbeats 4000000

theorem sWriteRune {R : HP} {b : Nat} {l : List UInt8} (x : Nat) (hx : SignN x) (hl : l.length ≤ 1000000) :
    FnR Tryd.prog R 47 [.pointer (some ⟨b, 0, none⟩), .int .i32 (x : Int)] [bldH b l] fun r hs => r = .tuple #[.int .i64 ((utfN x).length : Int), .nilIface] ∧ hs = [bldH b (l ++ utfN x)] := by
  refine FnR.unbox fun ⟨u, A, c⟩ => ?_
  rw [List.append_nil]
  have hcc : ∀ R', FnR Tryd.prog R' 69 [.pointer (some ⟨b, 0, none⟩)] [bldHd b u (.slice A l.length c)] fun r hs => r = .tuple #[] ∧ hs = [bldHd b true (.slice A l.length c)] := fun R' => by
    cases u
    · exact sCopyCheckF
    · exact sCopyCheckU
  have hul := utfN_len x
  refine fn_of_run0 false Tryd.func47 rfl hmix rfl fun w0 => ?_
  conv => whnf
  refine ⟨trivial, CallAt.fn (pre := [bldHd b u (.slice A l.length c)]) _ (fun h s => s) (fun R' hR' => hcc R') ?_⟩
  rintro r hs ⟨rfl, rfl⟩
  conv => whnf
  refine ⟨trivial, LoadAt.cell (.slice A l.length c) rfl rfl (fun w hw => (blk_sat (show Sat (bldHd b true (.slice A l.length c)) w from hw.in_ 0 rfl)).cell 1) ?_⟩
  conv => whnf
  refine ⟨trivial, LoadAt.cell (.slice A l.length c) rfl rfl (fun w hw => (blk_sat (show Sat (bldHd b true (.slice A l.length c)) w from hw.in_ 0 rfl)).cell 1) ?_⟩
  conv => whnf
  refine ⟨trivial, CallAt.fn (pre := [rowH (.slice A l.length c) l.length 5 1 (byV l)]) _ (fun h s => sepL_pull 1 s) (fun R' hR' => sAppendRune x hx hl) ?_⟩
  rintro r hs ⟨A', c', rfl, rfl⟩
  conv => whnf
  refine ⟨trivial, OpAt.store b 1 (.slice A' (l.length + (utfN x).length) c') _ rfl (fun h s => sepL_pull 1 s) rfl rfl rfl rfl rfl (by simp [Value.cells, Value.oneCell']) (fun h r => blk_put (by show 1 + 1 ≤ 2; omega) r) ?_⟩
  conv => whnf
  refine ⟨trivial, LoadAt.cell (.slice A' (l.length + (utfN x).length) c') rfl rfl (fun w hw => (blk_sat (show Sat (bldHd b true (.slice A' (l.length + (utfN x).length) c')) w from hw.in_ 0 rfl)).cell 1) ?_⟩
  conv => whnf
  have e1 : ((l.length + (utfN x).length : Nat) : Int) - (l.length : Int) = ((utfN x).length : Int) := by omega
  rw [e1]
  refine ⟨⟨trivial, by unfold rng; omega⟩, .mk [bldH b (l ++ utfN x)] (fun w ⟨h, hs, s⟩ => ⟨h, hs, boxH_shut (parts := bldP b (l ++ utfN x)) (true, A', c') ?_⟩) ⟨rfl, rfl⟩⟩
  rw [List.append_nil]
  unfold bldP
  rw [List.length_append]
  have e : byV (l ++ utfN x) = byV l ++ byV (utfN x) := List.map_append
  rw [e]
  exact s
end Go.Proofs.YtkichbggmgppmaaDoor

/-
  strings.Builder: the string. tint.Print.
-/
namespace Go.Proofs.YtkichbggmgppmaaDoor
open Go.RowKit
open Sy
set_option linter.unusedVariables false
set_option linter.unusedSimpArgs false
set_option maxRecDepth 100000
set_option maxHeartbeats 4000000

/-- where a slice's elements lie -/
theorem OpAt.sliceData {G : Gl} {o : Oper} {st : St} {K : St → Prop} {x : Operand} {t : TypeId} (a : Addr) (n c : Nat) (hc : c ≠ 0) (ho : o.op = .call { callee := .builtin .unsafeSliceData, args := #[x], argTypes := #[t] }) (hx : evR st x = .slice (some a) n c) (hr : allR st o.op.operands.toList = true) (k : putK G st o.dst (.v (.pointer (some a))) none K) : OpAt G o st K := by
  refine OpAt.val (.pointer (some a)) (by rw [ho]; rfl) hr (fun w sat => ?_) k
  have ha : (#[x] : Array Operand).map (evR st) = #[.slice (some a) n c] := by simp [hx]
  simp only [execOp, ho, resolve, invoke, builtin, Sem.run_bind, Sem.run_pure, Result.andThen_ok, ha, Lib.run_unsafeSliceData_row (P := G.P) w _ _ a n c hc]
  try rfl
theorem sBString {R : HP} {b : Nat} {l : List UInt8} (h0 : l ≠ []) (hl : l.length ≤ 1000000) :
    FnR Tryd.prog R 37 [.pointer (some ⟨b, 0, none⟩)] [bldH b l] fun r hs => r = .string (bs l) ∧ hs = [] := by
  refine FnR.unbox fun ⟨u, A, c⟩ => ?_
  rw [List.append_nil]
  refine FnR.of_sat fun wS hsat => ?_
  have hp : 0 < l.length := List.length_pos_iff.2 h0
  obtain ⟨ad, hA, _, _⟩ := (rowH_reads rfl (hsat.in_ 1 rfl)).2 hp
  obtain ⟨g, hg⟩ : ∃ g, A = some ⟨g, 0, none⟩ := by
    obtain ⟨h, _, _, r⟩ := hsat.in_ 1 rfl
    rcases r with ⟨e, _, _⟩ | ⟨g, _, _, e, _⟩
    · injection e with e
      rw [e] at hA
      cases hA
    · injection e with e
      exact ⟨g, e⟩
  subst hg
  clear hA
  have hcl : l.length ≤ c := row_capB (hsat.in_ 1 rfl)
  refine fn_of_run0 false Tryd.func37 rfl hmix rfl fun w0 => ?_
  conv => whnf
  refine ⟨trivial, RegAt.groups [([.T 0, .T 1, .T 2, .T 3, .T 5, .T 6, .T 7, .T 8, .T 9, .H 4], 10), ([.H 10], 11), ([.T 11], 12)] hmix (by kernel_rfl) ?_⟩
  conv => whnf
  refine ⟨trivial, LoadAt.cell (.slice (some ⟨g, 0, none⟩) l.length c) rfl rfl (fun w hw => (blk_sat (show Sat (bldHd b u (.slice (some ⟨g, 0, none⟩) l.length c)) w from hw.in_ 0 rfl)).cell 1) ?_⟩
  conv => whnf
  refine ⟨trivial, LoadAt.cell (.slice (some ⟨g, 0, none⟩) l.length c) rfl rfl (fun w hw => (blk_sat (show Sat (bldHd b u (.slice (some ⟨g, 0, none⟩) l.length c)) w from hw.in_ 0 rfl)).cell 1) ?_⟩
  conv => whnf
  refine ⟨trivial, OpAt.sliceData ⟨g, 0, none⟩ l.length c (by omega) rfl rfl rfl ?_⟩
  conv => whnf
  refine ⟨trivial, ⟨⟨rfl, rfl⟩, fun h s => sub_same s⟩, ?_⟩
  conv => whnf
  refine ⟨trivial, OpAt.unsafeStr g c l [bldHd b u (.slice (some ⟨g, 0, none⟩) l.length c)] rfl (fun h s => sepL_pull 1 s) rfl rfl rfl rfl rfl h0 (by omega) ?_⟩
  conv => whnf
  refine ⟨trivial, ?_⟩
  conv => whnf
  exact ⟨trivial, fin_drop rfl⟩
end Go.Proofs.YtkichbggmgppmaaDoor

/-
  tint.Print.
-/
namespace Go.Proofs.YtkichbggmgppmaaDoor
open Go.RowKit
open Sy
set_option linter.unusedVariables false
set_option linter.unusedSimpArgs false
set_option maxRecDepth 100000
set_option maxHeartbeats 4000000

theorem printT_le : ∀ {l : List Bd}, (∀ b ∈ l, MayI b.f) → (printT l).length ≤ 16 * l.length
  | [], _ => by simp [printT, joinC]
  | b :: l, h => by
    have h1 := bandT_len (h b (by simp))
    have h2 := tails_len l fun x hx => h x (List.mem_cons_of_mem _ hx)
    unfold printT
    simp only [List.map_cons, joinC, List.length_append, List.length_cons]
    omega
theorem printT_ne {l : List Bd} (h : l ≠ []) : printT l ≠ [] := by
  cases l with
  | nil => exact absurd rfl h
  | cons b l =>
    unfold printT
    simp only [List.map_cons, joinC, bandT]
    simp
theorem printT_snoc {l : List Bd} (h : l ≠ []) (b : Bd) : printT (l ++ [b]) = printT l ++ 44 :: bandT b := by
  cases l with
  | nil => exact absurd rfl h
  | cons a l => simp [printT, joinC]
theorem printT_next {l : List Bd} {i : Nat} (hi : i < l.length) : printT (l.take (i + 1)) = (if 0 < i then printT (l.take i) ++ [44] else printT (l.take i)) ++ (Lib.itoa (bF l i) ++ ([58] ++ utfN (bS l i).toNat)) := by
  rw [List.take_succ_eq_append_getElem hi, bF_eq hi, bS_eq hi]
  by_cases c : 0 < i
  · rw [if_pos c, printT_snoc (by intro e; have := congrArg List.length e; rw [List.length_take, List.length_nil] at this; omega)]
    simp [bandT]
  · have : i = 0 := by omega
    subst this
    rw [if_neg c]
    simp [printT, joinC, bandT]
theorem sTPrint {R : HP} (hN : ∀ w, Sat R w → NumW w) {A : Option Addr} {n c : Nat} {l : List Bd} (hn : n ≤ 9223372036854775807) (hc : n ≤ c) (ha : Sl R A n 2 (bcel l)) (hR : RightL l) : PureR Tryd.prog R 20 [.slice A n c] (.tuple #[.string (bs (printT l)), .int .i64 0]) := by
  refine PureR.of_sat fun w hs => ?_
  obtain ⟨hl, sa⟩ := ha.spot (by omega) hs
  rw [bcel_len] at hl
  have e1 : l.length = n := by omega
  clear hs hl
  have hr := fun R' (h : ∀ w, Sat R' w → Sat R w) => sTRight (c := c) hn hc (ha.mono h)
  rw [decide_eq_true hR] at hr
  have hn1 : 1 ≤ n := by have := hR.1; omega
  have hn12 : n ≤ 12 := by have := hR.2.1; omega
  rcases sa with sa | ⟨b, off, rfl, sa⟩
  · omega
  have hcel : ∀ j, j < n → ∀ w, Sat R w → w.cell? ⟨b, off + j * 2, none⟩ = some (.int .i64 (bF l j)) ∧ w.cell? ⟨b, off + j * 2 + 1, none⟩ = some (.int .i32 (bS l j)) := fun j hj w s => by
    obtain ⟨f1, f2⟩ := bcel_F (l := l) (i := j) (by omega)
    exact ⟨sa w s _ _ f1, by rw [Nat.add_assoc]; exact sa w s _ _ f2⟩
  have hlen : ∀ i, i ≤ n → (printT (l.take i)).length ≤ 192 := fun i hi => by
    have := printT_le (l := l.take i) fun x hx => (hR.good x (List.mem_of_mem_take hx)).1
    rw [List.length_take] at this
    omega
  refine fn_of_run0 false Tryd.func20 rfl hmix rfl fun w0 => ?_
  conv => whnf
  refine ⟨trivial, CallAt.pure (fun R' hR' => hr R' hR') ?_⟩
  conv => whnf
  refine iff_f rfl ?_
  conv => whnf
  refine ⟨trivial, LoopAt.begins (α := Nat × Nat) [10, 11] (fun a => [(4, .v (.pointer (some ⟨a.2, 0, none⟩))), (12, .v (.int .i64 (a.1 : Int)))]) (fun a => []) (fun a => [bldH a.2 (printT (l.take a.1))]) (fun a => a.1 ≤ n) (fun a => n - a.1) (Begin.expose 0 ?_) ?_⟩
  · conv => whnf
    intro tb _
    refine Begin.le ?_ ⟨(0, tb), Nat.zero_le _, rfl⟩
    exact Le.of (Nat.le_of_ble_eq_true rfl) (Nat.zero_le _) ⟨⟨rfl, rfl⟩, ⟨rfl, rfl⟩, ⟨rfl, rfl⟩, ⟨rfl, rfl⟩, trivial⟩ trivial fun h s => sub_same (bld_new s)
  rintro ⟨i, tb⟩ hi
  simp only at hi
  conv => whnf
  refine ⟨fun h3 => ?_, fun h3 => ?_⟩
  · have g3 : i < n := by simpa using h3
    have hcl := hcel i g3
    have hnx := printT_next (l := l) (i := i) (by omega)
    have hli := hlen i hi
    have hgood := hR.2.2 i (by omega)
    have hf64 := hgood.1
    have hsg := hgood.2.1
    have hil := itoa_len hf64
    generalize bF l i = x at *
    generalize bS l i = sx at *
    obtain ⟨cn, rfl⟩ : ∃ cn : Nat, sx = (cn : Int) := ⟨sx.toNat, by have := hsg.1; omega⟩
    have hcn : SignN cn := by simpa using hsg.2
    have hul := utfN_len cn
    simp only [Int.toNat_natCast] at hnx
    have hpr := fun R' (h : ∀ w, Sat R' w → Sat R w) => sPrint (R := R') (fun w s => hN w (h w s)) x (by unfold MayI at hf64; omega) (by unfold MayI at hf64; omega)
    generalize printT (l.take i) = q at *
    conv => whnf
    refine ⟨⟨trivial, by simp only; omega⟩, LoadAt.agg [.int .i64 x, .int .i32 (cn : Int)] rfl rfl rfl (fun w hw j u hj => ?_) ?_⟩
    · simp only [Int.toNat_natCast]
      rcases j with _ | _ | j
      · simp at hj; rw [← hj]; exact (hcl w hw.rest).1
      · simp at hj; rw [← hj]; exact (hcl w hw.rest).2
      · simp at hj
    conv => whnf
    refine ⟨fun h4 => ?_, fun h4 => ?_⟩
    · have h4 : 0 < i := by simpa using h4
      rw [if_pos h4] at hnx
      conv => whnf
      refine ⟨trivial, CallAt.fn (pre := [bldH tb q]) _ (fun h s => s) (fun R' hR' => sWriteRune1 44 (by decide) (by omega)) ?_⟩
      rintro r hs ⟨rfl, rfl⟩
      conv => whnf
      refine ⟨trivial, CallAt.pure (fun R' hR' => hpr R' (fun w s => (hR' w s).rest)) ?_⟩
      conv => whnf
      refine ⟨trivial, CallAt.fn (pre := [bldH tb (q ++ [44])]) _ (fun h s => s) (fun R' hR' => sWriteString (Lib.itoa x) (by first | omega | (simp; omega))) ?_⟩
      rintro r hs ⟨rfl, rfl⟩
      conv => whnf
      refine ⟨trivial, CallAt.fn (pre := [bldH tb ((q ++ [44]) ++ Lib.itoa x)]) _ (fun h s => s) (fun R' hR' => sWriteRune1 58 (by decide) (by simp; omega)) ?_⟩
      rintro r hs ⟨rfl, rfl⟩
      conv => whnf
      refine ⟨trivial, CallAt.fn (pre := [bldH tb ((q ++ [44]) ++ Lib.itoa x ++ [58])]) _ (fun h s => s) (fun R' hR' => sWriteRune cn hcn (by simp; omega)) ?_⟩
      rintro r hs ⟨rfl, rfl⟩
      conv => whnf
      refine ⟨⟨trivial, by unfold rng; simp only; omega⟩, .mk (i + 1, tb) (by simp only; omega) (by simp only; omega) (Le.of (Nat.le_of_ble_eq_true rfl) (Nat.zero_le _) ⟨⟨rfl, rfl⟩, ⟨rfl, rfl⟩, ⟨rfl, rfl⟩, ⟨rfl, rfl⟩, trivial⟩ trivial fun h s => ?_)⟩
      refine sub_same ?_
      show sepL [bldH tb (printT (l.take (i + 1)))] R h
      rw [hnx, ← List.append_assoc, ← List.append_assoc]
      exact s
    · have h4 : ¬ 0 < i := by simpa using h4
      rw [if_neg h4] at hnx
      conv => whnf
      refine ⟨trivial, CallAt.pure (fun R' hR' => hpr R' (fun w s => (hR' w s).rest)) ?_⟩
      conv => whnf
      refine ⟨trivial, CallAt.fn (pre := [bldH tb q]) _ (fun h s => s) (fun R' hR' => sWriteString (Lib.itoa x) (by first | omega | (simp; omega))) ?_⟩
      rintro r hs ⟨rfl, rfl⟩
      conv => whnf
      refine ⟨trivial, CallAt.fn (pre := [bldH tb (q ++ Lib.itoa x)]) _ (fun h s => s) (fun R' hR' => sWriteRune1 58 (by decide) (by simp; omega)) ?_⟩
      rintro r hs ⟨rfl, rfl⟩
      conv => whnf
      refine ⟨trivial, CallAt.fn (pre := [bldH tb (q ++ Lib.itoa x ++ [58])]) _ (fun h s => s) (fun R' hR' => sWriteRune cn hcn (by simp; omega)) ?_⟩
      rintro r hs ⟨rfl, rfl⟩
      conv => whnf
      refine ⟨⟨trivial, by unfold rng; simp only; omega⟩, .mk (i + 1, tb) (by simp only; omega) (by simp only; omega) (Le.of (Nat.le_of_ble_eq_true rfl) (Nat.zero_le _) ⟨⟨rfl, rfl⟩, ⟨rfl, rfl⟩, ⟨rfl, rfl⟩, ⟨rfl, rfl⟩, trivial⟩ trivial fun h s => ?_)⟩
      refine sub_same ?_
      show sepL [bldH tb (printT (l.take (i + 1)))] R h
      rw [hnx, ← List.append_assoc, ← List.append_assoc]
      exact s
  · have g3 : i = n := by simp at h3; omega
    subst g3
    have e : l.take i = l := List.take_of_length_le (by omega)
    conv => whnf
    refine ⟨trivial, CallAt.fn (pre := [bldH tb (printT (l.take i))]) _ (fun h s => s) (fun R' hR' => sBString (printT_ne (by rw [e]; intro c; rw [c] at e1; simp at e1; omega)) (by have := hlen i (Nat.le_refl _); omega)) ?_⟩
    rintro r hs ⟨rfl, rfl⟩
    rw [e]
    conv => whnf
    exact ⟨trivial, fin_drop rfl⟩
end Go.Proofs.YtkichbggmgppmaaDoor

/-
  The document's Print of a legend; its Same.
-/
namespace Go.Proofs.YtkichbggmgppmaaDoor
open Go.RowKit
open Sy
set_option linter.unusedVariables false
set_option linter.unusedSimpArgs false
set_option maxRecDepth 100000
set_option maxHeartbeats 4000000

theorem tdivN (x k : Nat) : Int.tdiv (x : Int) (k : Int) = ((x / k : Nat) : Int) := by rw [Int.tdiv_eq_ediv_of_nonneg (by omega)]; rfl
theorem tmodN (x k : Nat) : Int.tmod (x : Int) (k : Int) = ((x % k : Nat) : Int) := by rw [Int.tmod_eq_emod_of_nonneg (by omega)]; rfl
theorem i32_inN {x : Int} (h : -2147483648 ≤ x ∧ x ≤ 2147483647) : IntKind.i32.wrap x = x := by simp [IntKind.wrap, IntKind.bits, IntKind.signed]; omega
theorem sBytes {R : HP} {x : Nat} (hx : SignN x) : FnR Tryd.prog R 54 [.int .i32 (x : Int)] [] fun r hs => ∃ g, r = .slice (some ⟨g, 0, none⟩) (utfN x).length (utfN x).length ∧ hs = [rowH (.slice (some ⟨g, 0, none⟩) (utfN x).length (utfN x).length) (utfN x).length 5 1 (byV (utfN x))] := by
  unfold SignN at hx
  by_cases h1 : x < 128
  · have e : utfN x = [u8 x] := by unfold utfN; rw [if_pos h1]
    have e2 : byV [u8 x] = [.int .u8 (x : Int)] := by simp only [byV, List.map_cons, List.map_nil, u8_nat (show x < 256 by omega)]
    rw [e, e2]
    refine fn_of_run0 true Tryd.func54 rfl hmix rfl fun w0 => ?_
    conv => whnf
    refine iff_t (decide_eq_true (by omega)) ?_
    conv => whnf
    refine ⟨trivial, OpAt.lit [.int .u8 (x : Int)] 1 rfl rfl rfl rfl rfl (by decide) rfl rfl ?_ (by simp [Value.cells]) rfl (by decide) fun g => ?_⟩
    · simp only [List.map, evR, getT]
      rw [u8_wrapN, Nat.mod_eq_of_lt (by omega)]
    conv => whnf
    exact ⟨trivial, .mk _ (fun w s => s) ⟨_, rfl, rfl⟩⟩
  · by_cases h2 : x < 2048
    · have hl : (utfN x).length = 2 := by unfold utfN; rw [if_neg (by omega), if_pos h2]; rfl
      rw [hl, utf2 (by omega) h2]
      refine fn_of_run0 true Tryd.func54 rfl hmix rfl fun w0 => ?_
      conv => whnf
      refine iff_f (decide_eq_false (by omega)) ?_
      conv => whnf
      refine iff_t (decide_eq_true (by omega)) ?_
      conv => whnf
      have q1 : Int.tdiv (x : Int) 64 = ((x / 64 : Nat) : Int) := tdivN x 64
      have q2 : Int.tmod (x : Int) 64 = ((x % 64 : Nat) : Int) := tmodN x 64
      refine ⟨?_, OpAt.lit [.int .u8 ((192 + x / 64 : Nat) : Int), .int .u8 ((128 + x % 64 : Nat) : Int)] 1 rfl rfl rfl rfl rfl (by decide) rfl rfl ?_ (by simp [Value.cells]) rfl (by decide) fun g => ?_⟩
      · rw [q1, q2]
        exact ⟨⟨⟨⟨trivial, by decide, i32_inN (by omega)⟩, by unfold rng; omega⟩, by decide⟩, by unfold rng; omega⟩
      · simp only [List.map, evR, getT]
        rw [q1, q2, show (192 : Int) + ((x / 64 : Nat) : Int) = ((192 + x / 64 : Nat) : Int) by omega, show (128 : Int) + ((x % 64 : Nat) : Int) = ((128 + x % 64 : Nat) : Int) by omega, u8_wrapN, u8_wrapN, Nat.mod_eq_of_lt (show 192 + x / 64 < 256 by omega), Nat.mod_eq_of_lt (show 128 + x % 64 < 256 by omega)]
      conv => whnf
      exact ⟨trivial, .mk _ (fun w s => s) ⟨_, rfl, rfl⟩⟩
    · have hl : (utfN x).length = 3 := by unfold utfN; rw [if_neg (by omega), if_neg h2]; rfl
      rw [hl, utf3 (by omega) (by omega)]
      refine fn_of_run0 true Tryd.func54 rfl hmix rfl fun w0 => ?_
      conv => whnf
      refine iff_f (decide_eq_false (by omega)) ?_
      conv => whnf
      refine iff_f (decide_eq_false (by omega)) ?_
      conv => whnf
      have q1 : Int.tdiv (x : Int) 4096 = ((x / 4096 : Nat) : Int) := tdivN x 4096
      have q2 : Int.tdiv (x : Int) 64 = ((x / 64 : Nat) : Int) := tdivN x 64
      have q3 : Int.tmod ((x / 64 : Nat) : Int) 64 = ((x / 64 % 64 : Nat) : Int) := tmodN (x / 64) 64
      have q4 : Int.tmod (x : Int) 64 = ((x % 64 : Nat) : Int) := tmodN x 64
      refine ⟨?_, OpAt.lit [.int .u8 ((224 + x / 4096 : Nat) : Int), .int .u8 ((128 + x / 64 % 64 : Nat) : Int), .int .u8 ((128 + x % 64 : Nat) : Int)] 1 rfl rfl rfl rfl rfl (by decide) rfl rfl ?_ (by simp [Value.cells]) rfl (by decide) fun g => ?_⟩
      · rw [q1, q2, q3, q4]
        repeat' apply And.intro
        all_goals first | exact True.intro | omega | decide | exact i32_inN (by omega)
      · simp only [List.map, evR, getT]
        rw [q1, q2, q3, q4, show (224 : Int) + ((x / 4096 : Nat) : Int) = ((224 + x / 4096 : Nat) : Int) by omega, show (128 : Int) + ((x / 64 % 64 : Nat) : Int) = ((128 + x / 64 % 64 : Nat) : Int) by omega, show (128 : Int) + ((x % 64 : Nat) : Int) = ((128 + x % 64 : Nat) : Int) by omega, u8_wrapN, u8_wrapN, u8_wrapN, Nat.mod_eq_of_lt (show 224 + x / 4096 < 256 by omega), Nat.mod_eq_of_lt (show 128 + x / 64 % 64 < 256 by omega), Nat.mod_eq_of_lt (show 128 + x % 64 < 256 by omega)]
      conv => whnf
      exact ⟨trivial, .mk _ (fun w s => s) ⟨_, rfl, rfl⟩⟩
theorem sRPrint33 {R : HP} {A : Option Addr} {n c : Nat} {l : List Bd} (hn : n ≤ 12) (ha : Sl R A n 2 (bcel l)) (hg : ∀ b ∈ l, MayI b.f ∧ SignI b.s) : PureR Tryd.prog R 23 [.slice A n c] (.string (bs (printT l))) := by
  refine PureR.of_sat fun w hs => ?_
  obtain ⟨hl, sa⟩ := ha.spot (by omega) hs
  rw [bcel_len] at hl
  have e1 : l.length = n := by omega
  clear hs hl
  have hlen : ∀ i, i ≤ n → (printT (l.take i)).length ≤ 192 := fun i hi => by
    have := printT_le (l := l.take i) fun x hx => (hg x (List.mem_of_mem_take hx)).1
    rw [List.length_take] at this
    omega
  refine fn_of_run0 false Tryd.func23 rfl hmix rfl fun w0 => ?_
  conv => whnf
  refine ⟨trivial, LoopAt.of (α := Nat) [0] (fun i => [(3, .v (.string (bs (printT (l.take i))))), (4, .v (.int .i64 (i : Int)))]) (fun _ => []) (fun _ => []) (fun i => i ≤ n) (fun i => n - i) 0 (Nat.zero_le _)
    (Le.of (Nat.le_of_ble_eq_true rfl) (Nat.zero_le _) ⟨⟨rfl, rfl⟩, ⟨rfl, rfl⟩, ⟨rfl, rfl⟩, trivial⟩ trivial fun h s => sub_same s) ?_⟩
  intro i hi
  conv => whnf
  refine ⟨fun h3 => ?_, fun h3 => ?_⟩
  · have g3 : i < n := by simpa using h3
    rcases sa with sa | ⟨b, off, rfl, sa⟩
    · omega
    have hcl : ∀ w, Sat R w → w.cell? ⟨b, off + i * 2, none⟩ = some (.int .i64 (bF l i)) ∧ w.cell? ⟨b, off + i * 2 + 1, none⟩ = some (.int .i32 (bS l i)) := fun w s => by
      obtain ⟨f1, f2⟩ := bcel_F (l := l) (i := i) (by omega)
      exact ⟨sa w s _ _ f1, by rw [Nat.add_assoc]; exact sa w s _ _ f2⟩
    have hnx := printT_next (l := l) (i := i) (by omega)
    have hli := hlen i hi
    have hgood := hg _ (List.getElem_mem (show i < l.length by omega))
    rw [← bF_eq (by omega), ← bS_eq (by omega)] at hgood
    have hf64 := hgood.1
    have hsg := hgood.2
    generalize bF l i = x at *
    generalize bS l i = sx at *
    obtain ⟨cn, rfl⟩ : ∃ cn : Nat, sx = (cn : Int) := ⟨sx.toNat, by have := hsg.1; omega⟩
    have hcn : SignN cn := by simpa using hsg.2
    simp only [Int.toNat_natCast] at hnx
    have hpr := fun R' => sRefPrint (R := R') x (by unfold MayI at hf64; omega) (by unfold MayI at hf64; omega)
    have hil := itoa_len hf64
    have hul := utfN_len cn
    generalize printT (l.take i) = q at *
    conv => whnf
    refine ⟨fun h4 => ?_, fun h4 => ?_⟩
    · have h4 : 0 < i := by simpa using h4
      rw [if_pos h4] at hnx
      conv => whnf
      rw [show bs q ++ (⟨#[44]⟩ : ByteArray) = bs (q ++ [44]) from bs_append q [44]]
      refine ⟨⟨trivial, by rw [bs_size]; show _ + 1 ≤ _; omega⟩, RegAt.groups [([.T 0, .T 1, .T 2, .T 3, .T 4, .T 5, .T 9, .T 10, .T 11, .T 12, .T 13, .H 6, .T 7, .T 8, .H 14, .H 15], 16), ([.T 16], 17), ([.T 17], 18)] hmix (by kernel_rfl) ?_⟩
      conv => whnf
      refine ⟨⟨trivial, by omega⟩, LoadAt.cell (.int .i64 x) rfl rfl (fun w hw => ?_) ?_⟩
      · rw [Int.toNat_natCast]; exact (hcl w hw).1
      conv => whnf
      refine ⟨⟨trivial, by omega⟩, LoadAt.cell (.int .i32 (cn : Int)) rfl rfl (fun w hw => ?_) ?_⟩
      · rw [Int.toNat_natCast]; exact (hcl w hw).2
      conv => whnf
      refine ⟨trivial, CallAt.pure (fun R' hR' => hpr R') ?_⟩
      conv => whnf
      refine ⟨trivial, ⟨⟨rfl, rfl⟩, fun h s => sub_same s⟩, ?_⟩
      conv => whnf
      rw [show (⟨#[58]⟩ : ByteArray) = bs [58] from rfl, bs_append, bs_append]
      refine ⟨⟨⟨trivial, by simp only [bs_size, List.length_append, List.length_cons, List.length_nil]; omega⟩, by simp only [bs_size, List.length_append, List.length_cons, List.length_nil]; omega⟩, CallAt.fn (pre := []) _ (fun h s => s) (fun R' _ => sBytes hcn) ?_⟩
      rintro r hs ⟨g, rfl, rfl⟩
      conv => whnf
      refine ⟨trivial, ⟨⟨rfl, rfl⟩, fun h s => sub_tail s⟩, ?_⟩
      conv => whnf
      refine ⟨trivial, OpAt.bytesStr g (utfN cn).length (utfN cn).length (utfN cn) [] rfl (fun h s => s) rfl rfl rfl rfl rfl ?_⟩
      conv => whnf
      refine ⟨trivial, ⟨⟨rfl, rfl⟩, fun h s => sub_tail s⟩, ?_⟩
      conv => whnf
      rw [bs_append, show (q ++ [44]) ++ Lib.itoa x ++ [58] ++ utfN cn = printT (l.take (i + 1)) by rw [hnx]; simp]
      refine ⟨?_, ?_⟩
      · refine ⟨trivial, ?_⟩
        simp only [bs_size, List.length_append, List.length_cons, List.length_nil]
        omega
      conv => whnf
      refine ⟨⟨trivial, by unfold rng; omega⟩, .mk (i + 1) (by omega) (by omega) (Le.of (Nat.le_of_ble_eq_true rfl) (Nat.zero_le _) ⟨⟨rfl, rfl⟩, ⟨rfl, rfl⟩, ⟨rfl, rfl⟩, trivial⟩ trivial fun h s => sub_nil s)⟩
    · have h4 : ¬ 0 < i := by simpa using h4
      rw [if_neg h4] at hnx
      refine ⟨trivial, RegAt.groups [([.T 0, .T 1, .T 2, .T 3, .T 4, .T 5, .T 9, .T 10, .T 11, .T 12, .T 13, .H 6, .T 7, .T 8, .H 14, .H 15], 16), ([.T 16], 17), ([.T 17], 18)] hmix (by kernel_rfl) ?_⟩
      conv => whnf
      refine ⟨⟨trivial, by omega⟩, LoadAt.cell (.int .i64 x) rfl rfl (fun w hw => ?_) ?_⟩
      · rw [Int.toNat_natCast]; exact (hcl w hw).1
      conv => whnf
      refine ⟨⟨trivial, by omega⟩, LoadAt.cell (.int .i32 (cn : Int)) rfl rfl (fun w hw => ?_) ?_⟩
      · rw [Int.toNat_natCast]; exact (hcl w hw).2
      conv => whnf
      refine ⟨trivial, CallAt.pure (fun R' hR' => hpr R') ?_⟩
      conv => whnf
      refine ⟨trivial, ⟨⟨rfl, rfl⟩, fun h s => sub_same s⟩, ?_⟩
      conv => whnf
      rw [show (⟨#[58]⟩ : ByteArray) = bs [58] from rfl, bs_append, bs_append]
      refine ⟨⟨⟨trivial, by simp only [bs_size, List.length_append, List.length_cons, List.length_nil]; omega⟩, by simp only [bs_size, List.length_append, List.length_cons, List.length_nil]; omega⟩, CallAt.fn (pre := []) _ (fun h s => s) (fun R' _ => sBytes hcn) ?_⟩
      rintro r hs ⟨g, rfl, rfl⟩
      conv => whnf
      refine ⟨trivial, ⟨⟨rfl, rfl⟩, fun h s => sub_tail s⟩, ?_⟩
      conv => whnf
      refine ⟨trivial, OpAt.bytesStr g (utfN cn).length (utfN cn).length (utfN cn) [] rfl (fun h s => s) rfl rfl rfl rfl rfl ?_⟩
      conv => whnf
      refine ⟨trivial, ⟨⟨rfl, rfl⟩, fun h s => sub_tail s⟩, ?_⟩
      conv => whnf
      rw [bs_append, show q ++ Lib.itoa x ++ [58] ++ utfN cn = printT (l.take (i + 1)) by rw [hnx]; simp]
      refine ⟨?_, ?_⟩
      · refine ⟨trivial, ?_⟩
        simp only [bs_size, List.length_append, List.length_cons, List.length_nil]
        omega
      conv => whnf
      refine ⟨⟨trivial, by unfold rng; omega⟩, .mk (i + 1) (by omega) (by omega) (Le.of (Nat.le_of_ble_eq_true rfl) (Nat.zero_le _) ⟨⟨rfl, rfl⟩, ⟨rfl, rfl⟩, ⟨rfl, rfl⟩, trivial⟩ trivial fun h s => sub_nil s)⟩
  · have g3 : i = n := by simp at h3; omega
    subst g3
    have e : l.take i = l := List.take_of_length_le (by omega)
    rw [e]
    conv => whnf
    exact ⟨trivial, fin_pure rfl rfl⟩
end Go.Proofs.YtkichbggmgppmaaDoor

/-
  The document's Same where both are the same bands; tint.Print where the bands are no legend; what is printed is read.
-/
namespace Go.Proofs.YtkichbggmgppmaaDoor
open Go.RowKit
open Sy
set_option linter.unusedVariables false
set_option linter.unusedSimpArgs false
set_option maxRecDepth 100000
set_option maxHeartbeats 4000000

theorem bd_eq (f s : Int) (w : World) : (Op.equalIn 10000 100 (.agg #[.int .i64 f, .int .i32 s]) (.agg #[.int .i64 f, .int .i32 s])).run Tryd.prog w = .ok true w :=
  (eq_agg 4 (by rfl) (by decide) (r := ((f == f) && ((s == s) && true))) (by kernel_rfl) w).trans (by simp)
theorem sSame33 {R : HP} {A B : Option Addr} {n c d : Nat} {l : List Bd} (hn : n ≤ 4611686018427387904) (ha : Sl R A n 2 (bcel l)) (hb : Sl R B n 2 (bcel l)) : PureR Tryd.prog R 24 [.slice A n c, .slice B n d] (.bool true) := by
  refine PureR.of_sat fun w hs => ?_
  obtain ⟨hl, sa⟩ := ha.spot (by omega) hs
  obtain ⟨hl', sb⟩ := hb.spot (by omega) hs
  rw [bcel_len] at hl hl'
  have e1 : l.length = n := by omega
  clear hs hl hl'
  refine fn_of_run0 false Tryd.func24 rfl hmix rfl fun w0 => ?_
  conv => whnf
  refine ⟨fun h => absurd h (by simp), fun _ => ?_⟩
  conv => whnf
  refine ⟨trivial, LoopAt.keep (α := Nat) [0, 1] (fun i => [(5, .v (.int .i64 (i : Int)))]) (fun i => i ≤ n) (fun i => n - i) 0 (Nat.zero_le _) rfl ⟨⟨rfl, rfl⟩, trivial⟩ ⟨⟨rfl, rfl⟩, ⟨rfl, rfl⟩, trivial⟩ trivial ?_⟩
  intro i hi
  conv => whnf
  refine ⟨fun h => ?_, fun h => ?_⟩
  · have hi2 : i < n := by simpa using h
    rcases sa with sa | ⟨b, off, rfl, sa⟩
    · omega
    rcases sb with sb | ⟨b', off', rfl, sb⟩
    · omega
    obtain ⟨f1, f2⟩ := bcel_F (l := l) (i := i) (by omega)
    generalize bF l i = x at *
    generalize bS l i = y at *
    conv => whnf
    refine ⟨trivial, RegAt.segs [8] hmix (by kernel_rfl) ?_⟩
    conv => whnf
    refine ⟨⟨trivial, by omega⟩, LoadAt.agg [.int .i64 x, .int .i32 y] rfl rfl rfl (fun w hw j v hj => ?_) ?_⟩
    · rw [Int.toNat_natCast, Nat.add_assoc]
      rcases j with _ | _ | j
      · simp at hj; rw [← hj]; exact sa w hw _ _ f1
      · simp at hj; rw [← hj]; exact sa w hw _ _ f2
      · simp at hj
    conv => whnf
    refine ⟨⟨trivial, by omega⟩, LoadAt.agg [.int .i64 x, .int .i32 y] rfl rfl rfl (fun w hw j v hj => ?_) ?_⟩
    · rw [Int.toNat_natCast, Nat.add_assoc]
      rcases j with _ | _ | j
      · simp at hj; rw [← hj]; exact sb w hw _ _ f1
      · simp at hj; rw [← hj]; exact sb w hw _ _ f2
      · simp at hj
    conv => whnf
    refine ⟨trivial, OpAt.aggNe rfl rfl rfl rfl (by kernel_rfl) (bd_eq x y) ?_⟩
    conv => whnf
    refine ⟨trivial, ?_⟩
    conv => whnf
    refine iff_f rfl ?_
    conv => whnf
    exact ⟨⟨trivial, by unfold rng; omega⟩, Next.keep (i + 1) (by omega) (by omega) ⟨⟨rfl, rfl⟩, trivial⟩ ⟨⟨rfl, rfl⟩, ⟨rfl, rfl⟩, trivial⟩ trivial rfl rfl rfl⟩
  · have g3 : i = n := by simp at h; omega
    subst g3
    conv => whnf
    exact ⟨trivial, fin_pure rfl rfl⟩
theorem sTPrintNo {R : HP} {A : Option Addr} {n c : Nat} {l : List Bd} (hn : n ≤ 9223372036854775807) (hc : n ≤ c) (ha : Sl R A n 2 (bcel l)) (hR : ¬ RightL l) : PureR Tryd.prog R 20 [.slice A n c] (.tuple #[.string (bs []), .int .i64 13]) := by
  have hr := fun R' (h : ∀ w, Sat R' w → Sat R w) => sTRight (c := c) hn hc (ha.mono h)
  rw [decide_eq_false hR] at hr
  refine fn_of_run0 false Tryd.func20 rfl hmix rfl fun w0 => ?_
  conv => whnf
  refine ⟨trivial, CallAt.pure (fun R' hR' => hr R' hR') ?_⟩
  conv => whnf
  repeat (first | (refine ⟨fun _ => ?_, fun h => absurd h (by decide)⟩; conv => whnf) | (refine ⟨fun h => absurd h (by decide), fun _ => ?_⟩; conv => whnf))
  exact ⟨trivial, fin_pure rfl rfl⟩
theorem TintPrints_walk (A : Option Addr) (n c : Nat) (l : List Bd) (w : World) (hW : ReadW w) (ha : Reads w w.heap.size 2 A n (bcel l)) (hn : n ≤ maxLen ∧ n ≤ c) :
    Calls Tryd.prog 4 #[.slice A n c] w fun e w' => e = .returned (.bool true) ∧ Below w.heap.size w w' := by
  refine PureR.below (args := [.slice A n c]) ?_
  have hRW : ∀ R' : HP, (∀ w', Sat R' w' → Sat (was w) w') → ∀ w', Sat R' w' → ReadW w' := fun R' h w' s => ⟨numW_keep hW.1 (h w' s), maxW_was hW.2 (h w' s)⟩
  refine PureR.of_sat fun wS hsat => ?_
  have hs := sl_of_reads (by decide) ha
  have hl : l.length = n := by have := ha.1; rw [bcel_len] at this; omega
  clear hsat wS
  have hn1 : n ≤ 9223372036854775807 := by have := hn.1; simp only [maxLen] at this; omega
  have hrr := fun R' (h : ∀ w', Sat R' w' → Sat (was w) w') => sRRight (c := c) hn1 (hs.mono h)
  by_cases h40 : 40 < n
  · refine fn_of_run0 false Tryd.func4 rfl hmix rfl fun w0 => ?_
    conv => whnf
    refine ⟨trivial, CallAt.pure (fun R' hR' => sAwake33 (hRW R' hR')) ?_⟩
    conv => whnf
    refine iff_f rfl ?_
    conv => whnf
    refine iff_t (by simp; omega) ?_
    conv => whnf
    exact ⟨trivial, fin_pure rfl rfl⟩
  · by_cases hR : RightL l
    · rw [decide_eq_true hR] at hrr
      have hpr := fun R' (h : ∀ w', Sat R' w' → Sat (was w) w') => sTPrint (c := c) (fun w' s => (hRW R' h w' s).1) hn1 hn.2 (hs.mono h) hR
      have hrp := fun R' (h : ∀ w', Sat R' w' → Sat (was w) w') => sRPrint33 (c := c) (by have := hR.2.1; omega) (hs.mono h) hR.good
      have hrd := readV_iff.2 ⟨hR, rfl⟩
      have hrd' := fun R' (h : ∀ w', Sat R' w' → Sat (was w) w') => sTRead (hRW R' h) hrd
      clear hrd
      rw [hl] at hrd'
      have hsm := fun R' B d (h : ∀ w', Sat R' w' → Sat (was w) w') (hB : Sl R' B n 2 (bcel l)) => sSame33 (R := R') (A := B) (c := d) (d := c) (by omega) hB (hs.mono h)
      generalize printT l = t at *
      refine fn_of_run0 false Tryd.func4 rfl hmix rfl fun w0 => ?_
      conv => whnf
      refine ⟨trivial, CallAt.pure (fun R' hR' => sAwake33 (hRW R' hR')) ?_⟩
      conv => whnf
      refine iff_f rfl ?_
      conv => whnf
      refine iff_f (by simp; omega) ?_
      conv => whnf
      refine ⟨trivial, CallAt.pure (fun R' hR' => hpr R' hR') ?_⟩
      conv => whnf
      refine ⟨trivial, CallAt.pure (fun R' hR' => hrr R' hR') ?_⟩
      conv => whnf
      repeat (first | (refine ⟨fun _ => ?_, fun h => absurd h (by decide)⟩; conv => whnf) | (refine ⟨fun h => absurd h (by decide), fun _ => ?_⟩; conv => whnf))
      refine ⟨trivial, CallAt.fn (pre := []) _ (fun h s => s) (fun R' hR' => hrd' R' hR') ?_⟩
      rintro r hs' ⟨B, d, rfl, rfl⟩
      conv => whnf
      refine iff_t rfl ?_
      conv => whnf
      refine ⟨trivial, CallAt.pure (fun R' hR' => hrp R' (fun w' s => (hR' w' s).rest)) ?_⟩
      conv => whnf
      refine iff_t (by simp) ?_
      conv => whnf
      refine iff_t rfl ?_
      conv => whnf
      refine ⟨trivial, CallAt.pure (fun R' hR' => hsm R' _ _ (fun w' s => (hR' w' s).rest) (Sl.row fun w s => (hR' w s).in_ 0 rfl)) ?_⟩
      conv => whnf
      exact ⟨trivial, fin_drop rfl⟩
    · rw [decide_eq_false hR] at hrr
      have hpr := fun R' (h : ∀ w', Sat R' w' → Sat (was w) w') => sTPrintNo (c := c) hn1 hn.2 (hs.mono h) hR
      refine fn_of_run0 false Tryd.func4 rfl hmix rfl fun w0 => ?_
      conv => whnf
      refine ⟨trivial, CallAt.pure (fun R' hR' => sAwake33 (hRW R' hR')) ?_⟩
      conv => whnf
      refine iff_f rfl ?_
      conv => whnf
      refine iff_f (by simp; omega) ?_
      conv => whnf
      refine ⟨trivial, CallAt.pure (fun R' hR' => hpr R' hR') ?_⟩
      conv => whnf
      refine ⟨trivial, CallAt.pure (fun R' hR' => hrr R' hR') ?_⟩
      conv => whnf
      repeat (first | (refine ⟨fun _ => ?_, fun h => absurd h (by decide)⟩; conv => whnf) | (refine ⟨fun h => absurd h (by decide), fun _ => ?_⟩; conv => whnf))
      exact ⟨trivial, fin_pure rfl rfl⟩
end Go.Proofs.YtkichbggmgppmaaDoor

