/-
  Texts of the proofs, one behind the other: QuadH, QuadX, QuadY, QuadZ, QuadPa, QuadG.
-/
import Derived.Test.YtojlgfkjnkjcmaaGreatDoorPartQa
import Derived.Test.YtojlgfkjnkjcmaaGreatDoorPartQb
import Derived.Test.YtojlgfkjnkjcmaaGreatDoorPartB
import Derived.Test.YtojlgfkjnkjcmaaGreatDoorPartV
import Derived.Test.YtojlgfkjnkjcmaaGreatDoorPartJ
import Derived.Test.YtojlgfkjnkjcmaaGreatDoorPartI
/-
  quad.Print: the text of a quad.
-/
namespace Go.Proofs.YtojlgfkjnkjcmaaGreatDoor
open Go.RowKit
open Sy
set_option linter.unusedVariables false
set_option linter.unusedSimpArgs false
set_option maxRecDepth 100000
set_option maxHeartbeats 4000000

theorem run_cut3 {G : Gl} {a b : Code} {st : St} {K R : St → Prop} {E : Nat → St → Prop} (h : ∀ b', b' = b → run G (.seq a b') st K E R) : run G (.seq a b) st K E R := h b rfl
theorem sPrintQ {R : HP} (hT : ∀ w, Sat R w → TabW w) {a : Nat} {W H : Int} {t : QT} (ha : ∀ w, Sat R w → QuadAt w a W H t) (hW : 1 ≤ W ∧ W ≤ 1024) (hH : 1 ≤ H ∧ H ≤ 1024) (hW2 : (Lib.itoa W).length ≤ 4) (hH2 : (Lib.itoa H).length ≤ 4) (hl : (printQ t).length ≤ 900000) :
    PureR Tryz.prog R 19 [ptV a] (.tuple #[.string (bs (textQ W H t)), .int .i64 0]) := by
  have hpr := fun (R' : HP) (h : ∀ w, Sat R' w → Sat R w) (n : Int) (h1 : 1 ≤ n) (h2 : n ≤ 1024) => sPrintW (R := R') (fun w s => hT w (h w s)) n (by omega) (by omega)
  have hprW := fun (R' : HP) (h : ∀ w, Sat R' w → Sat R w) => hpr R' h W hW.1 hW.2
  have hprH := fun (R' : HP) (h : ∀ w, Sat R' w → Sat R w) => hpr R' h H hH.1 hH.2
  clear hpr
  have htx : textQ W H t = Lib.itoa W ++ [32] ++ Lib.itoa H ++ [32] ++ printQ t := rfl
  generalize textQ W H t = tx at *
  generalize Lib.itoa W = sw at *
  generalize Lib.itoa H = sh at *
  have key : (bs sw ++ ⟨#[32]⟩ ++ bs sh ++ ⟨#[32]⟩ : ByteArray) = bs (sw ++ [32] ++ sh ++ [32]) := by
    rw [show (⟨#[32]⟩ : ByteArray) = bs [32] from rfl, bs_append, bs_append, bs_append]
  have k1 : (bs sw ++ ⟨#[32]⟩ : ByteArray).size + (bs sh).size ≤ 9223372036854775807 := by
    rw [show (⟨#[32]⟩ : ByteArray) = bs [32] from rfl, bs_append, bs_size, bs_size]
    simp only [List.length_append, List.length_cons, List.length_nil]
    omega
  have k2 : (bs sw ++ ⟨#[32]⟩ ++ bs sh : ByteArray).size + (⟨#[32]⟩ : ByteArray).size ≤ 9223372036854775807 := by
    rw [show (⟨#[32]⟩ : ByteArray) = bs [32] from rfl, bs_append, bs_append, bs_size, bs_size]
    simp only [List.length_append, List.length_cons, List.length_nil]
    omega
  have hws := fun (R' : HP) (bp : Nat) => sWriteString (R := R') (b := bp) (l := []) (sw ++ [32] ++ sh ++ [32]) (by simp only [List.length_append, List.length_cons, List.length_nil]; omega)
  rw [← key] at hws
  refine fn_of_run0 false Tryz.func19 rfl hmix rfl fun w0 => ?_
  refine run_cut3 fun B hB => ?_
  conv => whnf
  rw [hB]
  clear hB B
  refine run_cut3 fun B hB => ?_
  conv => whnf
  rw [hB]
  clear hB B
  refine run_cut3 fun B hB => ?_
  conv => whnf
  rw [hB]
  clear hB B
  refine run_cut3 fun B hB => ?_
  conv => whnf
  refine ⟨trivial, RegAt.trees [((Tr.T 0 (Tr.T 1 (Tr.T 2 (Tr.T 3 (Tr.T 6 (Tr.T 7 (Tr.T 8 (Tr.T 9 (Tr.H 4 (Tr.T 5 (Tr.H 10 Tr.E))))))))))), 11), ((Tr.T 11 Tr.E), 12), ((Tr.T 12 Tr.E), 13), ((Tr.H 13 Tr.E), 14)] hmix (by kernel_rfl) ?_⟩
  conv => whnf
  refine ⟨trivial, LoadAt.cell (.int .i64 W) rfl rfl (fun w hw => (ha w hw.rest).cell 0) ?_⟩
  conv => whnf
  refine ⟨trivial, LoadAt.cell (.int .i64 H) rfl rfl (fun w hw => (ha w hw.rest).cell 1) ?_⟩
  conv => whnf
  refine ⟨trivial, CallAt.pure (fun R' hR' => hprW R' hR') ?_⟩
  conv => whnf
  refine ⟨trivial, ⟨⟨rfl, rfl⟩, fun h s => sub_same s⟩, ?_⟩
  conv => whnf
  refine ⟨⟨trivial, by have : (⟨#[32]⟩ : ByteArray).size = 1 := rfl; rw [bs_size]; omega⟩, CallAt.pure (fun R' hR' => hprH R' hR') ?_⟩
  conv => whnf
  refine ⟨trivial, ⟨⟨rfl, rfl⟩, fun h s => sub_same s⟩, ?_⟩
  conv => whnf
  intro bp _
  conv => whnf
  refine ⟨⟨⟨trivial, k1⟩, k2⟩, CallAt.fn (pre := [bldH bp []]) _ (fun h s => bld_new s) (fun R' _ => hws R' bp) ?_⟩
  rintro r hs ⟨rfl, rfl⟩
  conv => whnf
  refine ⟨trivial, ?_⟩
  conv => whnf
  refine ⟨trivial, ?_⟩
  conv => whnf
  rw [hB]
  clear hB B
  refine run_cut3 fun B hB => ?_
  conv => whnf
  refine ⟨trivial, LoadAt.cell (.iface t.ty t.va) rfl rfl (fun w hw => (ha w hw.rest).cell 2) ?_⟩
  conv => whnf
  refine ⟨trivial, OpAt.enter (pre := [bldH bp ([] ++ (sw ++ [32] ++ sh ++ [32]))]) t.fn [t.va, ptV bp] [] (fun h s => s) rfl rfl (fun w => by cases t <;> kernel_rfl) (fun R' _ => sPrintT t bp ([] ++ (sw ++ [32] ++ sh ++ [32])) (by simp only [List.length_append, List.length_cons, List.length_nil]; omega)) ?_⟩
  rintro r hs ⟨rfl, rfl⟩
  conv => whnf
  rw [hB]
  clear hB B
  conv => whnf
  refine ⟨trivial, CallAt.fn (pre := [bldH bp ([] ++ (sw ++ [32] ++ sh ++ [32]) ++ printQ t)]) _ (fun h s => s) (fun R' _ => sBString (by simp) (by simp only [List.length_append, List.length_cons, List.length_nil]; omega)) ?_⟩
  rintro r hs ⟨rfl, rfl⟩
  conv => whnf
  rw [List.nil_append, ← htx]
  exact ⟨trivial, fin_drop rfl⟩
end Go.Proofs.YtojlgfkjnkjcmaaGreatDoor

/-
  The law's own question: has a quad a set's size, cells and text?
-/
namespace Go.Proofs.YtojlgfkjnkjcmaaGreatDoor
open Go.RowKit
open Sy
set_option linter.unusedVariables false
set_option linter.unusedSimpArgs false
set_option maxRecDepth 100000
set_option maxHeartbeats 4000000

theorem runQ_aggNe {G : Gl} {o : Oper} {st : St} {K : SV → Prop} {t ty : TypeId} {x y : Operand} {xs ys : Array Value} {r : Bool} (ho : o.op = .binOp .neq t x y ty) (hx : evR st x = .agg xs) (hy : evR st y = .agg ys) (hr : Sy.allR st o.op.operands.toList = true) (hg : G.P.eqGuardType G.P.depth t = false)
    (heq : ∀ w, (Op.equalIn 10000 t (.agg xs) (.agg ys)).run G.P w = .ok r w) (k : K (.v (.bool (!r)))) : RunQ G o st K := by
  refine .mk (.bool (!r)) (fun ρ a w m mm => ?_) k
  have hc : execOp a.eval o = execOp (evR st) o := execOp_congr o (fun cs b => notSel_spec (by rw [ho]; rfl) cs b) fun x hx => allR_sound m hr x (by simpa using hx)
  rw [hc]
  simp [execOp, ho, hx, hy, run_eqGuard_agg _ _ _ _ _ _ _ hg, binOp, Op.equal, Op.maxDepth, heq]
theorem dec_le : ∀ (k u : Nat), u < 10 ^ (k + 1) → (Lib.decDigits u).length ≤ k + 1
  | 0, u, h => by rw [dec_one (by simpa using h)]; simp
  | k + 1, u, h => by
    by_cases c : u < 10
    · rw [dec_one c]; simp
    · rw [Lib.decDigits, dif_neg c]
      have := dec_le k (u / 10) (by rw [Nat.pow_succ] at h; omega)
      simp only [List.length_append, List.length_cons, List.length_nil]
      omega
theorem itoa_len4 {n : Nat} (h : n ≤ 1024) : (Lib.itoa (n : Int)).length ≤ 4 := by
  unfold Lib.itoa
  rw [if_neg (by omega), Int.toNat_natCast]
  exact dec_le 3 n (by omega)
theorem rz_eq (f g : Rz) (w : World) : (Op.equalIn 10000 107 (.agg (rzC f).toArray) (.agg (rzC g).toArray)).run Tryz.prog w = .ok (decide (f = g)) w :=
  (eq_agg 4 (by rfl) (by decide) (r := (f.x0 == g.x0 && (f.y0 == g.y0 && (f.x1 == g.x1 && (f.y1 == g.y1 && true))))) (by kernel_rfl) w).trans (by
    congr 1
    obtain ⟨a, b, c, d⟩ := f
    obtain ⟨e, i, j, k⟩ := g
    rw [Bool.eq_iff_iff]
    simp)
theorem rSameRects {R : HP} {A B : Option Addr} {c d : Nat} {L : List Rz} (ha : Sl R A L.length 4 (rzs L)) (hb : Sl R B L.length 4 (rzs L)) (hl : L.length ≤ 9223372036854775806) : PureR Tryz.prog R 37 [.slice A L.length c, .slice B L.length d] (.bool true) := by
  refine PureR.of_sat fun w0 s0 => ?_
  obtain ⟨_, sa⟩ := ha.spot (by decide) s0
  obtain ⟨_, sb⟩ := hb.spot (by decide) s0
  refine fn_of_run0 false Tryz.func37 rfl hmix rfl fun w0 => ?_
  conv => whnf
  refine iff_f (by simp) ?_
  conv => whnf
  refine ⟨trivial, LoopAt.keep (α := Nat) [0, 1] (fun i => [(5, .v (.int .i64 (i : Int)))]) (fun i => i ≤ L.length) (fun i => L.length - i) 0 (Nat.zero_le _) rfl ⟨⟨rfl, rfl⟩, trivial⟩ ⟨⟨rfl, rfl⟩, ⟨rfl, rfl⟩, trivial⟩ trivial ?_⟩
  intro i hi
  conv => whnf
  refine ⟨fun h => ?_, fun h => ?_⟩
  · have h2 : i < L.length := by have := of_decide_eq_true h; omega
    have hat := rz_at h2
    rcases sa with sa | ⟨b, off, rfl, hc⟩
    · omega
    rcases sb with sb | ⟨b', off', rfl, hc'⟩
    · omega
    generalize L[i] = r at *
    have hl4 : (rzC r).length = 4 := rfl
    conv => whnf
    refine ⟨trivial, RegAt.quiet hmix (by kernel_rfl) ?_⟩
    conv => whnf
    refine ⟨(by (repeat' apply And.intro) <;> first | exact True.intro | (unfold rng; omega) | omega), LoadAt.agg (rzC r) rfl rfl rfl (fun w hw j v hj => ?_) ?_⟩
    · have hj4 := (List.getElem?_eq_some_iff.1 hj).1
      have := hc w hw (i * 4 + j) v (by rw [hat j (by omega)]; exact hj)
      rw [Int.toNat_natCast, Nat.add_assoc]
      exact this
    conv => whnf
    refine ⟨(by (repeat' apply And.intro) <;> first | exact True.intro | (unfold rng; omega) | omega), LoadAt.agg (rzC r) rfl rfl rfl (fun w hw j v hj => ?_) ?_⟩
    · have hj4 := (List.getElem?_eq_some_iff.1 hj).1
      have := hc' w hw (i * 4 + j) v (by rw [hat j (by omega)]; exact hj)
      rw [Int.toNat_natCast, Nat.add_assoc]
      exact this
    conv => whnf
    refine ⟨trivial, runQ_aggNe rfl rfl rfl rfl (by kernel_rfl) (rz_eq r r) ?_⟩
    conv => whnf
    refine ⟨trivial, ?_⟩
    conv => whnf
    refine ⟨fun h => absurd h (by simp), fun _ => ?_⟩
    conv => whnf
    exact ⟨(by (repeat' apply And.intro) <;> first | exact True.intro | (unfold rng; omega) | omega), Next.keep (i + 1) (by omega) (by omega) ⟨⟨rfl, rfl⟩, trivial⟩ ⟨⟨rfl, rfl⟩, ⟨rfl, rfl⟩, trivial⟩ trivial rfl rfl rfl⟩
  · conv => whnf
    exact ⟨trivial, fin_pure rfl rfl⟩
end Go.Proofs.YtojlgfkjnkjcmaaGreatDoor

/-
  The law's own question: a quad has a set's size, cells and text: the walk.
-/
namespace Go.Proofs.YtojlgfkjnkjcmaaGreatDoor
open Go.RowKit
open Sy
set_option linter.unusedVariables false
set_option linter.unusedSimpArgs false
set_option maxRecDepth 100000
set_option maxHeartbeats 4000000

def cntL (l : List Bool) : Int := (l.map b2i).sum
theorem cntL_take {l : List Bool} {i : Nat} (h : i < l.length) : cntL (l.take (i + 1)) = cntL (l.take i) + b2i l[i] := by
  unfold cntL
  rw [List.take_succ_eq_append_getElem h, List.map_append, List.sum_append]
  simp
theorem cntL_bnd : ∀ l : List Bool, 0 ≤ cntL l ∧ cntL l ≤ l.length
  | [] => by simp [cntL]
  | b :: l => by
    have := cntL_bnd l
    have hb : 0 ≤ b2i b ∧ b2i b ≤ 1 := by cases b <;> decide
    unfold cntL at *
    simp only [List.map_cons, List.sum_cons, List.length_cons]
    omega
theorem sIsQ {R : HP} {W H : Nat} {A : Option Addr} {c : Nat} {l : List Bool} {qb n : Nat} (hT : ∀ w, Sat R w → TabW w) (hq : QuadOf R qb W H n (gS W H l)) (hs : SetAt R W H A l) (hn : n ≤ 9) (hS : Side (max (W : Int) H) n) (hcnt : areasZ (leavesQ n (canon (gS W H l) n 0 0) 0 0) = cntL l) :
    PureR Tryz.prog R 15 [ptV qb, setV W H A (W * H) c] (.bool true) := by
  refine PureR.of_sat fun w0 s0 => ?_
  obtain ⟨w1, w2, h1, h2, hlen, sl⟩ := id hs
  obtain ⟨_, sp⟩ := sl.spot (by decide) s0
  have hm : W * H ≤ 1024 * 1024 := Nat.mul_le_mul w2 h2
  have hm1 : 1 * 1 ≤ W * H := Nat.mul_le_mul w1 h1
  obtain ⟨b, off, rfl, hc⟩ := sp.resolve_left (by omega)
  have hWH : (W : Int) * (H : Int) = ((W * H : Nat) : Int) := by rw [Int.natCast_mul]
  have hsz := fun R' (h : ∀ w, Sat R' w → Sat R w) => sSizeQ (R := R') (fun w s => hq w (h w s))
  have hpl : (printQ (canon (gS W H l) n 0 0)).length ≤ 900000 := by
    have := print_le (canon_fits (g := gS W H l) (n := n) (x := 0) (y := 0))
    have h4 : ∀ n, n ≤ 9 → 2 * 4 ^ n ≤ 524288 := by decide
    have h4 := h4 n hn
    omega
  have hpr := fun R' (h : ∀ w, Sat R' w → Sat R w) => sPrintQ (R := R') (fun w s => hT w (h w s)) (fun w s => hq w (h w s)) (by omega) (by omega) (itoa_len4 w2) (itoa_len4 h2) hpl
  have hrp := fun R' (h : ∀ w, Sat R' w → Sat R w) => rPrintQ (R := R') (c := c) (hs.mono h) (by omega) hS
  have hco := fun R' (h : ∀ w, Sat R' w → Sat R w) => sCountZ (R := R') (hq.mono h) (by omega) hS
  rw [hcnt] at hco
  have hlv := fun R' (h : ∀ w, Sat R' w → Sat R w) => sLeaves (R := R') (hq.mono h) (by omega) hS
  have hrl := fun R' (h : ∀ w, Sat R' w → Sat R w) => rLeavesQ (R := R') (c := c) (hs.mono h) (by omega) hS
  have hcap := leaves_cap (g := gS W H l) (n := n) (by omega)
  have hhas : ∀ R', (∀ w, Sat R' w → Sat R w) → ∀ i (h : i < l.length), PureR Tryz.prog R' 20 [ptV qb, ceV ((i % W : Nat) : Int) ((i / W : Nat) : Int)] (.bool l[i]) := fun R' h i hi => by
    have hx : i % W < W := Nat.mod_lt _ w1
    have hy : i / W < H := Nat.div_lt_of_lt_mul (by omega)
    have hx0 : (0 : Int) ≤ ((i % W : Nat) : Int) := Int.natCast_nonneg _
    have hy0 : (0 : Int) ≤ ((i / W : Nat) : Int) := Int.natCast_nonneg _
    have hx1 : ((i % W : Nat) : Int) < W := Int.ofNat_lt.2 hx
    have hy1 : ((i / W : Nat) : Int) < H := Int.ofNat_lt.2 hy
    have := sHasIn (R := R') (hq.mono h) (by omega) hS (u := ((i % W : Nat) : Int)) (v := ((i / W : Nat) : Int)) ⟨hx0, hx1⟩ ⟨hy0, hy1⟩
    have e : gS W H l ((i % W : Nat) : Int) ((i / W : Nat) : Int) = l[i] := by
      unfold gS inQ inL
      rw [decide_eq_true hx1, decide_eq_true hy1, Bool.true_and, Bool.true_and]
      rw [show (((i / W : Nat) : Int) * W + ((i % W : Nat) : Int)).toNat = i by
        rw [← Int.natCast_mul, ← Int.natCast_add, Int.toNat_natCast]
        have := Nat.div_add_mod i W
        rw [Nat.mul_comm]; exact this]
      rw [List.getElem?_eq_getElem hi]
      rfl
    rwa [e] at this
  generalize leavesQ n (canon (gS W H l) n 0 0) 0 0 = L at *
  generalize textQ W H (canon (gS W H l) n 0 0) = tx at *
  clear hq hs hS sl hT
  generalize hN : W * H = N at *
  refine fn_of_run0 true Tryz.func15 rfl hmix rfl fun w0 => ?_
  conv => whnf
  refine ⟨trivial, CallAt.pure (fun R' hR' => hsz R' hR') ?_⟩
  conv => whnf
  refine ⟨trivial, CallAt.pure (fun R' hR' => hpr R' hR') ?_⟩
  conv => whnf
  refine ⟨trivial, LoopAt.keep (α := Nat) [0, 3, 5, 6, 7, 8] (fun i => [(9, .v (.int .i64 (cntL (l.take i)))), (10, .v (.int .i64 (i : Int)))]) (fun i => i ≤ N) (fun i => N - i) 0 (Nat.zero_le _) rfl ⟨⟨rfl, rfl⟩, ⟨rfl, rfl⟩, trivial⟩ ⟨⟨rfl, rfl⟩, ⟨rfl, rfl⟩, ⟨rfl, rfl⟩, ⟨rfl, rfl⟩, ⟨rfl, rfl⟩, ⟨rfl, rfl⟩, trivial⟩ ⟨⟨rfl, rfl, rfl, rfl⟩, trivial⟩ ?_⟩
  intro i hi
  conv => whnf
  rw [hWH]
  refine ⟨fun h => ?_, fun h => ?_⟩
  · have h3 : i < N := by have := of_decide_eq_true h; omega
    have hat := bls_at (l := l) (i := i) (by omega)
    have hca := fun w s => hc w s i _ hat
    have hct := cntL_take (l := l) (i := i) (by omega)
    have hcb := cntL_bnd (l.take i)
    have hhi := fun R' h => hhas R' h i (by omega)
    rw [List.length_take] at hcb
    generalize l[i]'(by omega) = z at *
    have ht : Int.tmod (i : Int) W = ((i % W : Nat) : Int) := by rw [Int.tmod_eq_emod_of_nonneg (by omega)]; exact (Int.natCast_emod i W).symm
    have hd : Int.tdiv (i : Int) W = ((i / W : Nat) : Int) := by rw [Int.tdiv_eq_ediv_of_nonneg (by omega)]; exact (Int.natCast_ediv i W).symm
    have hwr : IntKind.i64.wrap ((i / W : Nat) : Int) = ((i / W : Nat) : Int) := by
      have : i / W ≤ i := Nat.div_le_self _ _
      have h0 : (0 : Int) ≤ ((i / W : Nat) : Int) := Int.natCast_nonneg _
      have h1 : ((i / W : Nat) : Int) ≤ (i : Int) := Int.ofNat_le.2 this
      generalize ((i / W : Nat) : Int) = z at *
      simp [IntKind.wrap, IntKind.bits, IntKind.signed]
      omega
    cases z with
    | true =>
      conv => whnf
      refine ⟨(by (repeat' apply And.intro) <;> first | exact True.intro | (unfold rng; omega) | omega), LoadAt.cell (.bool true) rfl rfl (fun w hw => by have := hca w hw; simpa using this) ?_⟩
      conv => whnf
      repeat (first | (refine ⟨fun _ => ?_, fun h => absurd h (by decide)⟩; conv => whnf) | (refine ⟨fun h => absurd h (by decide), fun _ => ?_⟩; conv => whnf))
      refine ⟨(by (repeat' apply And.intro) <;> first | exact True.intro | (unfold rng; omega) | omega), RegAt.quiet hmix (by kernel_rfl) ?_⟩
      conv => whnf
      rw [ht, hd]
      refine ⟨?_, CallQ.pure (fun R' hR' => hhi R' hR') ?_⟩
      · repeat' apply And.intro
        all_goals first | exact True.intro | (unfold rng; omega) | omega | exact hwr | decide
      conv => whnf
      refine ⟨?_, LoadAt.cell (.bool true) rfl rfl (fun w hw => by have := hca w hw; simpa using this) ?_⟩
      · repeat' apply And.intro
        all_goals first | exact True.intro | (unfold rng; omega) | omega | exact hwr | decide
      conv => whnf
      refine ⟨trivial, ?_⟩
      conv => whnf
      repeat (first | (refine ⟨fun _ => ?_, fun h => absurd h (by decide)⟩; conv => whnf) | (refine ⟨fun h => absurd h (by decide), fun _ => ?_⟩; conv => whnf))
      refine ⟨?_, Next.keep (i + 1) (by omega) (by omega) ⟨⟨by rw [hct]; rfl, rfl⟩, ⟨rfl, rfl⟩, trivial⟩ ⟨⟨rfl, rfl⟩, ⟨rfl, rfl⟩, ⟨rfl, rfl⟩, ⟨rfl, rfl⟩, ⟨rfl, rfl⟩, ⟨rfl, rfl⟩, trivial⟩ ⟨⟨rfl, rfl, rfl, rfl⟩, trivial⟩ rfl rfl rfl⟩
      · repeat' apply And.intro
        all_goals first | exact True.intro | (unfold rng; omega) | omega | exact hwr | decide
    | false =>
      conv => whnf
      refine ⟨(by (repeat' apply And.intro) <;> first | exact True.intro | (unfold rng; omega) | omega), LoadAt.cell (.bool false) rfl rfl (fun w hw => by have := hca w hw; simpa using this) ?_⟩
      conv => whnf
      repeat (first | (refine ⟨fun _ => ?_, fun h => absurd h (by decide)⟩; conv => whnf) | (refine ⟨fun h => absurd h (by decide), fun _ => ?_⟩; conv => whnf))
      refine ⟨(by (repeat' apply And.intro) <;> first | exact True.intro | (unfold rng; omega) | omega), RegAt.quiet hmix (by kernel_rfl) ?_⟩
      conv => whnf
      rw [ht, hd]
      refine ⟨?_, CallQ.pure (fun R' hR' => hhi R' hR') ?_⟩
      · repeat' apply And.intro
        all_goals first | exact True.intro | (unfold rng; omega) | omega | exact hwr | decide
      conv => whnf
      refine ⟨?_, LoadAt.cell (.bool false) rfl rfl (fun w hw => by have := hca w hw; simpa using this) ?_⟩
      · repeat' apply And.intro
        all_goals first | exact True.intro | (unfold rng; omega) | omega | exact hwr | decide
      conv => whnf
      refine ⟨trivial, ?_⟩
      conv => whnf
      repeat (first | (refine ⟨fun _ => ?_, fun h => absurd h (by decide)⟩; conv => whnf) | (refine ⟨fun h => absurd h (by decide), fun _ => ?_⟩; conv => whnf))
      refine ⟨?_, Next.keep (i + 1) (by omega) (by omega) ⟨⟨by rw [hct, show b2i false = 0 from rfl, Int.add_zero]; rfl, rfl⟩, ⟨rfl, rfl⟩, trivial⟩ ⟨⟨rfl, rfl⟩, ⟨rfl, rfl⟩, ⟨rfl, rfl⟩, ⟨rfl, rfl⟩, ⟨rfl, rfl⟩, ⟨rfl, rfl⟩, trivial⟩ ⟨⟨rfl, rfl, rfl, rfl⟩, trivial⟩ rfl rfl rfl⟩
      · repeat' apply And.intro
        all_goals first | exact True.intro | (unfold rng; omega) | omega | exact hwr | decide
  · have h3 : i = N := by have := of_decide_eq_false h; omega
    subst h3
    rw [List.take_of_length_le (by omega)]
    conv => whnf
    refine ⟨(by (repeat' apply And.intro) <;> first | exact True.intro | (unfold rng; omega) | omega), RegAt.quietGroups 26 [([.T 27, .T 29, .H 28], 30), ([.H 30], 31), ([.H 31], 32), ([.T 32], 33), ([.T 33], 34)] hmix (by kernel_rfl) ?_⟩
    conv => whnf
    repeat (first | (refine ⟨fun _ => ?_, fun h => absurd h (by simp)⟩; conv => whnf) | fail)
    refine ⟨trivial, CallQ.pure (fun R' hR' => hrp R' hR') ?_⟩
    conv => whnf
    repeat (first | (refine ⟨fun _ => ?_, fun h => absurd h (by simp)⟩; conv => whnf) | fail)
    refine ⟨trivial, CallQ.pure (fun R' hR' => hco R' hR') ?_⟩
    conv => whnf
    repeat (first | (refine ⟨fun _ => ?_, fun h => absurd h (by simp)⟩; conv => whnf) | fail)
    refine ⟨trivial, CallAt.fn (pre := []) _ (fun h s => s) (fun R' hR' => hlv R' fun w s => (hR' w s).rest) ?_⟩
    rintro r hs ⟨A2, c2, hA2, rfl, rfl⟩
    conv => whnf
    refine ⟨trivial, ⟨⟨rfl, rfl⟩, fun h s => sub_tail s⟩, ?_⟩
    conv => whnf
    refine ⟨trivial, CallAt.fn (pre := []) _ (fun h s => s) (fun R' hR' => hrl R' fun w s => (hR' w s).rest) ?_⟩
    rintro r hs ⟨A3, c3, rfl, rfl⟩
    conv => whnf
    refine ⟨trivial, CallAt.pure (fun R' hR' => rSameRects (Sl.row fun w s => (hR' w s).in_ 1 rfl) (Sl.row fun w s => (hR' w s).in_ 0 rfl) (by omega)) ?_⟩
    conv => whnf
    refine ⟨trivial, ?_⟩
    conv => whnf
    exact ⟨trivial, fin_drop rfl⟩
end Go.Proofs.YtojlgfkjnkjcmaaGreatDoor

/-
  How many cells a set has, by its leaves: plain.
-/
namespace Go.Proofs.YtojlgfkjnkjcmaaGreatDoor
open Go.RowKit
open Sy
set_option linter.unusedVariables false
set_option linter.unusedSimpArgs false
set_option maxRecDepth 100000
set_option maxHeartbeats 4000000

theorem gS_at {W H : Nat} {l : List Bool} {u v : Nat} (hl : l.length = W * H) (hu : u < W) (hv : v < H) : gS W H l u v = (l[v * W + u]?).getD false := by
  unfold gS inQ inL
  rw [decide_eq_true (Int.ofNat_lt.2 hu), decide_eq_true (Int.ofNat_lt.2 hv), Bool.true_and, Bool.true_and]
  rw [show ((v : Int) * W + (u : Int)).toNat = v * W + u by rw [← Int.natCast_mul, ← Int.natCast_add, Int.toNat_natCast]]
theorem row_cnt {W H : Nat} {l : List Bool} (hl : l.length = W * H) {v : Nat} (hv : v < H) : ∀ j, j ≤ W → cnt (fun u => b2i (gS W H l u v)) 0 j = cntL (l.take (v * W + j)) - cntL (l.take (v * W))
  | 0, _ => by simp [cnt]
  | j + 1, hj => by
    have ih := row_cnt hl hv j (by omega)
    have hlt := ix_lt (W := W) (H := H) (u := j) (v := v) (by omega) hv
    have h1 := cntL_take (l := l) (i := v * W + j) (by omega)
    rw [cnt_step, ih, ← Nat.add_assoc, h1, show (0 : Int) + (j : Int) = (j : Int) by omega, gS_at hl (by omega) hv, List.getElem?_eq_getElem (by omega)]
    simp only [Option.getD_some]
    omega
theorem gS_out {W H : Nat} {l : List Bool} {u v : Int} (h : (W : Int) ≤ u ∨ (H : Int) ≤ v) : gS W H l u v = false := by
  unfold gS inQ
  rcases h with h | h
  · rw [decide_eq_false (show ¬ u < W by omega)]; rfl
  · rw [decide_eq_false (show ¬ v < H by omega), Bool.and_false]; rfl
theorem col_cnt {W H : Nat} {l : List Bool} (hl : l.length = W * H) (m : Nat) (hm : W ≤ m) : ∀ i, i ≤ H → cnt (fun v => cnt (fun u => b2i (gS W H l u v)) 0 m) 0 i = cntL (l.take (i * W))
  | 0, _ => by simp [cnt, cntL]
  | i + 1, hi => by
    rw [cnt_step, col_cnt hl m hm i (by omega), show (0 : Int) + (i : Int) = (i : Int) by omega, cnt_cut (k := W) m hm fun u hu => by rw [gS_out (.inl (by omega))]; rfl, row_cnt hl (by omega) W (Nat.le_refl _), show i * W + W = (i + 1) * W from (Nat.succ_mul i W).symm]
    omega
theorem cnt2_gS {W H : Nat} {l : List Bool} (hl : l.length = W * H) {m : Nat} (hW : W ≤ m) (hH : H ≤ m) : cnt2 (gS W H l) 0 0 m m = cntL l := by
  unfold cnt2
  rw [cnt_cut (k := H) m hH fun v hv => cnt_zero fun u _ _ => by rw [gS_out (.inr (by omega))]; rfl, col_cnt hl m hW H (Nat.le_refl _), List.take_of_length_le (by rw [hl, Nat.mul_comm]; exact Nat.le_refl _)]
def okR (r : Rz) : Prop := 0 ≤ r.x0 ∧ r.x0 ≤ r.x1 ∧ r.x1 < 1024 ∧ 0 ≤ r.y0 ∧ r.y0 ≤ r.y1 ∧ r.y1 < 1024
theorem leaves_ok {W H : Nat} {l : List Bool} (w2 : W ≤ 1024) (h2 : H ≤ 1024) : ∀ (n : Nat) (x y : Int), 0 ≤ x → 0 ≤ y → ∀ r ∈ leavesQ n (canon (gS W H l) n x y) x y, okR r := by
  have leaf : ∀ (n : Nat) (x y : Int) (b : Bool), 0 ≤ x → 0 ≤ y → canon (gS W H l) n x y = .leaf b → ∀ r ∈ leavesQ n (.leaf b) x y, okR r := by
    intro n x y b x0 y0 hc r hr
    rw [leavesQ_leaf] at hr
    cases b with
    | false => simp at hr
    | true =>
      have hp := two_pos n
      simp only [if_pos, List.mem_singleton] at hr
      subst hr
      have h1 := canon_leaf.1 hc (x + 2 ^ n - 1) (y + 2 ^ n - 1) (by unfold InSq; omega)
      have hx : x + 2 ^ n - 1 < W := by
        rcases Int.lt_or_le (x + 2 ^ n - 1) W with c | c
        · exact c
        · rw [gS_out (.inl c)] at h1; cases h1
      have hy : y + 2 ^ n - 1 < H := by
        rcases Int.lt_or_le (y + 2 ^ n - 1) H with c | c
        · exact c
        · rw [gS_out (.inr c)] at h1; cases h1
      unfold okR
      simp only
      omega
  intro n
  induction n with
  | zero =>
    intro x y x0 y0 r hr
    rcases hc : canon (gS W H l) 0 x y with b | ⟨a, b, c, d⟩
    · rw [hc] at hr
      exact leaf 0 x y b x0 y0 hc r hr
    · obtain ⟨m, e, _⟩ := canon_node hc
      omega
  | succ n ih =>
    intro x y x0 y0 r hr
    rcases hc : canon (gS W H l) (n + 1) x y with b | ⟨a, b, c, d⟩
    · rw [hc] at hr
      exact leaf (n + 1) x y b x0 y0 hc r hr
    · rw [hc, leavesQ_node] at hr
      obtain ⟨m, e, rfl, rfl, rfl, rfl⟩ := canon_node hc
      obtain rfl : m = n := by omega
      have hp := two_pos m
      simp only [List.mem_append] at hr
      rcases hr with ((hr | hr) | hr) | hr
      · exact ih x y x0 y0 r hr
      · exact ih _ _ (by omega) y0 r hr
      · exact ih _ _ x0 (by omega) r hr
      · exact ih _ _ (by omega) (by omega) r hr
theorem areasZ_eq : ∀ {L : List Rz}, (∀ r ∈ L, okR r) → areasZ L = areas L
  | [], _ => rfl
  | r :: L, h => by
    have h1 := areasZ_eq fun r' hr => h r' (List.mem_cons_of_mem _ hr)
    obtain ⟨a, b, c, d, e, f⟩ := h r List.mem_cons_self
    simp only [areasZ, areas, h1, areaR]
    unfold areaZ
    rw [if_pos ((right_iff _ _ _ _).2 ⟨by omega, by omega, by omega, by omega, by omega, by omega⟩)]
theorem cnt_leaves {W H : Nat} {l : List Bool} (hl : l.length = W * H) (w2 : W ≤ 1024) (h2 : H ≤ 1024) {n : Nat} (hS : Side (max (W : Int) H) n) : areasZ (leavesQ n (canon (gS W H l) n 0 0) 0 0) = cntL l := by
  have h := hS.1
  rw [← pow_cast] at h
  rw [areasZ_eq (leaves_ok w2 h2 n 0 0 (Int.le_refl _) (Int.le_refl _)), areas_canon, cnt2_gS hl (by omega) (by omega)]
end Go.Proofs.YtojlgfkjnkjcmaaGreatDoor

/-
  The tree that a list of signs begins with; which trees are a quad's: plain.
-/
namespace Go.Proofs.YtojlgfkjnkjcmaaGreatDoor
open Go.RowKit
set_option linter.unusedVariables false
set_option linter.unusedSimpArgs false
set_option maxRecDepth 100000
set_option maxHeartbeats 4000000

def parse1 (k : List Nat → Option (QT × List Nat)) : List Nat → Option (QT × List Nat)
  | [] => none
  | c :: r => if c = 46 then some (.leaf false, r) else if c = 35 then some (.leaf true, r) else if c = 43 then k r else none
theorem parse1_cons (k : List Nat → Option (QT × List Nat)) (c : Nat) (r : List Nat) : parse1 k (c :: r) = if c = 46 then some (.leaf false, r) else if c = 35 then some (.leaf true, r) else if c = 43 then k r else none := rfl
def kids4 (f : List Nat → Option (QT × List Nat)) (l : List Nat) : Option (QT × List Nat) :=
  (f l).bind fun p => (f p.2).bind fun q => (f q.2).bind fun s => (f s.2).bind fun t => some (.node p.1 q.1 s.1 t.1, t.2)
/-- the tree of at most n halvings that a list begins with, and what is behind it -/
def parseQ : Nat → List Nat → Option (QT × List Nat)
  | 0 => parse1 fun _ => none
  | n + 1 => parse1 (kids4 (parseQ n))
def sgnQ (l : List UInt8) : List Nat := l.map UInt8.toNat
theorem sgnQ_append (a b : List UInt8) : sgnQ (a ++ b) = sgnQ a ++ sgnQ b := List.map_append
/-- four trees, one behind the other -/
def Chain (f : List Nat → Option (QT × List Nat)) (Rs : Nat → List Nat) (K : Nat → QT) (j : Nat) : Prop := ∀ i, i < j → f (Rs i) = some (K i, Rs (i + 1))
theorem kids4_some {f : List Nat → Option (QT × List Nat)} {l r : List Nat} {t : QT} (h : kids4 f l = some (t, r)) : ∃ Rs K, Rs 0 = l ∧ Rs 4 = r ∧ t = .node (K 0) (K 1) (K 2) (K 3) ∧ Chain f Rs K 4 := by
  unfold kids4 at h
  obtain ⟨⟨k0, r1⟩, e0, h⟩ := Option.bind_eq_some_iff.1 h
  obtain ⟨⟨k1, r2⟩, e1, h⟩ := Option.bind_eq_some_iff.1 h
  obtain ⟨⟨k2, r3⟩, e2, h⟩ := Option.bind_eq_some_iff.1 h
  obtain ⟨⟨k3, r4⟩, e3, h⟩ := Option.bind_eq_some_iff.1 h
  injection h with h
  injection h with h1 h2
  simp only at e0 e1 e2 e3 h1 h2
  refine ⟨fun i => if i = 0 then l else if i = 1 then r1 else if i = 2 then r2 else if i = 3 then r3 else r4, QT.kid k0 k1 k2 k3, rfl, h2, h1.symm, fun i hi => ?_⟩
  rcases (show i = 0 ∨ i = 1 ∨ i = 2 ∨ i = 3 by omega) with rfl | rfl | rfl | rfl
  · exact e0
  · exact e1
  · exact e2
  · exact e3
theorem kids4_none {f : List Nat → Option (QT × List Nat)} {l : List Nat} (h : kids4 f l = none) : ∃ j Rs K, j < 4 ∧ Rs 0 = l ∧ Chain f Rs K j ∧ f (Rs j) = none := by
  unfold kids4 at h
  cases e0 : f l with
  | none => exact ⟨0, fun _ => l, fun _ => .leaf false, by omega, rfl, fun i hi => by omega, e0⟩
  | some p =>
    rw [e0] at h
    simp only [Option.bind_some] at h
    cases e1 : f p.2 with
    | none =>
      refine ⟨1, fun i => if i = 0 then l else p.2, fun _ => p.1, by omega, rfl, fun i hi => ?_, e1⟩
      obtain rfl : i = 0 := by omega
      exact e0
    | some q =>
      rw [e1] at h
      simp only [Option.bind_some] at h
      cases e2 : f q.2 with
      | none =>
        refine ⟨2, fun i => if i = 0 then l else if i = 1 then p.2 else q.2, fun i => if i = 0 then p.1 else q.1, by omega, rfl, fun i hi => ?_, e2⟩
        rcases (show i = 0 ∨ i = 1 by omega) with rfl | rfl
        · exact e0
        · exact e1
      | some s =>
        rw [e2] at h
        simp only [Option.bind_some] at h
        cases e3 : f s.2 with
        | none =>
          refine ⟨3, fun i => if i = 0 then l else if i = 1 then p.2 else if i = 2 then q.2 else s.2, fun i => if i = 0 then p.1 else if i = 1 then q.1 else s.1, by omega, rfl, fun i hi => ?_, e3⟩
          rcases (show i = 0 ∨ i = 1 ∨ i = 2 by omega) with rfl | rfl | rfl
          · exact e0
          · exact e1
          · exact e2
        | some t =>
          rw [e3] at h
          cases h
/-- what a list begins with -/
theorem parse_cases (n : Nat) (l : List Nat) : (l = [] ∧ parseQ n l = none) ∨ (∃ r, l = 46 :: r ∧ parseQ n l = some (.leaf false, r)) ∨ (∃ r, l = 35 :: r ∧ parseQ n l = some (.leaf true, r)) ∨
    (∃ c r, l = c :: r ∧ c ≠ 46 ∧ c ≠ 35 ∧ (c ≠ 43 ∨ n = 0) ∧ parseQ n l = none) ∨ ∃ m r, n = m + 1 ∧ l = 43 :: r ∧ parseQ n l = kids4 (parseQ m) r := by
  have go : ∀ k, (parseQ n = parse1 k) → (l = [] ∧ parseQ n l = none) ∨ (∃ r, l = 46 :: r ∧ parseQ n l = some (.leaf false, r)) ∨ (∃ r, l = 35 :: r ∧ parseQ n l = some (.leaf true, r)) ∨ (∃ c r, l = c :: r ∧ c ≠ 46 ∧ c ≠ 35 ∧ c ≠ 43 ∧ parseQ n l = none) ∨ ∃ r, l = 43 :: r ∧ parseQ n l = k r := by
    intro k hk
    rw [hk]
    cases l with
    | nil => exact .inl ⟨rfl, rfl⟩
    | cons c r =>
      right
      rw [parse1_cons]
      by_cases h1 : c = 46
      · subst h1; exact .inl ⟨r, rfl, rfl⟩
      · right
        rw [if_neg h1]
        by_cases h2 : c = 35
        · subst h2; exact .inl ⟨r, rfl, rfl⟩
        · right
          rw [if_neg h2]
          by_cases h3 : c = 43
          · subst h3; exact .inr ⟨r, rfl, rfl⟩
          · rw [if_neg h3]
            exact .inl ⟨c, r, rfl, h1, h2, h3, rfl⟩
  cases n with
  | zero =>
    rcases go _ rfl with h | h | h | ⟨c, r, a, b, d, e, f⟩ | ⟨r, a, b⟩
    · exact .inl h
    · exact .inr (.inl h)
    · exact .inr (.inr (.inl h))
    · exact .inr (.inr (.inr (.inl ⟨c, r, a, b, d, .inl e, f⟩)))
    · exact .inr (.inr (.inr (.inl ⟨43, r, a, by decide, by decide, .inr rfl, b⟩)))
  | succ m =>
    rcases go _ rfl with h | h | h | ⟨c, r, a, b, d, e, f⟩ | ⟨r, a, b⟩
    · exact .inl h
    · exact .inr (.inl h)
    · exact .inr (.inr (.inl h))
    · exact .inr (.inr (.inr (.inl ⟨c, r, a, b, d, .inl e, f⟩)))
    · exact .inr (.inr (.inr (.inr ⟨m, r, rfl, a, b⟩)))
theorem parse_print : ∀ (n : Nat) (t : QT) (r : List Nat), fitsQ n t → parseQ n (sgnQ (printQ t) ++ r) = some (t, r)
  | 0, .leaf b, r, _ => by cases b <;> rfl
  | 0, .node _ _ _ _, r, h => h.elim
  | n + 1, .leaf b, r, _ => by cases b <;> rfl
  | n + 1, .node a b c d, r, h => by
    have h1 := parse_print n a (sgnQ (printQ b) ++ (sgnQ (printQ c) ++ (sgnQ (printQ d) ++ r))) h.1
    have h2 := parse_print n b (sgnQ (printQ c) ++ (sgnQ (printQ d) ++ r)) h.2.1
    have h3 := parse_print n c (sgnQ (printQ d) ++ r) h.2.2.1
    have h4 := parse_print n d r h.2.2.2
    have e : sgnQ (printQ (.node a b c d)) ++ r = 43 :: (sgnQ (printQ a) ++ (sgnQ (printQ b) ++ (sgnQ (printQ c) ++ (sgnQ (printQ d) ++ r)))) := by
      simp [printQ, sgnQ]
    rw [e]
    show kids4 (parseQ n) _ = _
    unfold kids4
    simp only [h1, h2, h3, h4, Option.bind_some]
theorem parse_sound : ∀ (n : Nat) (l : List Nat) (t : QT) (r : List Nat), parseQ n l = some (t, r) → fitsQ n t ∧ l = sgnQ (printQ t) ++ r := by
  intro n
  induction n with
  | zero =>
    intro l t r h
    rcases parse_cases 0 l with ⟨_, e⟩ | ⟨q, rfl, e⟩ | ⟨q, rfl, e⟩ | ⟨c, q, _, _, _, _, e⟩ | ⟨m, q, e, _⟩
    · rw [e] at h; cases h
    · rw [e] at h; cases h; exact ⟨trivial, rfl⟩
    · rw [e] at h; cases h; exact ⟨trivial, rfl⟩
    · rw [e] at h; cases h
    · omega
  | succ n ih =>
    intro l t r h
    rcases parse_cases (n + 1) l with ⟨_, e⟩ | ⟨q, rfl, e⟩ | ⟨q, rfl, e⟩ | ⟨c, q, _, _, _, _, e⟩ | ⟨m, q, e, rfl, e2⟩
    · rw [e] at h; cases h
    · rw [e] at h; cases h; exact ⟨trivial, rfl⟩
    · rw [e] at h; cases h; exact ⟨trivial, rfl⟩
    · rw [e] at h; cases h
    · obtain rfl : m = n := by omega
      rw [e2] at h
      obtain ⟨Rs, K, rfl, rfl, rfl, hc⟩ := kids4_some h
      have h0 := ih _ _ _ (hc 0 (by omega))
      have h1 := ih _ _ _ (hc 1 (by omega))
      have h2 := ih _ _ _ (hc 2 (by omega))
      have h3 := ih _ _ _ (hc 3 (by omega))
      refine ⟨⟨h0.1, h1.1, h2.1, h3.1⟩, ?_⟩
      rw [h0.2, h1.2, h2.2, h3.2]
      simp [printQ, sgnQ]
def isL : QT → Bool
  | .leaf _ => true
  | .node _ _ _ _ => false
/-- is it a tree that no quad has? -/
def oddQ (W H : Int) : Nat → QT → Int → Int → Bool
  | n, .leaf b, x, y => b && (decide (W < x + 2 ^ n) || decide (H < y + 2 ^ n))
  | 0, .node _ _ _ _, _, _ => false
  | n + 1, .node a b c d, x, y => oddQ W H n a x y || oddQ W H n b (x + 2 ^ n) y || oddQ W H n c x (y + 2 ^ n) || oddQ W H n d (x + 2 ^ n) (y + 2 ^ n) || isL (fourQ a b c d)
theorem oddQ_leaf (W H : Int) (n : Nat) (b : Bool) (x y : Int) : oddQ W H n (.leaf b) x y = (b && (decide (W < x + 2 ^ n) || decide (H < y + 2 ^ n))) := by cases n <;> rfl
theorem lookQ_leaf (n : Nat) (b : Bool) (x y u v : Int) : lookQ n (.leaf b) x y u v = b := by cases n <;> rfl
theorem odd_leaf {W H : Int} {n : Nat} {b : Bool} {x y : Int} : oddQ W H n (.leaf b) x y = false ↔ canon (inQ W H (lookQ n (.leaf b) x y)) n x y = .leaf b := by
  have hp := two_pos n
  rw [oddQ_leaf, canon_leaf]
  cases b with
  | false =>
    simp only [Bool.false_and, true_iff]
    intro u v _
    unfold inQ
    rw [lookQ_leaf, Bool.and_false]
  | true =>
    rw [Bool.true_and]
    constructor
    · intro h u v i
      have h1 : ¬ W < x + 2 ^ n := fun c => by rw [decide_eq_true c] at h; simp at h
      have h2 : ¬ H < y + 2 ^ n := fun c => by rw [decide_eq_true c] at h; simp at h
      unfold InSq at i
      unfold inQ
      rw [lookQ_leaf, decide_eq_true (by omega), decide_eq_true (by omega)]
      rfl
    · intro h
      have := h (x + 2 ^ n - 1) (y + 2 ^ n - 1) (by unfold InSq; omega)
      unfold inQ at this
      rw [lookQ_leaf, Bool.and_true, Bool.and_eq_true] at this
      have h1 := of_decide_eq_true this.1
      have h2 := of_decide_eq_true this.2
      rw [decide_eq_false (by omega), decide_eq_false (by omega)]
      rfl
theorem odd_canon {W H : Int} : ∀ {n : Nat} {t : QT} {x y : Int}, fitsQ n t → (oddQ W H n t x y = false ↔ canon (inQ W H (lookQ n t x y)) n x y = t) := fun {n} => by
  induction n with
  | zero =>
    intro t x y hf
    cases t with
    | leaf b => exact odd_leaf
    | node => exact hf.elim
  | succ n ih =>
    intro t x y hf
    cases t with
    | leaf b => exact odd_leaf
    | node a b c d =>
      have hp := two_pos n
      have key : ∀ (k : QT) (x' y' : Int), (∀ u v, InSq n x' y' u v → lookQ (n + 1) (.node a b c d) x y u v = lookQ n k x' y' u v) → canon (inQ W H (lookQ (n + 1) (.node a b c d) x y)) n x' y' = canon (inQ W H (lookQ n k x' y')) n x' y' := fun k x' y' h => canon_congr fun u v i => by
        unfold inQ
        rw [h u v i]
      have ka := key a x y fun u v i => by
        unfold InSq at i
        simp only [lookQ]
        rw [if_pos (by omega), if_pos (by omega)]
      have kb := key b (x + 2 ^ n) y fun u v i => by
        unfold InSq at i
        simp only [lookQ]
        rw [if_neg (by omega), if_pos (by omega)]
      have kc := key c x (y + 2 ^ n) fun u v i => by
        unfold InSq at i
        simp only [lookQ]
        rw [if_pos (by omega), if_neg (by omega)]
      have kd := key d (x + 2 ^ n) (y + 2 ^ n) fun u v i => by
        unfold InSq at i
        simp only [lookQ]
        rw [if_neg (by omega), if_neg (by omega)]
      have e : canon (inQ W H (lookQ (n + 1) (.node a b c d) x y)) (n + 1) x y = fourQ (canon (inQ W H (lookQ n a x y)) n x y) (canon (inQ W H (lookQ n b (x + 2 ^ n) y)) n (x + 2 ^ n) y) (canon (inQ W H (lookQ n c x (y + 2 ^ n))) n x (y + 2 ^ n)) (canon (inQ W H (lookQ n d (x + 2 ^ n) (y + 2 ^ n))) n (x + 2 ^ n) (y + 2 ^ n)) := by
        rw [← ka, ← kb, ← kc, ← kd]
        rfl
      have ia := ih (t := a) (x := x) (y := y) hf.1
      have ib := ih (t := b) (x := x + 2 ^ n) (y := y) hf.2.1
      have ic := ih (t := c) (x := x) (y := y + 2 ^ n) hf.2.2.1
      have id := ih (t := d) (x := x + 2 ^ n) (y := y + 2 ^ n) hf.2.2.2
      rw [e]
      simp only [oddQ, Bool.or_eq_false_iff]
      constructor
      · rintro ⟨⟨⟨⟨h1, h2⟩, h3⟩, h4⟩, h5⟩
        rw [ia.1 h1, ib.1 h2, ic.1 h3, id.1 h4]
        rcases fourQ_or a b c d with ⟨z, hz, _⟩ | hz
        · rw [hz] at h5; cases h5
        · exact hz
      · intro h
        rcases fourQ_or (canon (inQ W H (lookQ n a x y)) n x y) (canon (inQ W H (lookQ n b (x + 2 ^ n) y)) n (x + 2 ^ n) y) (canon (inQ W H (lookQ n c x (y + 2 ^ n))) n x (y + 2 ^ n)) (canon (inQ W H (lookQ n d (x + 2 ^ n) (y + 2 ^ n))) n (x + 2 ^ n) (y + 2 ^ n)) with ⟨z, hz, _⟩ | hz
        · rw [hz] at h; cases h
        · have h' := h
          rw [hz] at h
          injection h with h1 h2 h3 h4
          rw [h1, h2, h3, h4] at h'
          exact ⟨⟨⟨⟨ia.2 h1, ib.2 h2⟩, ic.2 h3⟩, id.2 h4⟩, by rw [h']; rfl⟩
end Go.Proofs.YtojlgfkjnkjcmaaGreatDoor

/-
  The chapter's example; what isn't there has no cells, two sizes are told: the walk of QuadSizes.
-/
namespace Go.Proofs.YtojlgfkjnkjcmaaGreatDoor
open Go.RowKit
open Sy
set_option linter.unusedVariables false
set_option linter.unusedSimpArgs false
set_option maxRecDepth 100000
set_option maxHeartbeats 4000000

theorem tab_keep {W w : World} (h : TabW W) (s : Sat (was W) w) : TabW w := by
  have key : ∀ n cs, W.var? Tryz.prog n = some cs → w.var? Tryz.prog n = some cs := fun n cs e => by
    unfold World.var? at e ⊢
    obtain ⟨g, hg, e⟩ := Option.bind_eq_some_iff.1 e
    rw [hg]
    simp only [Option.bind_some]
    split at e
    · rename_i cs' _ _ hh
      rw [was_ext s hh]
      exact e
    · cases e
  exact key _ _ h
theorem side_ex : ∀ (k : Nat) (m : Int), m ≤ 2 ^ k → ∃ n, n ≤ k ∧ Side m n
  | 0, m, h => ⟨0, Nat.le_refl _, h, fun k hk => absurd hk (Nat.not_lt_zero _)⟩
  | k + 1, m, h => by
    by_cases c : m ≤ 2 ^ k
    · obtain ⟨n, h1, h2⟩ := side_ex k m c
      exact ⟨n, by omega, h2⟩
    · refine ⟨k + 1, Nat.le_refl _, h, fun j hj => ?_⟩
      have : (2 : Int) ^ j ≤ 2 ^ k := by
        have hm : ∀ i, (2 : Int) ^ j ≤ 2 ^ (j + i) := fun i => by
          induction i with
          | zero => exact Int.le_refl _
          | succ i ih =>
            have h2 := two_succ (j + i)
            have h3 := two_pos (j + i)
            rw [← Nat.add_assoc]
            omega
        have := hm (k - j)
        rwa [show j + (k - j) = k by omega] at this
      omega
theorem side_of {W H : Nat} (h1 : 1 ≤ W) (h2 : W ≤ 1024) (h3 : 1 ≤ H) (h4 : H ≤ 1024) : ∃ n, n ≤ 10 ∧ Side (max (W : Int) H) n := side_ex 10 _ (by omega)
def exQ : QT := .node (.leaf true) (.leaf false) (.leaf true) (.leaf true)
theorem ex_canon : canon (inQ (2 : Nat) (2 : Nat) (overQ (gv 2 [1, 0, 1, 1]) 1)) 1 0 0 = exQ := rfl
theorem itoa2 : Lib.itoa (2 : Nat) = [50] := by
  unfold Lib.itoa
  rw [if_neg (by decide), show ((2 : Nat) : Int).toNat = 2 from rfl, dec_one (by decide)]
  rfl
theorem ex_text : textQ (2 : Nat) (2 : Nat) exQ = [50, 32, 50, 32, 43, 35, 46, 35, 35] := by
  unfold textQ
  rw [itoa2]
  rfl
theorem sAwake50 {R : HP} (hT : ∀ w, Sat R w → TabW w) : PureR Tryz.prog R 6 [] (.bool true) := by
  have hof := fun R' gb h => sQOf (R := R') (gb := gb) (W := 2) (H := 2) (n := 1) (f := gv 2 [1, 0, 1, 1]) 1 h (by decide) ⟨by decide, by decide⟩
  rw [ex_canon] at hof
  have hpr := fun (R' : HP) (h : ∀ w, Sat R' w → Sat R w) (qb : Nat) (hq : ∀ w, Sat R' w → QuadAt w qb (2 : Nat) (2 : Nat) exQ) => sPrintQ (R := R') (fun w s => hT w (h w s)) hq (by decide) (by decide) (by rw [itoa2]; decide) (by rw [itoa2]; decide) (by decide)
  rw [ex_text] at hpr
  refine fn_of_run0 false Tryz.func6 rfl hmix rfl fun w0 => ?_
  conv => whnf
  refine ⟨trivial, OpAt.lit [.int .i64 1, .int .i64 0, .int .i64 1, .int .i64 1] 1 rfl rfl rfl rfl rfl (by decide) rfl rfl rfl (by simp [Value.cells]) rfl (by decide) fun g => ?_⟩
  conv => whnf
  refine ⟨trivial, CallAt.fn (pre := []) _ (fun h s => s) (fun R' hR' => sFrom (W := 2) (H := 2) (l := [1, 0, 1, 1]) (Vs.row fun w s => (hR' w s).in_ 0 rfl) (by simp [MayV]) (by decide) (by decide) (by decide) (by decide) rfl) ?_⟩
  rintro r hs ⟨gb, rfl, rfl⟩
  conv => whnf
  refine ⟨trivial, CallAt.fn (pre := []) _ (fun h s => s) (fun R' hR' => hof R' gb (gridAt_rest 0 rfl hR')) ?_⟩
  rintro r hs ⟨qb, rfl, rfl⟩
  conv => whnf
  refine ⟨trivial, CallAt.pure (fun R' hR' => hpr R' (fun w s => (hR' w s).rest) qb (fun w s => quadAt_of ((hR' w s).in_ 0 rfl))) ?_⟩
  conv => whnf
  repeat (first | (refine ⟨fun _ => ?_, fun h => absurd h (by decide)⟩; conv => whnf) | (refine ⟨fun h => absurd h (by decide), fun _ => ?_⟩; conv => whnf))
  exact ⟨trivial, fin_drop (by simp [mkRes]; rfl)⟩
end Go.Proofs.YtojlgfkjnkjcmaaGreatDoor

