/-
  The statement ViewGrows: for every input the call returns true. The texts: ViewH, ViewGrowsRow.
-/
import Derived.Test.YtfgmnkbiciaahaaPartR
import Derived.Test.YtfgmnkbiciaahaaPartO
import Derived.ProofKit
import Derived.OpenShut
import Derived.Lib.SmallJoins
/-
  The law ViewGrows.
-/
namespace Go.Proofs.Ytfgmnkbiciaahaa
open Go.RowKit
open Sy
set_option linter.unusedVariables false
set_option linter.unusedSimpArgs false
set_option maxRecDepth 100000
set_option maxHeartbeats 4000000

theorem RunQ.aggEq {G : Gl} {o : Oper} {st : St} {K : SV → Prop} {t ty : TypeId} {x y : Operand} {xs ys : Array Value} {r : Bool} (ho : o.op = .binOp .eql t x y ty) (hx : evR st x = .agg xs) (hy : evR st y = .agg ys) (hr : Sy.allR st o.op.operands.toList = true) (hg : G.P.eqGuardType G.P.depth t = false)
    (heq : ∀ w, (Op.equalIn 10000 t (.agg xs) (.agg ys)).run G.P w = .ok r w) (k : K (.v (.bool r))) : RunQ G o st K := by
  refine .mk (.bool r) (fun ρ a w m mm => ?_) k
  have hc : execOp a.eval o = execOp (evR st) o := execOp_congr o (fun cs b => notSel_spec (by rw [ho]; rfl) cs b) fun x hx => allR_sound m hr x (by simpa using hx)
  rw [hc]
  simp [execOp, ho, hx, hy, run_eqGuard_agg _ _ _ _ _ _ _ hg, binOp, Op.equal, Op.maxDepth, heq]
/-! a slot that another value of the same meaning takes -/
def leK (n : Nat) (src : List (Nat × SV)) : List (Nat × SV) → Prop
  | [] => True
  | (t, x) :: r => (∃ y, getT src t = some y ∧ (∀ ρ, SV.den ρ y = SV.den ρ x) ∧ nmOk n x = true) ∧ leK n src r
theorem leK_get {n : Nat} {src : List (Nat × SV)} : ∀ {l : List (Nat × SV)} {t : Nat} {x : SV}, leK n src l → getT l t = some x → ∃ y, getT src t = some y ∧ (∀ ρ, SV.den ρ y = SV.den ρ x) ∧ nmOk n x = true
  | [], t, x, _, h => by cases h
  | (k, y) :: l, t, x, hl, h => by
    simp only [getT] at h
    split at h
    · rename_i e
      have := beq_of e
      subst this
      injection h with h
      subst h
      exact hl.1
    · exact leK_get hl.2 h
theorem Le.ofK {G : Gl} {st st' : St} (hn : st'.n ≤ st.n) (hB : G.B.length ≤ st'.n) (ht : leK st'.n st.t st'.t) (ho : leO st'.n st.o st'.o) (hh : ∀ h, sepL st.h G.R h → ∃ h', (∀ i o, h' i = some o → h i = some o) ∧ sepL st'.h G.R h') : Le G st st' := by
  intro ρ a w m mm
  have hle : Le G st { st' with t := [] } := Le.of hn hB trivial ho hh
  obtain ⟨m1, m2, m3, m4, m5, m6, mk, h, m7, m8, m9⟩ := mm
  obtain ⟨h', hs, hp⟩ := hh h m8
  have at_ : ∀ k b, (ρ.take st'.n)[k]? = some b → ρ[k]? = some b := fun k b e => by
    rw [List.getElem?_take] at e
    split at e
    · exact e
    · cases e
  refine ⟨ρ.take st'.n, ⟨m.size, m.defs, fun t x e => ?_⟩, ⟨m1, by simp; omega, ?_, fun b hb => m4 b (List.mem_of_mem_take hb), leO_nodup ho, fun x hx => ?_, ?_, h', m7.mono hs, hp, fun x hx b e => ?_⟩⟩
  · obtain ⟨y, e1, e2, e3⟩ := leK_get ht e
    exact ⟨(m.get _ _ e1).1, den_cut (by rw [← e2]; exact (m.get _ _ e1).2) e3⟩
  · exact (List.take_sublist _ _).nodup m3
  · obtain ⟨x1, x2, x3⟩ := leO_mem ho hx
    obtain ⟨b, cs, e1, e2, e3⟩ := m6 x x1
    exact ⟨b, cs, by rw [List.getElem?_take_of_lt x2]; exact e1, denL_cut e2 x3, e3⟩
  · obtain ⟨q, rfl⟩ := mk
    exact ⟨q.take (st'.n - G.B.length), by rw [List.take_append, List.take_of_length_le hB]⟩
  · obtain ⟨x1, x2, x3⟩ := leO_mem ho hx
    have := m9 x x1 b (at_ _ _ e)
    cases e' : h' b with
    | none => rfl
    | some o => rw [hs b o e'] at this; cases this
theorem rowF_sub {p q : Nat × Nat → Bool} (h : ∀ c, p c = true → q c = true) (y : Nat) : ∀ x, (rowF p y x).Sublist (rowF q y x)
  | 0 => List.Sublist.refl _
  | x + 1 => by
    have ih := rowF_sub h y x
    cases hp : p (x, y) with
    | true =>
      rw [rowF_yes hp, rowF_yes (h _ hp)]
      exact ih.append (List.Sublist.refl _)
    | false =>
      rw [rowF_no hp]
      cases hq : q (x, y) with
      | true => rw [rowF_yes hq]; exact ih.trans (List.sublist_append_left _ _)
      | false => rw [rowF_no hq]; exact ih
theorem rowsF_sub {p q : Nat × Nat → Bool} (h : ∀ c, p c = true → q c = true) (W : Nat) : ∀ y, (rowsF p W y).Sublist (rowsF q W y)
  | 0 => List.Sublist.refl _
  | y + 1 => by
    rw [rowsF_succ, rowsF_succ]
    exact (rowsF_sub h W y).append (rowF_sub h y W)
theorem rowsF_mem {p : Nat × Nat → Bool} {W H x y : Nat} (hx : x < W) (hy : y < H) (h : p (x, y) = true) : (x, y) ∈ rowsF p W H := by
  unfold rowsF rowF
  rw [List.mem_flatMap]
  refine ⟨y, List.mem_range.2 hy, ?_⟩
  rw [List.mem_filter]
  exact ⟨List.mem_map.2 ⟨x, List.mem_range.2 hx, rfl⟩, h⟩
theorem inV_self {W H : Nat} {l : List Int} {a : P2} {ha hb n : Int} (ga : inG W H a) (hn : nearC n = 0) : inV W l a ha hb n (nat2 a) = true := by
  have e : (((nat2 a).1 : Int), ((nat2 a).2 : Int)) = a := by
    unfold inG at ga
    unfold nat2
    apply Prod.ext <;> simp only <;> omega
  have hn' : ¬ (n < 0 ∨ 1024 < n) := by
    intro c
    unfold nearC at hn
    rw [if_pos c] at hn
    omega
  have h0 : (ofW a a).n = 0 := by unfold ofW; split <;> simp only <;> omega
  unfold inV
  rw [e]
  unfold sees25
  rw [h0, decide_eq_true (show nearB a n a by unfold nearB; omega), decide_eq_true (show seesP _ _ 0 _ from fun j h1 h2 => absurd h1 (Nat.not_lt_zero _))]
  rfl
theorem inV_more {W : Nat} {l : List Int} {a : P2} {ha hb n m : Int} (h : n ≤ m) (c : Nat × Nat) (hc : inV W l a ha hb n c = true) : inV W l a ha hb m c = true := by
  unfold inV at *
  rw [Bool.and_eq_true] at *
  refine ⟨decide_eq_true ?_, hc.2⟩
  have := of_decide_eq_true hc.1
  unfold nearB at *
  omega
theorem sVFromA {R : HP} {pb W H : Nat} {a : P2} {F : Nat → Nat → Int × Int} (ha hb n : Int) (hW : 1 ≤ W ∧ W ≤ 1024) (hH : 1 ≤ H ∧ H ≤ 1024) (hF : TopOk W H F) (hok : viewE W H a ha hb n = 0) (hp : ∀ w, Sat R w → Sat (pyrH pb W H F) w) :
    FnR Try.prog R 9 [.pointer (some ⟨pb, 0, none⟩), c2 a, .int .i64 ha, .int .i64 hb, .int .i64 n] [] fun r hs => ∃ A c, r = .tuple #[.slice A (viewL W H F a ha hb n).length c, .int .i64 0] ∧ hs = [cRow A (viewL W H F a ha hb n).length c (viewL W H F a ha hb n)] ∧ (0 < (viewL W H F a ha hb n).length → ∃ g, A = some ⟨g, 0, none⟩) :=
  FnR.also (sVFrom ha hb n hW hH hF hok hp) (by
    rintro v hs w ⟨A, c, rfl, rfl⟩ s
    refine ⟨A, c, rfl, rfl, fun h0 => ?_⟩
    obtain ⟨g, e, _⟩ := rowH_at (s.in_ 0 rfl) h0
    exact ⟨g, e⟩)
/-- the head of what is still to be found -/
theorem drop_sub {α : Type} {L K : List α} {i j : Nat} (hi : i < L.length) (h : (L.drop i).Sublist (K.drop j)) : j < K.length := by
  have := h.length_le
  rw [List.length_drop, List.length_drop] at this
  omega
theorem drop_skip {α : Type} {L K : List α} {i j : Nat} (hi : i < L.length) (hj : j < K.length) (h : (L.drop i).Sublist (K.drop j)) (hne : K[j] ≠ L[i]) : (L.drop i).Sublist (K.drop (j + 1)) := by
  rw [List.drop_eq_getElem_cons hi, List.drop_eq_getElem_cons hj] at h
  rw [List.drop_eq_getElem_cons hi]
  generalize K[j] = y at *
  generalize L[i] = x at *
  cases h with
  | cons _ h => exact h
  | cons_cons _ h => exact absurd rfl hne
theorem drop_next {α : Type} {L K : List α} {i j : Nat} (hi : i < L.length) (h : (L.drop i).Sublist (K.drop j)) : (L.drop (i + 1)).Sublist (K.drop j) := by
  rw [List.drop_eq_getElem_cons hi] at h
  exact (List.sublist_cons_self _ _).trans h
theorem cell_at_row {A : Option Addr} {n c : Nat} {l : List (Nat × Nat)} {b : Nat} (hA : A = some ⟨b, 0, none⟩) {w : World} (s : Sat (cRow A n c l) w) (hn : 0 < n) {i : Nat} {x y : Nat} (hi : l[i]? = some (x, y)) : w.cell? ⟨b, i * 2, none⟩ = some (.int .i64 (x : Int)) ∧ w.cell? ⟨b, i * 2 + 1, none⟩ = some (.int .i64 (y : Int)) := by
  obtain ⟨g, e, hg⟩ := rowH_at s hn
  rw [hA] at e
  simp only [Option.some.injEq, Addr.mk.injEq] at e
  obtain ⟨rfl, _, _⟩ := e
  obtain ⟨q1, q2⟩ := ccel_get hi
  exact ⟨hg _ _ q1, hg _ _ q2⟩
theorem ViewGrows_walk (W H : Int) (A : Option Addr) (n c : Nat) (l : List Int) (x y ha hb r more : Int) (w : World) (_ : -9223372036854775808 ≤ W) (_ : W ≤ 9223372036854775807) (_ : -9223372036854775808 ≤ H) (_ : H ≤ 9223372036854775807) (hr : Reads w w.heap.size 1 A n (ints l)) (hn : n ≤ maxLen)
    (_ : -9223372036854775808 ≤ x) (_ : x ≤ 9223372036854775807) (_ : -9223372036854775808 ≤ y) (_ : y ≤ 9223372036854775807) (_ : -9223372036854775808 ≤ ha) (_ : ha ≤ 9223372036854775807) (_ : -9223372036854775808 ≤ hb) (_ : hb ≤ 9223372036854775807) (_ : -9223372036854775808 ≤ r) (_ : r ≤ 9223372036854775807) (_ : -9223372036854775808 ≤ more) (_ : more ≤ 9223372036854775807) :
    Calls Try.prog 3 #[.int .i64 W, .int .i64 H, .slice A n c, .agg #[.int .i64 x, .int .i64 y], .int .i64 ha, .int .i64 hb, .int .i64 r, .int .i64 more] w fun e w' => e = .returned (.bool true) ∧ Below w.heap.size w w' := by
  refine PureR.below (args := [.int .i64 W, .int .i64 H, .slice A n c, .agg #[.int .i64 x, .int .i64 y], .int .i64 ha, .int .i64 hb, .int .i64 r, .int .i64 more]) ?_
  have hv := vs_of_reads hr
  have hl : l.length = n := by have := hr.1; simpa [ints] using this
  by_cases hok : LandOk W H 400 n l
  · obtain ⟨W, H, rfl, rfl, w1, w2, h1, h2, hWH, hn0, hn1⟩ := land_nat hok (by decide)
    have hm := hok.2.2.2.2.2.2
    have hgm := gv_mayV hWH hl hm
    have hF := top_Pf (f := gv W l) w1 h1 hgm
    have hma := fun (R' : HP) (hR' : Vs R' A n l) => sMay27 (R := R') (c := c) hR' hWH w2 h2 (x, y) ha hb r
    by_cases he : viewE W H (x, y) ha hb r = 0
    · rw [he] at hma
      by_cases hmo : more < r ∨ 1024 < more
      · refine fn_of_run0 false Try.func3 rfl hmix rfl fun w0 => ?_
        conv => whnf
        refine ⟨trivial, CallAt.pure (fun R' hR' => sAwake27 R') ?_⟩
        conv => whnf
        refine iff_f (by decide) ?_
        conv => whnf
        refine ⟨trivial, CallAt.pure (fun R' hR' => sLandYes (hv.mono fun w s => hR' w s) (by decide) hn hok) ?_⟩
        conv => whnf
        repeat (first | (refine ⟨fun _ => ?_, fun h => absurd h (by decide)⟩; conv => whnf) | (refine ⟨fun h => absurd h (by decide), fun _ => ?_⟩; conv => whnf))
        refine ⟨trivial, CallAt.pure (fun R' hR' => hma R' (hv.mono fun w s => hR' w s)) ?_⟩
        conv => whnf
        repeat (first | (refine ⟨fun _ => ?_, fun h => absurd h (by decide)⟩; conv => whnf) | (refine ⟨fun h => absurd h (by decide), fun _ => ?_⟩; conv => whnf))
        refine ⟨fun q1 => ?_, fun q1 => ?_⟩
        · have q1 := of_decide_eq_false q1
          conv => whnf
          refine ⟨fun q2 => ?_, fun q2 => absurd (of_decide_eq_false q2) (by omega)⟩
          conv => whnf
          exact ⟨trivial, fin_drop rfl⟩
        · conv => whnf
          exact ⟨trivial, fin_drop rfl⟩
      · obtain ⟨g1, g2, g3, g4⟩ := viewE_ok he
        have g5 : nearC more = 0 := by
          have hn' : ¬ (r < 0 ∨ 1024 < r) := by
            intro c
            unfold nearC at g4
            rw [if_pos c] at g4
            omega
          exact if_neg (by omega)
        have he2 : viewE W H (x, y) ha hb more = 0 := by
          unfold viewE
          rw [if_neg (Classical.not_not.2 g1), if_neg (Classical.not_not.2 ⟨g2, g3⟩), g5]
        have hfr := fun (pb : Nat) (R' : HP) hR' => sVFromA (R := R') (pb := pb) (a := (x, y)) ha hb r ⟨w1, w2⟩ ⟨h1, h2⟩ hF he hR'
        have hfm := fun (pb : Nat) (R' : HP) hR' => sVFromA (R := R') (pb := pb) (a := (x, y)) ha hb more ⟨w1, w2⟩ ⟨h1, h2⟩ hF he2 hR'
        rw [view_eq w1 h1 he] at hfr
        rw [view_eq w1 h1 he2] at hfm
        have hsub : (rowsF (inV W l (x, y) ha hb r) W H).Sublist (rowsF (inV W l (x, y) ha hb more) W H) := rowsF_sub (fun c hc => inV_more (by omega) c hc) W H
        obtain ⟨X, hX⟩ : ∃ X : Nat, x = X := ⟨x.toNat, by unfold inG at g1; simp only at g1; omega⟩
        obtain ⟨Y, hY⟩ : ∃ Y : Nat, y = Y := ⟨y.toNat, by unfold inG at g1; simp only at g1; omega⟩
        have hmem : (X, Y) ∈ rowsF (inV W l (x, y) ha hb r) W H := by
          have hs := inV_self (l := l) (ha := ha) (hb := hb) g1 g4
          have e : nat2 (x, y) = (X, Y) := by unfold nat2; rw [hX, hY]; rfl
          rw [e] at hs
          unfold inG at g1
          simp only at g1
          exact rowsF_mem (by omega) (by omega) hs
        have hl1 : (rowsF (inV W l (x, y) ha hb r) W H).length ≤ 1024 * 1024 := Nat.le_trans (rowsF_len _ _ _) (Nat.mul_le_mul h2 w2)
        have hl2 : (rowsF (inV W l (x, y) ha hb more) W H).length ≤ 1024 * 1024 := Nat.le_trans (rowsF_len _ _ _) (Nat.mul_le_mul h2 w2)
        generalize rowsF (inV W l (x, y) ha hb r) W H = L at *
        generalize rowsF (inV W l (x, y) ha hb more) W H = K at *
        have hL0 : 0 < L.length := List.length_pos_of_mem hmem
        have hK0 : 0 < K.length := Nat.lt_of_lt_of_le hL0 hsub.length_le
        subst hX hY
        refine fn_of_run0 false Try.func3 rfl hmix rfl fun w0 => ?_
        conv => whnf
        refine ⟨trivial, CallAt.pure (fun R' hR' => sAwake27 R') ?_⟩
        conv => whnf
        refine iff_f (by decide) ?_
        conv => whnf
        refine ⟨trivial, CallAt.pure (fun R' hR' => sLandYes (hv.mono fun w s => hR' w s) (by decide) hn hok) ?_⟩
        conv => whnf
        repeat (first | (refine ⟨fun _ => ?_, fun h => absurd h (by decide)⟩; conv => whnf) | (refine ⟨fun h => absurd h (by decide), fun _ => ?_⟩; conv => whnf))
        refine ⟨trivial, CallAt.pure (fun R' hR' => hma R' (hv.mono fun w s => hR' w s)) ?_⟩
        conv => whnf
        repeat (first | (refine ⟨fun _ => ?_, fun h => absurd h (by decide)⟩; conv => whnf) | (refine ⟨fun h => absurd h (by decide), fun _ => ?_⟩; conv => whnf))
        refine ⟨fun q1 => ?_, fun q1 => absurd q1 (by simp; omega)⟩
        conv => whnf
        refine ⟨fun q2 => absurd q2 (by simp; omega), fun q2 => ?_⟩
        conv => whnf
        refine ⟨trivial, CallAt.fn (pre := []) _ (fun h s => s) (fun R' hR' => sRisen (hv.mono fun w s => hR' w s) w1 w2 h1 h2 hWH hm) ?_⟩
        rintro r hs ⟨pb, rfl, rfl⟩
        conv => whnf
        refine iff_f (by decide) ?_
        conv => whnf
        refine ⟨trivial, CallAt.fn (pre := []) _ (fun h s => s) (fun R' hR' => hfr pb R' fun w s => (hR' w s).in_ 0 rfl) ?_⟩
        rintro r hs ⟨B, d, rfl, rfl, hB⟩
        obtain ⟨gb, rfl⟩ := hB hL0
        conv => whnf
        refine ⟨trivial, CallAt.fn (pre := []) _ (fun h s => s) (fun R' hR' => hfm pb R' fun w s => (hR' w s).in_ 1 rfl) ?_⟩
        rintro r hs ⟨C, d2, rfl, rfl, hC⟩
        obtain ⟨gc, rfl⟩ := hC hK0
        conv => whnf
        repeat (first | (refine ⟨fun _ => ?_, fun h => absurd h (by decide)⟩; conv => whnf) | (refine ⟨fun h => absurd h (by decide), fun _ => ?_⟩; conv => whnf))
        refine ⟨trivial, LoopAt.of (α := Nat × Nat × Bool) [11, 20, 22] (fun a => [(24, .v (.bool a.2.2)), (25, .v (.int .i64 (a.2.1 : Int))), (26, .v (.int .i64 (a.1 : Int)))])
          (fun _ => [(0, 24, [.v (.int .i64 (X : Int)), .v (.int .i64 (Y : Int))])]) (fun _ => [cRow (some ⟨gc, 0, none⟩) K.length d2 K, cRow (some ⟨gb, 0, none⟩) L.length d L])
          (fun a => a.1 ≤ L.length ∧ (L.drop a.1).Sublist (K.drop a.2.1) ∧ a.2.2 = decide ((X, Y) ∈ L.take a.1)) (fun a => L.length - a.1) (0, 0, false) ⟨Nat.zero_le _, hsub, by simp⟩
          (Le.ofK (Nat.le_of_ble_eq_true rfl) (Nat.zero_le _) ⟨⟨_, rfl, fun _ => rfl, rfl⟩, ⟨_, rfl, fun _ => rfl, rfl⟩, ⟨_, rfl, fun _ => rfl, rfl⟩, ⟨_, rfl, fun _ => rfl, rfl⟩, ⟨_, rfl, fun _ => rfl, rfl⟩, ⟨_, rfl, fun _ => rfl, rfl⟩, trivial⟩ ⟨⟨rfl, rfl, rfl, rfl⟩, trivial⟩ fun h s => ?_) ?_⟩
        · obtain ⟨h', e, s'⟩ := sub_tail (sepL_pull 2 s)
          exact ⟨h', e, s'⟩
        rintro ⟨i, j, own⟩ ⟨i1, i2, i3⟩
        simp only at i1 i2 i3
        rcases Nat.lt_or_ge i L.length with hi | hi
        · obtain ⟨⟨u, v⟩, hLi⟩ : ∃ c : Nat × Nat, L[i]'hi = c := ⟨_, rfl⟩
          have hLi? : L[i]? = some (u, v) := by rw [List.getElem?_eq_getElem hi, hLi]
          have htk : ∀ o : Bool, o = decide ((X, Y) ∈ L.take i) → (o || decide ((u, v) = (X, Y))) = decide ((X, Y) ∈ L.take (i + 1)) := fun o ho => by
            rw [ho, List.take_succ_eq_append_getElem hi, hLi, Bool.eq_iff_iff]
            simp only [Bool.or_eq_true, decide_eq_true_eq, List.mem_append, List.mem_singleton]
            exact ⟨fun h => h.elim .inl fun h => .inr h.symm, fun h => h.elim .inl fun h => .inr h.symm⟩
          have hskip := fun q (hq : q < K.length) (h : (L.drop i).Sublist (K.drop q)) (hne : K[q] ≠ (u, v)) => drop_skip hi hq h (by rw [hLi]; exact hne)
          have hin : i + 1 ≤ 1024 * 1024 := by omega
          cases own with
          | false =>
            conv => whnf
            refine ⟨fun _ => ?_, fun h => absurd h (by simp; omega)⟩
            conv => whnf
            refine ⟨trivial, RegAt.quiet hmix (by kernel_rfl) ?_⟩
            conv => whnf
            refine ⟨fun _ => ?_, fun h => absurd h (by simp)⟩
            conv => whnf
            refine ⟨⟨trivial, by omega⟩, LoadAt.agg [.int .i64 (u : Int), .int .i64 (v : Int)] rfl rfl rfl (fun w hw j v hj => ?_) ?_⟩
            · rw [Int.toNat_natCast, Nat.zero_add]
              obtain ⟨p1, p2⟩ := cell_at_row rfl (hw.in_ 1 rfl) hL0 hLi?
              rcases j with _ | _ | j
              · simp at hj; rw [← hj]; exact p1
              · simp at hj; rw [← hj]; exact p2
              · simp at hj
            conv => whnf
            refine ⟨trivial, RunQ.aggEq rfl rfl rfl rfl (by kernel_rfl) (ce_eq (u, v) (X, Y)) ?_⟩
            conv => whnf
            refine ⟨trivial, ?_⟩
            conv => whnf
            have hown := htk _ i3
            refine ⟨trivial, LoopAt.keep (α := Nat) [11, 20, 22, 24, 26] (fun q => [(25, .v (.int .i64 (q : Int)))]) (fun q => (L.drop i).Sublist (K.drop q)) (fun q => K.length - q) j i2 rfl ⟨⟨rfl, rfl⟩, trivial⟩ ⟨⟨rfl, rfl⟩, ⟨rfl, rfl⟩, ⟨rfl, rfl⟩, ⟨rfl, rfl⟩, ⟨rfl, rfl⟩, trivial⟩ ⟨⟨rfl, rfl, rfl, rfl⟩, trivial⟩ ?_⟩
            rintro q q1
            have hq := drop_sub hi q1
            obtain ⟨⟨s, t⟩, hKq⟩ : ∃ c : Nat × Nat, K[q]'hq = c := ⟨_, rfl⟩
            have hKq? : K[q]? = some (s, t) := by rw [List.getElem?_eq_getElem hq, hKq]
            conv => whnf
            refine ⟨trivial, RegAt.quiet hmix (by kernel_rfl) ?_⟩
            conv => whnf
            refine ⟨fun _ => ?_, fun h => absurd h (by simp; omega)⟩
            conv => whnf
            refine ⟨⟨trivial, by omega⟩, LoadAt.agg [.int .i64 (s : Int), .int .i64 (t : Int)] rfl rfl rfl (fun w hw j v hj => ?_) ?_⟩
            · rw [Int.toNat_natCast, Nat.zero_add]
              obtain ⟨p1, p2⟩ := cell_at_row rfl (hw.in_ 0 rfl) hK0 hKq?
              rcases j with _ | _ | j
              · simp at hj; rw [← hj]; exact p1
              · simp at hj; rw [← hj]; exact p2
              · simp at hj
            conv => whnf
            refine ⟨⟨trivial, by omega⟩, LoadAt.agg [.int .i64 (u : Int), .int .i64 (v : Int)] rfl rfl rfl (fun w hw j v hj => ?_) ?_⟩
            · rw [Int.toNat_natCast, Nat.zero_add]
              obtain ⟨p1, p2⟩ := cell_at_row rfl (hw.in_ 1 rfl) hL0 hLi?
              rcases j with _ | _ | j
              · simp at hj; rw [← hj]; exact p1
              · simp at hj; rw [← hj]; exact p2
              · simp at hj
            conv => whnf
            refine ⟨trivial, RunQ.aggNe rfl rfl rfl rfl (by kernel_rfl) (ce_eq (s, t) (u, v)) ?_⟩
            conv => whnf
            refine ⟨trivial, ?_⟩
            conv => whnf
            refine ⟨fun h => ?_, fun h => ?_⟩
            · have hne : (s, t) ≠ (u, v) := fun e => by rw [decide_eq_true e] at h; exact absurd h (by decide)
              conv => whnf
              exact ⟨(by (repeat' apply And.intro) <;> first | exact True.intro | (unfold rng; omega) | omega), .keep (q + 1) (hskip q hq q1 (by rw [hKq]; exact hne)) (by show K.length - (q + 1) < K.length - q; omega) ⟨⟨rfl, rfl⟩, trivial⟩ ⟨⟨rfl, rfl⟩, ⟨rfl, rfl⟩, ⟨rfl, rfl⟩, ⟨rfl, rfl⟩, ⟨rfl, rfl⟩, trivial⟩ ⟨⟨rfl, rfl, rfl, rfl⟩, trivial⟩ rfl rfl rfl⟩
            · conv => whnf
              refine ⟨fun h => absurd h (by simp; omega), fun _ => ?_⟩
              conv => whnf
              refine ⟨(by (repeat' apply And.intro) <;> first | exact True.intro | (unfold rng; omega) | omega), .mk (i + 1, q, (false || decide ((u, v) = (X, Y)))) ⟨by show i + 1 ≤ L.length; omega, drop_next hi q1, hown⟩ (by show L.length - (i + 1) < L.length - i; omega)
                (Le.ofK (Nat.le_of_ble_eq_true rfl) (Nat.zero_le _) ⟨⟨_, rfl, fun _ => rfl, rfl⟩, ⟨_, rfl, fun _ => rfl, rfl⟩, ⟨_, rfl, fun _ => rfl, rfl⟩, ⟨_, rfl, fun _ => rfl, rfl⟩, ⟨_, rfl, fun _ => rfl, rfl⟩, ⟨_, rfl, fun _ => rfl, rfl⟩, trivial⟩ ⟨⟨rfl, rfl, rfl, rfl⟩, trivial⟩ fun h s => sub_same s)⟩
          | true =>
            conv => whnf
            refine ⟨fun _ => ?_, fun h => absurd h (by simp; omega)⟩
            conv => whnf
            refine ⟨trivial, RegAt.quiet hmix (by kernel_rfl) ?_⟩
            conv => whnf
            refine ⟨fun h => absurd h (by simp), fun _ => ?_⟩
            conv => whnf
            refine ⟨trivial, ?_⟩
            conv => whnf
            have hown := htk _ i3
            refine ⟨trivial, LoopAt.keep (α := Nat) [11, 20, 22, 24, 26] (fun q => [(25, .v (.int .i64 (q : Int)))]) (fun q => (L.drop i).Sublist (K.drop q)) (fun q => K.length - q) j i2 rfl ⟨⟨rfl, rfl⟩, trivial⟩ ⟨⟨rfl, rfl⟩, ⟨rfl, rfl⟩, ⟨rfl, rfl⟩, ⟨rfl, rfl⟩, ⟨rfl, rfl⟩, trivial⟩ ⟨⟨rfl, rfl, rfl, rfl⟩, trivial⟩ ?_⟩
            rintro q q1
            have hq := drop_sub hi q1
            obtain ⟨⟨s, t⟩, hKq⟩ : ∃ c : Nat × Nat, K[q]'hq = c := ⟨_, rfl⟩
            have hKq? : K[q]? = some (s, t) := by rw [List.getElem?_eq_getElem hq, hKq]
            conv => whnf
            refine ⟨trivial, RegAt.quiet hmix (by kernel_rfl) ?_⟩
            conv => whnf
            refine ⟨fun _ => ?_, fun h => absurd h (by simp; omega)⟩
            conv => whnf
            refine ⟨⟨trivial, by omega⟩, LoadAt.agg [.int .i64 (s : Int), .int .i64 (t : Int)] rfl rfl rfl (fun w hw j v hj => ?_) ?_⟩
            · rw [Int.toNat_natCast, Nat.zero_add]
              obtain ⟨p1, p2⟩ := cell_at_row rfl (hw.in_ 0 rfl) hK0 hKq?
              rcases j with _ | _ | j
              · simp at hj; rw [← hj]; exact p1
              · simp at hj; rw [← hj]; exact p2
              · simp at hj
            conv => whnf
            refine ⟨⟨trivial, by omega⟩, LoadAt.agg [.int .i64 (u : Int), .int .i64 (v : Int)] rfl rfl rfl (fun w hw j v hj => ?_) ?_⟩
            · rw [Int.toNat_natCast, Nat.zero_add]
              obtain ⟨p1, p2⟩ := cell_at_row rfl (hw.in_ 1 rfl) hL0 hLi?
              rcases j with _ | _ | j
              · simp at hj; rw [← hj]; exact p1
              · simp at hj; rw [← hj]; exact p2
              · simp at hj
            conv => whnf
            refine ⟨trivial, RunQ.aggNe rfl rfl rfl rfl (by kernel_rfl) (ce_eq (s, t) (u, v)) ?_⟩
            conv => whnf
            refine ⟨trivial, ?_⟩
            conv => whnf
            refine ⟨fun h => ?_, fun h => ?_⟩
            · have hne : (s, t) ≠ (u, v) := fun e => by rw [decide_eq_true e] at h; exact absurd h (by decide)
              conv => whnf
              exact ⟨(by (repeat' apply And.intro) <;> first | exact True.intro | (unfold rng; omega) | omega), .keep (q + 1) (hskip q hq q1 (by rw [hKq]; exact hne)) (by show K.length - (q + 1) < K.length - q; omega) ⟨⟨rfl, rfl⟩, trivial⟩ ⟨⟨rfl, rfl⟩, ⟨rfl, rfl⟩, ⟨rfl, rfl⟩, ⟨rfl, rfl⟩, ⟨rfl, rfl⟩, trivial⟩ ⟨⟨rfl, rfl, rfl, rfl⟩, trivial⟩ rfl rfl rfl⟩
            · conv => whnf
              refine ⟨fun h => absurd h (by simp; omega), fun _ => ?_⟩
              conv => whnf
              refine ⟨(by (repeat' apply And.intro) <;> first | exact True.intro | (unfold rng; omega) | omega), .mk (i + 1, q, (true || decide ((u, v) = (X, Y)))) ⟨by show i + 1 ≤ L.length; omega, drop_next hi q1, hown⟩ (by show L.length - (i + 1) < L.length - i; omega)
                (Le.ofK (Nat.le_of_ble_eq_true rfl) (Nat.zero_le _) ⟨⟨_, rfl, fun _ => rfl, rfl⟩, ⟨_, rfl, fun _ => rfl, rfl⟩, ⟨_, rfl, fun _ => rfl, rfl⟩, ⟨_, rfl, fun _ => rfl, rfl⟩, ⟨_, rfl, fun _ => rfl, rfl⟩, ⟨_, rfl, fun _ => rfl, rfl⟩, trivial⟩ ⟨⟨rfl, rfl, rfl, rfl⟩, trivial⟩ fun h s => sub_same s)⟩
        · have hi : i = L.length := by omega
          subst hi
          conv => whnf
          refine ⟨fun h => absurd h (by simp), fun _ => ?_⟩
          have ho : own = true := by rw [i3, List.take_length]; exact decide_eq_true hmem
          subst ho
          conv => whnf
          exact ⟨trivial, fin_drop rfl⟩
    · generalize viewE W H (x, y) ha hb r = E at *
      refine fn_of_run0 false Try.func3 rfl hmix rfl fun w0 => ?_
      conv => whnf
      refine ⟨trivial, CallAt.pure (fun R' hR' => sAwake27 R') ?_⟩
      conv => whnf
      refine iff_f (by decide) ?_
      conv => whnf
      refine ⟨trivial, CallAt.pure (fun R' hR' => sLandYes (hv.mono fun w s => hR' w s) (by decide) hn hok) ?_⟩
      conv => whnf
      repeat (first | (refine ⟨fun _ => ?_, fun h => absurd h (by decide)⟩; conv => whnf) | (refine ⟨fun h => absurd h (by decide), fun _ => ?_⟩; conv => whnf))
      refine ⟨trivial, CallAt.pure (fun R' hR' => hma R' (hv.mono fun w s => hR' w s)) ?_⟩
      conv => whnf
      refine ⟨fun q1 => absurd q1 (by simpa using he), fun q1 => ?_⟩
      conv => whnf
      exact ⟨trivial, fin_drop rfl⟩
  · refine fn_of_run0 false Try.func3 rfl hmix rfl fun w0 => ?_
    conv => whnf
    refine ⟨trivial, CallAt.pure (fun R' hR' => sAwake27 R') ?_⟩
    conv => whnf
    refine iff_f (by decide) ?_
    conv => whnf
    refine ⟨trivial, CallAt.pure (fun R' hR' => sLandNo (hv.mono fun w s => hR' w s) (by decide) hn hok) ?_⟩
    conv => whnf
    repeat (first | (refine ⟨fun _ => ?_, fun h => absurd h (by decide)⟩; conv => whnf) | (refine ⟨fun h => absurd h (by decide), fun _ => ?_⟩; conv => whnf))
    exact ⟨trivial, fin_pure rfl rfl⟩
end Go.Proofs.Ytfgmnkbiciaahaa

/-
  The statement of hachurelaw27.ViewGrows: for every input the call returns true, and each argument reads afterwards as it read before. The row's own frame round the walk 'ViewGrows_walk'.
-/
namespace Go.Proofs.Ytfgmnkbiciaahaa.viewGrowsRow
open Go.Proofs.Ytfgmnkbiciaahaa
open Go.ChangeShapes Go.WideShapes Go.ChangeAt Go.RowKit Go.Joins
set_option linter.unusedVariables false

theorem own : ownKnob Try.prog.godebug = none := by kernel_rfl
theorem laidOut : laidOutB Try.prog = true := by kernel_rfl


set_option maxRecDepth 100000 in
theorem lifted (os : Os) (started : os.Started) (H : Type) (enc : TypeId × Value → H) :
    ReturnsInHanded {} Try.checked os 3 .any (Rows.viewGrowsSpec.pre6 enc Try.prog Try.f3 Rows.viewGrowsRow.domain false) (Rows.viewGrowsSpec.post enc Try.prog Try.f3 false true false false) := by
  refine returnsInHanded_of_change (C := Try.checked) own started (by kernel_rfl) Try.func3
    (ChangeSpec.witness6 (enc := enc) (C := Try.checked) false ⟨#[], #[.int .i64 0, .int .i64 0, .slice none 0 0, .agg #[.int .i64 0, .int .i64 0], .int .i64 0, .int .i64 0, .int .i64 0, .int .i64 0], []⟩ 8 (by kernel_rfl) (by kernel_rfl) (by kernel_rfl) (by kernel_rfl)) ?_
  intro W base args ds gs before hval0 hW hcnd _
  have hval : ∀ (j : Nat) t v, Try.f3.params[j]? = some t → args[j]? = some v → Value.okWide Try.prog W .any base t v := hval0
  have hW' := hW
  obtain ⟨p, q, hA0, hV, rfl, hfz, hnd⟩ := hW
  have hA : DataW.TrodAll enc Try.prog W 0 (fun _ => true) true Try.f3.params.toList args.toList ds p := hA0
  rw [Try.params3] at hA hval
  obtain ⟨v0, vs0, d0, ds0, p0, q0, hargs, rfl, rfl, h0, r0⟩ := trodAll_cons hA
  obtain ⟨v1, vs1, d1, ds1, p1, q1, rfl, rfl, rfl, h1, r1⟩ := trodAll_cons r0
  obtain ⟨v2, vs2, d2, ds2, p2, q2, rfl, rfl, rfl, h2, r2⟩ := trodAll_cons r1
  obtain ⟨v3, vs3, d3, ds3, p3, q3, rfl, rfl, rfl, h3, r3⟩ := trodAll_cons r2
  obtain ⟨v4, vs4, d4, ds4, p4, q4, rfl, rfl, rfl, h4, r4⟩ := trodAll_cons r3
  obtain ⟨v5, vs5, d5, ds5, p5, q5, rfl, rfl, rfl, h5, r5⟩ := trodAll_cons r4
  obtain ⟨v6, vs6, d6, ds6, p6, q6, rfl, rfl, rfl, h6, r6⟩ := trodAll_cons r5
  obtain ⟨v7, vs7, d7, ds7, p7, q7, rfl, rfl, rfl, h7, r7⟩ := trodAll_cons r6
  obtain ⟨rfl, rfl, rfl⟩ := trodAll_nil r7
  obtain rfl : args = #[v0, v1, v2, v3, v4, v5, v6, v7] := by cases args; simp_all
  obtain ⟨rfl, rfl⟩ := trodVars_none hV
  have k0 := h0
  have lt0 : ∀ x ∈ p0, x.block < W.heap.size := by obtain ⟨m, hm⟩ := k0; exact DataW.trod_lt m _ _ _ hm
  have k1 := h1
  have lt1 : ∀ x ∈ p1, x.block < W.heap.size := by obtain ⟨m, hm⟩ := k1; exact DataW.trod_lt m _ _ _ hm
  have k2 := h2
  have lt2 : ∀ x ∈ p2, x.block < W.heap.size := by obtain ⟨m, hm⟩ := k2; exact DataW.trod_lt m _ _ _ hm
  have k3 := h3
  have lt3 : ∀ x ∈ p3, x.block < W.heap.size := by obtain ⟨m, hm⟩ := k3; exact DataW.trod_lt m _ _ _ hm
  have k4 := h4
  have lt4 : ∀ x ∈ p4, x.block < W.heap.size := by obtain ⟨m, hm⟩ := k4; exact DataW.trod_lt m _ _ _ hm
  have k5 := h5
  have lt5 : ∀ x ∈ p5, x.block < W.heap.size := by obtain ⟨m, hm⟩ := k5; exact DataW.trod_lt m _ _ _ hm
  have k6 := h6
  have lt6 : ∀ x ∈ p6, x.block < W.heap.size := by obtain ⟨m, hm⟩ := k6; exact DataW.trod_lt m _ _ _ hm
  have k7 := h7
  have lt7 : ∀ x ∈ p7, x.block < W.heap.size := by obtain ⟨m, hm⟩ := k7; exact DataW.trod_lt m _ _ _ hm
  obtain ⟨a0, rfl, rfl, rfl, w0⟩ := open_int Try.underlying2 (hval 0 2 v0 rfl rfl) h0
  have b0 := bounds_i64 w0
  obtain ⟨a1, rfl, rfl, rfl, w1⟩ := open_int Try.underlying2 (hval 1 2 v1 rfl rfl) h1
  have b1 := bounds_i64 w1
  obtain ⟨a2, len2, cap2, rfl⟩ := okWide_slice Try.underlying22 (hval 2 22 v2 rfl rfl)
  obtain ⟨l2, hl2, hn2⟩ : ∃ l, Reads W W.heap.size 1 a2 len2 (ints l) ∧ len2 ≤ maxLen := by
    obtain ⟨fuel, hf⟩ := h2
    rcases open_ints Try.underlying22 Try.underlying2 (by kernel_rfl) hf with ⟨hcs, _⟩ | ⟨x, l, c, zs, hcs, _, hl, hm, hz, _, hcell, hwz⟩
    · simp [Value.cells] at hcs
      obtain ⟨rfl, rfl, rfl⟩ := hcs
      exact ⟨[], Reads.empty, by simp [maxLen]⟩
    · simp [Value.cells] at hcs
      obtain ⟨rfl, rfl, rfl⟩ := hcs
      obtain ⟨l, hl2⟩ := ints_of hl (by simpa using hz) hcell
      exact ⟨l, hl2, Nat.le_trans hl hm⟩
  obtain ⟨c3, e3, y3, z3, m3, rfl, rfl, rfl, hy3, hz3⟩ := open_agg2 Try.underlying24 (by kernel_rfl) (by kernel_rfl) (hval 3 24 v3 rfl rfl) h3
  obtain ⟨x3, f3, rfl, wx3⟩ := DataW.trod_int Try.underlying2 hy3
  obtain ⟨u3, g3, rfl, wu3⟩ := DataW.trod_int Try.underlying2 hz3
  simp at f3 g3
  subst f3 g3
  have bx3 := bounds_i64 wx3
  have bu3 := bounds_i64 wu3
  obtain ⟨a4, rfl, rfl, rfl, w4⟩ := open_int Try.underlying2 (hval 4 2 v4 rfl rfl) h4
  have b4 := bounds_i64 w4
  obtain ⟨a5, rfl, rfl, rfl, w5⟩ := open_int Try.underlying2 (hval 5 2 v5 rfl rfl) h5
  have b5 := bounds_i64 w5
  obtain ⟨a6, rfl, rfl, rfl, w6⟩ := open_int Try.underlying2 (hval 6 2 v6 rfl rfl) h6
  have b6 := bounds_i64 w6
  obtain ⟨a7, rfl, rfl, rfl, w7⟩ := open_int Try.underlying2 (hval 7 2 v7 rfl rfl) h7
  have b7 := bounds_i64 w7
  clear hA0 hval0
  refine (ViewGrows_walk a0 a1 a2 len2 cap2 l2 x3 u3 a4 a5 a6 a7 W b0.1 b0.2 b1.1 b1.2 hl2 hn2 bx3.1 bx3.2 bu3.1 bu3.2 b4.1 b4.2 b5.1 b5.2 b6.1 b6.2 b7.1 b7.2).mono fun e W' ⟨he, bel⟩ => ?_
  subst he
  exact ⟨_, rfl, _, _, _, [], _, [], hW', trodAll_mk1 (shut_bool Try.underlying4 _), (trodAll_cons_mk (Below.trod laidOut (by kernel_rfl) (of_decide_eq_true (by kernel_rfl)) k0 bel lt0) (trodAll_cons_mk (Below.trod laidOut (by kernel_rfl) (of_decide_eq_true (by kernel_rfl)) k1 bel lt1) (trodAll_cons_mk (Below.trod laidOut (by kernel_rfl) (of_decide_eq_true (by kernel_rfl)) k2 bel lt2) (trodAll_cons_mk (Below.trod laidOut (by kernel_rfl) (of_decide_eq_true (by kernel_rfl)) k3 bel lt3) (trodAll_cons_mk (Below.trod laidOut (by kernel_rfl) (of_decide_eq_true (by kernel_rfl)) k4 bel lt4) (trodAll_cons_mk (Below.trod laidOut (by kernel_rfl) (of_decide_eq_true (by kernel_rfl)) k5 bel lt5) (trodAll_cons_mk (Below.trod laidOut (by kernel_rfl) (of_decide_eq_true (by kernel_rfl)) k6 bel lt6) (trodAll_cons_mk (Below.trod laidOut (by kernel_rfl) (of_decide_eq_true (by kernel_rfl)) k7 bel lt7) trodAll_mk0)))))))), rfl, bel.frame _, fun h => by cases h⟩

theorem over : Rows.viewGrowsRow.holds Try.pinned (OpenSpec.ofChange Rows.viewGrowsSpec) :=
  OpenClaim.holds_of_wide 3 Try.f3 rfl rfl rfl rfl rfl rfl rfl ⟨rfl, rfl, rfl, rfl, rfl⟩ rfl rfl rfl rfl rfl (by kernel_rfl) Try.func3 (by kernel_rfl)
    (of_decide_eq_true (by kernel_rfl)) (by unfold Func.isWrapper; first | (rw [if_pos (by decide +kernel)]; kernel_rfl) | (rw [if_neg (by decide +kernel)]; exact ⟨rfl, rfl⟩))
    (fun os started H enc _ => lifted os started H enc)
end Go.Proofs.Ytfgmnkbiciaahaa.viewGrowsRow
namespace Go.Proofs.Ytfgmnkbiciaahaa

theorem viewGrows_holds : Rows.ViewGrowsSaid := viewGrowsRow.over
#print axioms viewGrows_holds
end Go.Proofs.Ytfgmnkbiciaahaa

