/-
  Texts of the proofs, one behind the other: ScR, SyLit.
-/
import Derived.Test.YtihkhomnhggifaaGreatDoorSPg06
import Derived.Test.YtihkhomnhggifaaGreatDoorSPg02
/-
  The document's words of a reply (number, cell, rect, list).
-/
namespace Go.Proofs.YtihkhomnhggifaaGreatDoor
open Go.RowKit
open Sy
set_option linter.unusedVariables false
set_option linter.unusedSimpArgs false
set_option maxRecDepth 100000
set_option maxHeartbeats 4000000

abbrev w1 (n : Int) : List UInt8 := wds 32 [Lib.itoa n]
theorem w1_len {n : Int} (h : I64 n) : (w1 n).length ≤ 22 := by
  have := itoa_len20 h
  simp [wds]; omega
theorem sRfNumber {R : HP} (n : Int) (h : I64 n) : PureR Tryz.prog R 18 [.int .i64 n] (.string (bs (w1 n))) := by
  have hl := itoa_len20 h
  have hpr := fun R' => sRefPrint (R := R') n h.1 h.2
  have e : w1 n = [32] ++ Lib.itoa n := by simp [wds]
  rw [e]
  generalize Lib.itoa n = s at *
  refine fn_of_run0 false Tryz.func18 rfl hmix rfl fun w0 => ?_
  conv => whnf
  refine ⟨trivial, CallAt.pure (fun R' hR' => hpr R') ?_⟩
  conv => whnf
  refine ⟨?_, fin_pure rfl ?_⟩
  · repeat' apply And.intro
    all_goals first | exact True.intro | (simp only [show (⟨#[32]⟩ : ByteArray) = bs [32] from rfl, show (⟨#[44]⟩ : ByteArray) = bs [44] from rfl, bs_append, bs_size, List.length_append, List.length_cons, List.length_nil]; omega)
  · simp only [show (⟨#[32]⟩ : ByteArray) = bs [32] from rfl, bs_append]; rfl
theorem sRfCell {R : HP} (x y : Int) (hx : I64 x) (hy : I64 y) : PureR Tryz.prog R 19 [.agg #[.int .i64 x, .int .i64 y]] (.string (bs (wds 32 [Lib.itoa x, Lib.itoa y]))) := by
  have lx := w1_len hx
  have ly := w1_len hy
  have px := fun R' => sRfNumber (R := R') x hx
  have py := fun R' => sRfNumber (R := R') y hy
  have e : wds 32 [Lib.itoa x, Lib.itoa y] = w1 x ++ w1 y := by simp [wds]
  rw [e]
  generalize w1 x = a at *
  generalize w1 y = b at *
  refine fn_of_run0 false Tryz.func19 rfl hmix rfl fun w0 => ?_
  conv => whnf
  refine ⟨trivial, RegAt.quiet hmix (by kernel_rfl) ?_⟩
  conv => whnf
  refine ⟨trivial, CallQ.pure (fun R' hR' => px R') ?_⟩
  conv => whnf
  refine ⟨trivial, CallQ.pure (fun R' hR' => py R') ?_⟩
  conv => whnf
  refine ⟨?_, ?_⟩
  · repeat' apply And.intro
    all_goals first | exact True.intro | (simp only [show (⟨#[32]⟩ : ByteArray) = bs [32] from rfl, show (⟨#[44]⟩ : ByteArray) = bs [44] from rfl, bs_append, bs_size, List.length_append, List.length_cons, List.length_nil]; omega)
  conv => whnf
  exact ⟨trivial, fin_drop (by simp only [bs_append]; rfl)⟩
theorem sRfRect {R : HP} (x y z u : Int) (hx : I64 x) (hy : I64 y) (hz : I64 z) (hu : I64 u) : PureR Tryz.prog R 20 [.agg #[.int .i64 x, .int .i64 y, .int .i64 z, .int .i64 u]] (.string (bs (wds 32 [Lib.itoa x, Lib.itoa y, Lib.itoa z, Lib.itoa u]))) := by
  have lx := w1_len hx
  have ly := w1_len hy
  have lz := w1_len hz
  have lu := w1_len hu
  have px := fun R' => sRfNumber (R := R') x hx
  have py := fun R' => sRfNumber (R := R') y hy
  have pz := fun R' => sRfNumber (R := R') z hz
  have pu := fun R' => sRfNumber (R := R') u hu
  have e : wds 32 [Lib.itoa x, Lib.itoa y, Lib.itoa z, Lib.itoa u] = w1 x ++ w1 y ++ w1 z ++ w1 u := by simp [wds]
  rw [e]
  generalize w1 x = a at *
  generalize w1 y = b at *
  generalize w1 z = c at *
  generalize w1 u = d at *
  refine fn_of_run0 false Tryz.func20 rfl hmix rfl fun w0 => ?_
  conv => whnf
  refine ⟨trivial, RegAt.quiet hmix (by kernel_rfl) ?_⟩
  conv => whnf
  refine ⟨trivial, CallQ.pure (fun R' hR' => px R') ?_⟩
  conv => whnf
  refine ⟨trivial, CallQ.pure (fun R' hR' => py R') ?_⟩
  conv => whnf
  refine ⟨?_, CallQ.pure (fun R' hR' => pz R') ?_⟩
  · repeat' apply And.intro
    all_goals first | exact True.intro | (simp only [show (⟨#[32]⟩ : ByteArray) = bs [32] from rfl, show (⟨#[44]⟩ : ByteArray) = bs [44] from rfl, bs_append, bs_size, List.length_append, List.length_cons, List.length_nil]; omega)
  conv => whnf
  refine ⟨?_, CallQ.pure (fun R' hR' => pu R') ?_⟩
  · repeat' apply And.intro
    all_goals first | exact True.intro | (simp only [show (⟨#[32]⟩ : ByteArray) = bs [32] from rfl, show (⟨#[44]⟩ : ByteArray) = bs [44] from rfl, bs_append, bs_size, List.length_append, List.length_cons, List.length_nil]; omega)
  conv => whnf
  refine ⟨?_, ?_⟩
  · repeat' apply And.intro
    all_goals first | exact True.intro | (simp only [show (⟨#[32]⟩ : ByteArray) = bs [32] from rfl, show (⟨#[44]⟩ : ByteArray) = bs [44] from rfl, bs_append, bs_size, List.length_append, List.length_cons, List.length_nil]; omega)
  conv => whnf
  exact ⟨trivial, fin_drop (by simp only [bs_append]; rfl)⟩
theorem jn_snoc {c : UInt8} {ws : List (List UInt8)} (h : ws ≠ []) (w : List UInt8) : jn c (ws ++ [w]) = jn c ws ++ [c] ++ w := by
  cases ws with
  | nil => exact absurd rfl h
  | cons p ps => simp [jn_cons, wds]
theorem jn_next {l : List Int} {i : Nat} (hi : i < l.length) : jn 44 ((l.take (i + 1)).map Lib.itoa) = (if 0 < i then jn 44 ((l.take i).map Lib.itoa) ++ [44] else jn 44 ((l.take i).map Lib.itoa)) ++ Lib.itoa l[i] := by
  rw [List.take_succ_eq_append_getElem hi, List.map_append]
  by_cases c : 0 < i
  · rw [if_pos c]
    exact jn_snoc (by intro e; have := congrArg List.length e; rw [List.length_map, List.length_take, List.length_nil] at this; omega) _
  · obtain rfl : i = 0 := by omega
    rw [if_neg c]
    simp [jn_nil, jn_one]
theorem sRfList {R : HP} {A : Option Addr} {n c : Nat} (l : List Int) (hl : l.length = n) (hn : n ≤ 1000000) (hi : ∀ x ∈ l, I64 x) (ha : Sl R A n 1 (l.flatMap numL)) : PureR Tryz.prog R 21 [.slice A n c] (.string (bs (wds 32 [listW l]))) := by
  refine PureR.of_sat fun wS hS => ?_
  obtain ⟨_, sa⟩ := ha.spot (by omega) hS
  have f0 : ∀ i (h : i < l.length), (l.flatMap numL)[i]? = some (.int .i64 l[i]) := fun i h => by
    have := flat_at (f := numL) (s := 1) (fun _ => rfl) (l := l) (i := i) (j := 0) h (by omega)
    rwa [Nat.mul_one, Nat.add_zero] at this
  have hlen : ∀ i, (jn 44 ((l.take i).map Lib.itoa)).length ≤ 22000000 := fun i => by
    have := jn_len (c := 44) (ws := (l.take i).map Lib.itoa) (m := 21) fun w hw => by
      obtain ⟨z, hz, rfl⟩ := List.mem_map.1 hw
      exact itoa_len20 (hi z (List.mem_of_mem_take hz))
    have h2 : ((l.take i).map Lib.itoa).length ≤ 1000000 := by simp; omega
    omega
  refine fn_of_run0 false Tryz.func21 rfl hmix rfl fun w0 => ?_
  conv => whnf
  refine ⟨fun h => ?_, fun h => ?_⟩
  · have h0 : n = 0 := by have := of_decide_eq_true h; omega
    subst h0
    obtain rfl : l = [] := List.length_eq_zero_iff.1 hl
    conv => whnf
    exact ⟨trivial, fin_pure rfl rfl⟩
  have hne : l ≠ [] := by
    rintro rfl
    have := of_decide_eq_false h
    simp at hl
    omega
  conv => whnf
  refine ⟨trivial, LoopAt.of (α := Nat) [0] (fun i => [(3, .v (.string (bs (jn 44 ((l.take i).map Lib.itoa))))), (4, .v (.int .i64 (i : Int)))]) (fun _ => []) (fun _ => []) (fun i => i ≤ n) (fun i => n - i) 0 (Nat.zero_le _)
    (Le.of (Nat.le_of_ble_eq_true rfl) (Nat.zero_le _) ⟨⟨rfl, rfl⟩, ⟨rfl, rfl⟩, ⟨rfl, rfl⟩, trivial⟩ trivial fun h s => sub_same s) ?_⟩
  intro i hi'
  conv => whnf
  refine ⟨fun h3 => ?_, fun h3 => ?_⟩
  · have g3 : i < n := by simpa using h3
    rcases sa with sa | ⟨ab, off, rfl, sa⟩
    · omega
    have hil : i < l.length := by omega
    have f1 := f0 i hil
    have hnx := jn_next hil
    have hli := hlen i
    have hz := hi _ (List.getElem_mem hil)
    have hzl := itoa_len20 hz
    have hpr := fun R' => sRefPrint (R := R') l[i] hz.1 hz.2
    generalize l[i] = z at *
    generalize jn 44 ((l.take i).map Lib.itoa) = q at *
    conv => whnf
    refine ⟨fun h4 => ?_, fun h4 => ?_⟩
    · have h4 : 0 < i := by simpa using h4
      rw [if_pos h4] at hnx
      conv => whnf
      rw [show bs q ++ (⟨#[44]⟩ : ByteArray) = bs (q ++ [44]) from bs_append q [44]]
      conv => whnf
      refine ⟨⟨⟨trivial, by rw [bs_size]; show _ + 1 ≤ _; omega⟩, by omega⟩, LoadAt.cell (.int .i64 z) rfl rfl (fun w hw => ?_) ?_⟩
      · simp only [Int.toNat_natCast, Nat.mul_one]
        exact sa w hw _ _ f1
      conv => whnf
      refine ⟨trivial, CallAt.pure (fun R' hR' => hpr R') ?_⟩
      conv => whnf
      rw [bs_append, ← hnx]
      refine ⟨?_, .mk (i + 1) (by omega) (by omega) (Le.of (Nat.le_of_ble_eq_true rfl) (Nat.zero_le _) ⟨⟨rfl, rfl⟩, ⟨rfl, rfl⟩, ⟨rfl, rfl⟩, trivial⟩ trivial fun h s => sub_nil s)⟩
      refine ⟨⟨trivial, ?_⟩, by unfold rng; omega⟩
      simp only [bs_size, List.length_append, List.length_cons, List.length_nil]
      omega
    · have h4 : ¬ 0 < i := by simpa using h4
      rw [if_neg h4] at hnx
      conv => whnf
      refine ⟨⟨trivial, by omega⟩, LoadAt.cell (.int .i64 z) rfl rfl (fun w hw => ?_) ?_⟩
      · simp only [Int.toNat_natCast, Nat.mul_one]
        exact sa w hw _ _ f1
      conv => whnf
      refine ⟨trivial, CallAt.pure (fun R' hR' => hpr R') ?_⟩
      conv => whnf
      rw [bs_append, ← hnx]
      refine ⟨?_, .mk (i + 1) (by omega) (by omega) (Le.of (Nat.le_of_ble_eq_true rfl) (Nat.zero_le _) ⟨⟨rfl, rfl⟩, ⟨rfl, rfl⟩, ⟨rfl, rfl⟩, trivial⟩ trivial fun h s => sub_nil s)⟩
      refine ⟨⟨trivial, ?_⟩, by unfold rng; omega⟩
      simp only [bs_size, List.length_append, List.length_cons, List.length_nil]
      omega
  · have g3 : i = n := by simp at h3; omega
    subst g3
    have e : l.take i = l := List.take_of_length_le (by omega)
    have e2 : wds 32 [listW l] = [32] ++ jn 44 ((l.take i).map Lib.itoa) := by rw [e]; unfold listW; rw [if_neg hne]; simp [wds]
    have hli := hlen i
    rw [e2]
    generalize jn 44 ((l.take i).map Lib.itoa) = q at *
    conv => whnf
    refine ⟨?_, fin_pure rfl ?_⟩
    · repeat' apply And.intro
      all_goals first | exact True.intro | (simp only [show (⟨#[32]⟩ : ByteArray) = bs [32] from rfl, show (⟨#[44]⟩ : ByteArray) = bs [44] from rfl, bs_append, bs_size, List.length_append, List.length_cons, List.length_nil]; omega)
    · simp only [show (⟨#[32]⟩ : ByteArray) = bs [32] from rfl, bs_append]; rfl
end Go.Proofs.YtihkhomnhggifaaGreatDoor

/-
  Symbolic runs: a slice literal of pointers to the call's own objects.
-/
namespace Go.Proofs.YtihkhomnhggifaaGreatDoor
open Go.RowKit
namespace Sy
set_option linter.unusedVariables false
set_option linter.unusedSimpArgs false

/-- an operation that comes to its end -/
def OpMk (G : Gl) (o : Oper) (st : St) (K : St → Prop) : Prop := ∀ ρ a w, Tm G st ρ a → Mem G st ρ w → o.wp G.P a w (fun a' w' => ∃ st' ρ', K st' ∧ Tm G st' ρ' a' ∧ Mem G st' ρ' w' ∧ Ext ρ ρ') fun _ _ _ => False
theorem OpMk.at {G : Gl} {o : Oper} {st : St} {K : St → Prop} (h : OpMk G o st K) : OpAt G o st K := .mk h
/-- ahead of it an object of the call's own comes to be a plain block -/
theorem OpMk.expose {G : Gl} {o : Oper} {st : St} {K : St → Prop} (n : Nat) (h : Sy.expose G st n False fun _ st' => OpMk G o st' K) : OpMk G o st K := fun ρ a w m mm => by
  rcases expose_sound h with h | ⟨t, vs, h, he⟩
  · exact h.elim
  · obtain ⟨b, e1, eb, m', mm'⟩ := he ρ a w m mm
    exact h b eb ρ a w m' mm'
theorem OpMk.sem {G : Gl} {o : Oper} {st : St} {K : St → Prop} {pre : List HP} {post : Value → List HP → Prop} (rest : List HP) (hp : ∀ h, sepL st.h G.R h → sepL (pre ++ rest) G.R h) (hsel : notSel o.op = true) (hr : allR st o.op.operands.toList = true)
    (hf : ∀ R', (∀ w, Sat R' w → Sat (sepL rest G.R) w) → SemR G.P R' (execOp (evR st) o) pre post) (k : ∀ v hs, post v hs → putK G { st with h := hs ++ rest } o.dst (.v v) none K) : OpMk G o st K := by
  intro ρ a w m mm
  obtain ⟨h, h1, h2, h3, h4⟩ := mem_split mm
  have h2 := hp h h2
  rw [sepL_append] at h2
  obtain ⟨v, hs, w', hrun, hv, ⟨g, g1, s⟩, hw⟩ := hf (plus (obj st ρ w) (sepL rest G.R)) (by
    rintro w' ⟨g, g1, ⟨g2, d, rfl, s⟩⟩
    exact ⟨g2, g1.right d, s⟩) w ⟨_, h4.un h1, plus_in h3 h2⟩
  have hc : execOp a.eval o = execOp (evR st) o := execOp_congr o (fun cs b => notSel_spec hsel cs b) fun x hx => allR_sound m hr x (by simpa using hx)
  have mm' : Mem G { st with h := hs ++ rest } ρ w' := by
    refine mem_join mm hw g1 ?_
    have := plus_out s
    rwa [sepL_append]
  obtain ⟨st', k', m', mm2⟩ := putK_go (k v hs hv) (ρ := ρ) (v := v) rfl (m.same rfl) mm'
  unfold Oper.wp
  rw [hc, hrun]
  exact ⟨st', ρ, k', m', mm2, Ext.refl _⟩

/-- a slice literal -/
theorem OpMk.lit {G : Gl} {o : Oper} {st : St} {K : St → Prop} {t e : TypeId} {len : Nat} {parts : Array (Nat × Operand)} {ie : TypeInfo} {z : Value} (vs : List Value) (size : Nat) (ho : o.op = .buildSlice t len parts) (hu : G.P.underlying t = some (.slice e)) (hie : G.P.info? e = some ie) (hz : ie.zero = some z)
    (hsz : ie.size = size) (hpos : 0 < size) (hd : dens 0 parts.toList = true) (hr : allR st o.op.operands.toList = true) (hvs : vs = parts.toList.map fun p => evR st p.2) (hcs : ∀ v ∈ vs, v.cells.size = size) (hl : len = vs.length) (hsm : len * size ≤ 16777216)
    (k : ∀ g, putK G { st with h := rowH (.slice (some ⟨g, 0, none⟩) len len) len e size (cellsOf vs) :: st.h } o.dst (.v (.slice (some ⟨g, 0, none⟩) len len)) none K) : OpMk G o st K := by
  refine OpMk.sem (pre := []) (post := fun v hs => ∃ g, v = .slice (some ⟨g, 0, none⟩) len len ∧ hs = [rowH (.slice (some ⟨g, 0, none⟩) len len) len e size (cellsOf vs)]) st.h (fun h s => s) (by rw [ho]; rfl) hr ?_ ?_
  · intro R' _ w s
    refine ⟨_, _, w.alloc (.cells (cellsOf vs).toArray e), ?_, ⟨w.heap.size, rfl, rfl⟩, ?_, .of_below ((Below.refl _ _).alloc (Nat.le_refl _) _)⟩
    · have hfill : Instr.fill (fun i => some (i * ie.size, ie.size)) ((Array.range (len * ie.size)).map (z.cells[· % z.cells.size]!)) (parts.map fun (i, x) => (i, evR st x)).toList = some (cellsOf vs).toArray := by
        rw [Array.toList_map, dens_eq hd, ← hvs, hsz]
        exact fill_all hpos vs _ hcs (by simp [hl])
      simp only [execOp, ho, Sem.run_bind]
      by_cases h0 : len = 0
      · have hv0 : vs = [] := List.eq_nil_of_length_eq_zero (by omega)
        have hp0 : parts.toList = [] := by
          rw [hv0] at hvs
          exact List.map_eq_nil_iff.1 hvs.symm
        have hp1 : (parts.map fun (i, x) => (i, evR st x)).toList = [] := by rw [Array.toList_map, hp0]; rfl
        subst h0 hv0
        simp [Instr.buildSlice, run_underlying hu, sizeOf, typeInfo, hie, newRow, newObj, hp0, Instr.fill, cellsOf]
        rw [show Array.map (fun _ => (default : Value)) (Array.range 0) = #[] from by apply Array.ext'; simp]
        rfl
      · rw [run_buildSlice w t e len _ (cellsOf vs).toArray ie z hu hie hz (by rw [hsz]; omega) (by rw [hsz]; exact Nat.mul_ne_zero h0 (by omega)) hfill]
        simp
    · refine sat_row s ((Below.refl _ _).alloc (Nat.le_refl _) _) ⟨?_, .inr ⟨_, len, (cellsOf vs).toArray, rfl, Nat.le_refl _, heap_alloc_new w _, Nat.le_refl _, by simp only [maxLen]; have : len ≤ len * size := Nat.le_mul_of_pos_right _ hpos; omega, ?_, ?_⟩⟩
      all_goals
        have hlen : (cellsOf vs).length = len * size := by rw [hl]; exact cellsOf_len hcs
      · exact hlen
      · simpa using hlen
      · simp only [List.toList_toArray]
        rw [List.take_of_length_le (by omega)]
  · rintro v hs ⟨g, rfl, rfl⟩
    exact k g

end Sy
end Go.Proofs.YtihkhomnhggifaaGreatDoor

