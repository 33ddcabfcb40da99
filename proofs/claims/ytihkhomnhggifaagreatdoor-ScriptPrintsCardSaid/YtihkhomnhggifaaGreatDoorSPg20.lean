/-
  Texts of the proofs, one behind the other: ScKk.
-/
import Derived.Test.YtihkhomnhggifaaGreatDoorSPg13
import Derived.Test.YtihkhomnhggifaaGreatDoorSPg15
import Derived.Test.YtihkhomnhggifaaGreatDoorSPg18
import Derived.Test.YtihkhomnhggifaaGreatDoorSPg19
/-
  script: parse, given parts.
-/
namespace Go.Proofs.YtihkhomnhggifaaGreatDoor
open Go.RowKit
open Sy
set_option linter.unusedVariables false
set_option linter.unusedSimpArgs false
set_option maxRecDepth 100000
set_option maxHeartbeats 4000000

/-- the kind that a verb names, of the first ones -/
def kd (z : List UInt8) : Nat → Int
  | 0 => 0
  | i + 1 => if verbsL.getD i [] = z ∧ z ≠ [] then (i : Int) else kd z i
theorem kd_eq {z : List UInt8} {i : Nat} (h : bs (verbsL.getD i []) = bs z) (h2 : z ≠ []) : kd z (i + 1) = (i : Int) := if_pos ⟨bs_inj.1 h, h2⟩
theorem kd_ne {z : List UInt8} {i : Nat} (h : ¬ bs (verbsL.getD i []) = bs z) : kd z (i + 1) = kd z i := if_neg fun c => h (by rw [c.1])
theorem kd_nil {z : List UInt8} {i : Nat} (h : z = []) : kd z (i + 1) = kd z i := if_neg fun c => c.2 h
abbrev z13 : List SV := [.v (.int .i64 0), .v (.int .i64 0), .v (.int .i64 0), .v (.int .i64 0), .v (.int .i64 0), .v (.int .i64 0), .v (.int .i64 0), .v (.int .i64 0), .v (.int .i64 0), .v (.int .i64 0), .v (.slice none 0 0), .v (.slice none 0 0), .v (.slice none 0 0)]
theorem tk_seen {lb b off n c k : Nat} {R : HP} {L : List HP} {w : World} (s : Sat (sepL (tkH lb b off n c k :: L) R) w) : ∃ A, (A = some ⟨b, off + k, none⟩ ∨ k = n) ∧ Sat (sepL (lnT lb A (n - k) (c - k) :: L) R) w := by
  obtain ⟨h, hs, h1, h2, d, rfl, ⟨A, hA, a⟩, s⟩ := s
  exact ⟨A, hA, _, hs, h1, h2, d, rfl, a, s⟩
/-- what parts does, where words may be left; the line's own words seen -/
def PartsAt (R : HP) (z : List UInt8) (ws : List (List UInt8)) (k : Nat) (Q : OpA → OpF → List HP → Prop) : Prop := ∀ (R' : HP) lb B ob, (∀ w, Sat R' w → Sat R w) → WordsAt R' B 0 (z :: ws) → FnR Tryz.prog R' 15 [.pointer (some ⟨lb, 0, none⟩), .pointer (some ⟨ob, 0, none⟩)] [tkH lb B 0 (ws.length + 1) (ws.length + 1) 1, blkH ob 30 (opZ (kd z 28))] fun r hs => r = .tuple #[] ∧ ∃ q y rows, hs = tkH lb B 0 (ws.length + 1) (ws.length + 1) k :: blkH ob 30 (opCs q y) :: rows ∧ y.o.kind = kd z 28 ∧ Q q y rows
theorem PartsAt.seen {R : HP} {z : List UInt8} {ws : List (List UInt8)} {k : Nat} {Q : OpA → OpF → List HP → Prop} (h : PartsAt R z ws k Q) {R' : HP} {lb B ob : Nat} (hr : ∀ w, Sat R' w → Sat R w) (hw : WordsAt R' B 0 (z :: ws)) :
    FnR Tryz.prog R' 15 [.pointer (some ⟨lb, 0, none⟩), .pointer (some ⟨ob, 0, none⟩)] [tkH lb B 0 (ws.length + 1) (ws.length + 1) 1, blkH ob 30 (opZ (kd z 28))] fun r hs => r = .tuple #[] ∧ ∃ A q y rows, hs = lnT lb A (ws.length + 1 - k) (ws.length + 1 - k) :: blkH ob 30 (opCs q y) :: rows ∧ y.o.kind = kd z 28 ∧ Q q y rows := by
  refine FnR.seen (h R' lb B ob hr hw) ?_
  rintro v hs ⟨rfl, q, y, rows, rfl, h1, h2⟩ w s
  obtain ⟨A, _, s'⟩ := tk_seen s
  exact ⟨_, ⟨rfl, A, q, y, rows, rfl, h1, h2⟩, s'⟩
theorem sParseL {R : HP} {s : List UInt8} {z : List UInt8} {ws : List (List UInt8)} {k : Nat} {Q : OpA → OpF → List HP → Prop} (hV : ∀ w, Sat R w → VerbsW w) (hM : ∀ w, Sat R w → MaxW w) (hl : s.length ≤ 999999) (hs : pcs 32 s = z :: ws) (hK : kd z 28 ≠ 0) (hk : k = ws.length + 1) (hp : PartsAt R z ws k Q) :
    FnR Tryz.prog R 26 [.string (bs s)] [] fun r hs => ∃ q y, r = .agg (opCs q y) ∧ Q q y hs := by
  have hsp := fun R' (h : ∀ w, Sat R' w → Sat R w) => sSplitC (R := R') (fun w s => hM w (h w s)) 32 s (by omega)
  rw [hs] at hsp
  refine fn_of_run0 false Tryz.func26 rfl hmix rfl fun w0 => ?_
  conv => whnf
  refine ⟨trivial, CallAt.fn (pre := []) _ (fun h s => s) (fun R' hR' => hsp R' fun w s => Sat.rest (hR' w s)) ?_⟩
  rintro r hs' ⟨B, rfl, rfl⟩
  conv => whnf
  intro lb _
  conv => whnf
  have hwa : ∀ R' : HP, (∀ w, Sat R' w → Sat (rowH (.slice (some ⟨B, 0, none⟩) (ws.length + 1) (ws.length + 1)) (ws.length + 1) 9 1 (strV (z :: ws))) w) → WordsAt R' B 0 (z :: ws) := fun R' h w s j y hy => by
    have hrd := rowH_reads rfl (h w s)
    obtain ⟨ad, e1, _, e2⟩ := hrd.2 (by omega)
    injection e1 with e1
    subst e1
    have := e2 j (.string (bs y)) (by unfold strV; rw [List.getElem?_map, hy]; rfl)
    rw [add_plain] at this
    exact this
  have hwl : ws.length ≤ 999999 := by have := pcs_len 32 s; rw [hs] at this; have h3 : s.count 32 ≤ s.length := List.count_le_length; simp at this; omega
  refine ⟨trivial, CallAt.fn (pre := [tkH lb B 0 (ws.length + 1) (ws.length + 1) 0]) _ (fun h s => tk_shut (.inl rfl) s) (fun R' hR' => sWordT _ (z := z) rfl rfl (by omega) (Nat.le_refl _) (hwa R' fun w s => (hR' w s).in_ 0 rfl)) ?_⟩
  rintro r hs' ⟨rfl, rfl⟩
  conv => whnf
  refine ⟨trivial, LoadAt.agg (verbsL.map fun z => Value.string (bs z)) rfl rfl rfl (fun w hw j u hj => ?_) ?_⟩
  · have hb : Blk w _ _ _ := hV w (Sat.rest hw)
    rw [Nat.zero_add]
    exact (hb.cell j).trans (by simpa using hj)
  conv => whnf
  refine ⟨trivial, LoopAt.of (α := Nat) [2, 3, 4, 5, 14] (fun i => [(15, .v (.int .i64 (i : Int)))]) (fun i => [(2, 30, .v (.int .i64 (kd z i)) :: z13), (0, 30, .v (.int .i64 0) :: z13)]) (fun _ => [tkH lb B 0 (ws.length + 1) (ws.length + 1) 1, rowH (.slice (some ⟨B, 0, none⟩) (ws.length + 1) (ws.length + 1)) (ws.length + 1) 9 1 (strV (z :: ws))]) (fun i => i ≤ 28) (fun i => 28 - i) 0 (Nat.zero_le _)
    (Le.of (Nat.le_of_ble_eq_true rfl) (Nat.zero_le _) ⟨⟨rfl, rfl⟩, ⟨rfl, rfl⟩, ⟨rfl, rfl⟩, ⟨rfl, rfl⟩, ⟨rfl, rfl⟩, ⟨rfl, rfl⟩, trivial⟩ ⟨⟨rfl, rfl, rfl, rfl⟩, ⟨rfl, rfl, rfl, rfl⟩, trivial⟩ fun h s => sub_same s) ?_⟩
  intro i hi
  conv => whnf
  refine ⟨fun h => ?_, fun h => ?_⟩
  · have hi2 : i < 28 := by have := of_decide_eq_true h; omega
    have hT := fun a b => kd_eq (z := z) (i := i) a b
    have hF := fun a => kd_ne (z := z) (i := i) a
    have hE := fun a => kd_nil (z := z) (i := i) a
    have h28 : i = 0 ∨ i = 1 ∨ i = 2 ∨ i = 3 ∨ i = 4 ∨ i = 5 ∨ i = 6 ∨ i = 7 ∨ i = 8 ∨ i = 9 ∨ i = 10 ∨ i = 11 ∨ i = 12 ∨ i = 13 ∨ i = 14 ∨ i = 15 ∨ i = 16 ∨ i = 17 ∨ i = 18 ∨ i = 19 ∨ i = 20 ∨ i = 21 ∨ i = 22 ∨ i = 23 ∨ i = 24 ∨ i = 25 ∨ i = 26 ∨ i = 27 := by omega
    generalize kd z i = kv at *
    rcases h28 with rfl | rfl | rfl | rfl | rfl | rfl | rfl | rfl | rfl | rfl | rfl | rfl | rfl | rfl | rfl | rfl | rfl | rfl | rfl | rfl | rfl | rfl | rfl | rfl | rfl | rfl | rfl | rfl
    all_goals
      conv => whnf
      refine ⟨fun h5 => ?_, fun h5 => ?_⟩
      · conv => whnf
        refine ⟨fun h6 => ?_, fun h6 => ?_⟩
        · have hw := hT (of_decide_eq_true h5) (fun e => by subst e; exact absurd h6 (by decide))
          conv => whnf
          refine ⟨(by (repeat' apply And.intro) <;> first | exact True.intro | (unfold rng; omega) | omega), .mk _ (Nat.le_of_ble_eq_true rfl) (by decide) (Le.of (Nat.le_of_ble_eq_true rfl) (Nat.zero_le _) ⟨⟨rfl, rfl⟩, ⟨rfl, rfl⟩, ⟨rfl, rfl⟩, ⟨rfl, rfl⟩, ⟨rfl, rfl⟩, ⟨rfl, rfl⟩, trivial⟩ ⟨⟨congrArg (fun v => some (30, (SV.v (.int .i64 v) :: z13))) hw.symm, rfl, rfl, rfl⟩, ⟨rfl, rfl, rfl, rfl⟩, trivial⟩ fun h s => sub_same s)⟩
        · have h7 : bs z = (⟨#[]⟩ : ByteArray) := by simpa using h6
          have hw := hE (bs_inj.1 (show bs z = bs [] from h7))
          conv => whnf
          refine ⟨(by (repeat' apply And.intro) <;> first | exact True.intro | (unfold rng; omega) | omega), .mk _ (Nat.le_of_ble_eq_true rfl) (by decide) (Le.of (Nat.le_of_ble_eq_true rfl) (Nat.zero_le _) ⟨⟨rfl, rfl⟩, ⟨rfl, rfl⟩, ⟨rfl, rfl⟩, ⟨rfl, rfl⟩, ⟨rfl, rfl⟩, ⟨rfl, rfl⟩, trivial⟩ ⟨⟨congrArg (fun v => some (30, (SV.v (.int .i64 v) :: z13))) hw.symm, rfl, rfl, rfl⟩, ⟨rfl, rfl, rfl, rfl⟩, trivial⟩ fun h s => sub_same s)⟩
      · have hw := hF (of_decide_eq_false h5)
        conv => whnf
        refine ⟨(by (repeat' apply And.intro) <;> first | exact True.intro | (unfold rng; omega) | omega), .mk _ (Nat.le_of_ble_eq_true rfl) (by decide) (Le.of (Nat.le_of_ble_eq_true rfl) (Nat.zero_le _) ⟨⟨rfl, rfl⟩, ⟨rfl, rfl⟩, ⟨rfl, rfl⟩, ⟨rfl, rfl⟩, ⟨rfl, rfl⟩, ⟨rfl, rfl⟩, trivial⟩ ⟨⟨congrArg (fun v => some (30, (SV.v (.int .i64 v) :: z13))) hw.symm, rfl, rfl, rfl⟩, ⟨rfl, rfl, rfl, rfl⟩, trivial⟩ fun h s => sub_same s)⟩
  have hi3 : i = 28 := by have := of_decide_eq_false h; omega
  subst hi3
  intro ob _
  conv => whnf
  refine ⟨trivial, CallAt.fn (pre := [tkH lb B 0 (ws.length + 1) (ws.length + 1) 1, blkH ob 30 _]) _ (fun h s => sepL_perm (List.Perm.swap _ _ _) s) (fun R' hR' => hp.seen (fun w s => Sat.rest (hR' w s)) (hwa R' fun w s => (hR' w s).in_ 0 rfl)) ?_⟩
  rintro r hs' ⟨rfl, A, q, y, rows, rfl, hv, hQ⟩
  generalize kd z 28 = kk at *
  obtain ⟨⟨kind, x0, y0, x1, y1, ax, ay, bx, b_y, n, m⟩, vals, byts, bands⟩ := y
  simp only at hv
  subst hv
  unfold opCs opC
  simp only
  conv => whnf
  refine ⟨trivial, LoadAt.cell (.int .i64 kind) rfl rfl (fun w hw => blk_cell (hw.in_ 1 rfl) rfl) ?_⟩
  conv => whnf
  refine ⟨fun _ => ?_, fun g => absurd (show kind = 0 by simpa using g) hK⟩
  conv => whnf
  refine ⟨trivial, LoadAt.cell (.slice A (ws.length + 1 - k) (ws.length + 1 - k)) rfl rfl (fun w hw => blk_cell (hw.in_ 0 rfl) rfl) ?_⟩
  conv => whnf
  refine ⟨fun g => absurd (of_decide_eq_true g) (by omega), fun _ => ?_⟩
  conv => whnf
  refine ⟨trivial, LoadAt.agg [.int .i64 kind, .int .i64 x0, .int .i64 y0, .int .i64 x1, .int .i64 y1, .int .i64 ax, .int .i64 ay, .int .i64 bx, .int .i64 b_y, .int .i64 n, .int .i64 m, .slice q.A1 vals.length q.c1, .slice q.A2 byts.length q.c2, .slice q.A3 bands.length q.c3] rfl rfl (by kernel_rfl) (fun w hw j u hj => ?_) ?_⟩
  · rw [Nat.zero_add]
    exact blk_cell (hw.in_ 1 rfl) (by simpa using hj)
  conv => whnf
  refine ⟨trivial, .mk rows (fun w ⟨h, hs, s⟩ => ?_) ⟨q, ⟨⟨kind, x0, y0, x1, y1, ax, ay, bx, b_y, n, m⟩, vals, byts, bands⟩, rfl, hQ⟩⟩
  obtain ⟨h1, e1, s1⟩ := sub_tail s
  obtain ⟨h2, e2, s2⟩ := sub_tail s1
  obtain ⟨h3, e3, s3⟩ := sub_front (m := rows) s2
  exact ⟨h3, hs.mono fun i o e => e1 i o (e2 i o (e3 i o e)), s3⟩
/-- words are left -/
theorem sParseLeft {R : HP} {s : List UInt8} {z : List UInt8} {ws : List (List UInt8)} {k : Nat} {Q : OpA → OpF → List HP → Prop} (hV : ∀ w, Sat R w → VerbsW w) (hM : ∀ w, Sat R w → MaxW w) (hl : s.length ≤ 999999) (hs : pcs 32 s = z :: ws) (hK : kd z 28 ≠ 0) (hk : k < ws.length + 1) (hp : PartsAt R z ws k Q) :
    PanR Tryz.prog R 26 [.string (bs s)] [] isThrown R := by
  have hsp := fun R' (h : ∀ w, Sat R' w → Sat R w) => sSplitC (R := R') (fun w s => hM w (h w s)) 32 s (by omega)
  rw [hs] at hsp
  refine pan_of_run0 _ _ false Tryz.func26 rfl hmix rfl fun w0 => ?_
  conv => whnf
  refine ⟨trivial, CallAt.fn (pre := []) _ (fun h s => s) (fun R' hR' => hsp R' fun w s => Sat.rest (hR' w s)) ?_⟩
  rintro r hs' ⟨B, rfl, rfl⟩
  conv => whnf
  intro lb _
  conv => whnf
  have hwa : ∀ R' : HP, (∀ w, Sat R' w → Sat (rowH (.slice (some ⟨B, 0, none⟩) (ws.length + 1) (ws.length + 1)) (ws.length + 1) 9 1 (strV (z :: ws))) w) → WordsAt R' B 0 (z :: ws) := fun R' h w s j y hy => by
    have hrd := rowH_reads rfl (h w s)
    obtain ⟨ad, e1, _, e2⟩ := hrd.2 (by omega)
    injection e1 with e1
    subst e1
    have := e2 j (.string (bs y)) (by unfold strV; rw [List.getElem?_map, hy]; rfl)
    rw [add_plain] at this
    exact this
  have hwl : ws.length ≤ 999999 := by have := pcs_len 32 s; rw [hs] at this; have h3 : s.count 32 ≤ s.length := List.count_le_length; simp at this; omega
  refine ⟨trivial, CallAt.fn (pre := [tkH lb B 0 (ws.length + 1) (ws.length + 1) 0]) _ (fun h s => tk_shut (.inl rfl) s) (fun R' hR' => sWordT _ (z := z) rfl rfl (by omega) (Nat.le_refl _) (hwa R' fun w s => (hR' w s).in_ 0 rfl)) ?_⟩
  rintro r hs' ⟨rfl, rfl⟩
  conv => whnf
  refine ⟨trivial, LoadAt.agg (verbsL.map fun z => Value.string (bs z)) rfl rfl rfl (fun w hw j u hj => ?_) ?_⟩
  · have hb : Blk w _ _ _ := hV w (Sat.rest hw)
    rw [Nat.zero_add]
    exact (hb.cell j).trans (by simpa using hj)
  conv => whnf
  refine ⟨trivial, LoopAt.of (α := Nat) [2, 3, 4, 5, 14] (fun i => [(15, .v (.int .i64 (i : Int)))]) (fun i => [(2, 30, .v (.int .i64 (kd z i)) :: z13), (0, 30, .v (.int .i64 0) :: z13)]) (fun _ => [tkH lb B 0 (ws.length + 1) (ws.length + 1) 1, rowH (.slice (some ⟨B, 0, none⟩) (ws.length + 1) (ws.length + 1)) (ws.length + 1) 9 1 (strV (z :: ws))]) (fun i => i ≤ 28) (fun i => 28 - i) 0 (Nat.zero_le _)
    (Le.of (Nat.le_of_ble_eq_true rfl) (Nat.zero_le _) ⟨⟨rfl, rfl⟩, ⟨rfl, rfl⟩, ⟨rfl, rfl⟩, ⟨rfl, rfl⟩, ⟨rfl, rfl⟩, ⟨rfl, rfl⟩, trivial⟩ ⟨⟨rfl, rfl, rfl, rfl⟩, ⟨rfl, rfl, rfl, rfl⟩, trivial⟩ fun h s => sub_same s) ?_⟩
  intro i hi
  conv => whnf
  refine ⟨fun h => ?_, fun h => ?_⟩
  · have hi2 : i < 28 := by have := of_decide_eq_true h; omega
    have hT := fun a b => kd_eq (z := z) (i := i) a b
    have hF := fun a => kd_ne (z := z) (i := i) a
    have hE := fun a => kd_nil (z := z) (i := i) a
    have h28 : i = 0 ∨ i = 1 ∨ i = 2 ∨ i = 3 ∨ i = 4 ∨ i = 5 ∨ i = 6 ∨ i = 7 ∨ i = 8 ∨ i = 9 ∨ i = 10 ∨ i = 11 ∨ i = 12 ∨ i = 13 ∨ i = 14 ∨ i = 15 ∨ i = 16 ∨ i = 17 ∨ i = 18 ∨ i = 19 ∨ i = 20 ∨ i = 21 ∨ i = 22 ∨ i = 23 ∨ i = 24 ∨ i = 25 ∨ i = 26 ∨ i = 27 := by omega
    generalize kd z i = kv at *
    rcases h28 with rfl | rfl | rfl | rfl | rfl | rfl | rfl | rfl | rfl | rfl | rfl | rfl | rfl | rfl | rfl | rfl | rfl | rfl | rfl | rfl | rfl | rfl | rfl | rfl | rfl | rfl | rfl | rfl
    all_goals
      conv => whnf
      refine ⟨fun h5 => ?_, fun h5 => ?_⟩
      · conv => whnf
        refine ⟨fun h6 => ?_, fun h6 => ?_⟩
        · have hw := hT (of_decide_eq_true h5) (fun e => by subst e; exact absurd h6 (by decide))
          conv => whnf
          refine ⟨(by (repeat' apply And.intro) <;> first | exact True.intro | (unfold rng; omega) | omega), .mk _ (Nat.le_of_ble_eq_true rfl) (by decide) (Le.of (Nat.le_of_ble_eq_true rfl) (Nat.zero_le _) ⟨⟨rfl, rfl⟩, ⟨rfl, rfl⟩, ⟨rfl, rfl⟩, ⟨rfl, rfl⟩, ⟨rfl, rfl⟩, ⟨rfl, rfl⟩, trivial⟩ ⟨⟨congrArg (fun v => some (30, (SV.v (.int .i64 v) :: z13))) hw.symm, rfl, rfl, rfl⟩, ⟨rfl, rfl, rfl, rfl⟩, trivial⟩ fun h s => sub_same s)⟩
        · have h7 : bs z = (⟨#[]⟩ : ByteArray) := by simpa using h6
          have hw := hE (bs_inj.1 (show bs z = bs [] from h7))
          conv => whnf
          refine ⟨(by (repeat' apply And.intro) <;> first | exact True.intro | (unfold rng; omega) | omega), .mk _ (Nat.le_of_ble_eq_true rfl) (by decide) (Le.of (Nat.le_of_ble_eq_true rfl) (Nat.zero_le _) ⟨⟨rfl, rfl⟩, ⟨rfl, rfl⟩, ⟨rfl, rfl⟩, ⟨rfl, rfl⟩, ⟨rfl, rfl⟩, ⟨rfl, rfl⟩, trivial⟩ ⟨⟨congrArg (fun v => some (30, (SV.v (.int .i64 v) :: z13))) hw.symm, rfl, rfl, rfl⟩, ⟨rfl, rfl, rfl, rfl⟩, trivial⟩ fun h s => sub_same s)⟩
      · have hw := hF (of_decide_eq_false h5)
        conv => whnf
        refine ⟨(by (repeat' apply And.intro) <;> first | exact True.intro | (unfold rng; omega) | omega), .mk _ (Nat.le_of_ble_eq_true rfl) (by decide) (Le.of (Nat.le_of_ble_eq_true rfl) (Nat.zero_le _) ⟨⟨rfl, rfl⟩, ⟨rfl, rfl⟩, ⟨rfl, rfl⟩, ⟨rfl, rfl⟩, ⟨rfl, rfl⟩, ⟨rfl, rfl⟩, trivial⟩ ⟨⟨congrArg (fun v => some (30, (SV.v (.int .i64 v) :: z13))) hw.symm, rfl, rfl, rfl⟩, ⟨rfl, rfl, rfl, rfl⟩, trivial⟩ fun h s => sub_same s)⟩
  have hi3 : i = 28 := by have := of_decide_eq_false h; omega
  subst hi3
  intro ob _
  conv => whnf
  refine ⟨trivial, CallAt.fn (pre := [tkH lb B 0 (ws.length + 1) (ws.length + 1) 1, blkH ob 30 _]) _ (fun h s => sepL_perm (List.Perm.swap _ _ _) s) (fun R' hR' => hp.seen (fun w s => Sat.rest (hR' w s)) (hwa R' fun w s => (hR' w s).in_ 0 rfl)) ?_⟩
  rintro r hs' ⟨rfl, A, q, y, rows, rfl, hv, hQ⟩
  generalize kd z 28 = kk at *
  obtain ⟨⟨kind, x0, y0, x1, y1, ax, ay, bx, b_y, n, m⟩, vals, byts, bands⟩ := y
  simp only at hv
  subst hv
  unfold opCs opC
  simp only
  conv => whnf
  refine ⟨trivial, LoadAt.cell (.int .i64 kind) rfl rfl (fun w hw => blk_cell (hw.in_ 1 rfl) rfl) ?_⟩
  conv => whnf
  refine ⟨fun _ => ?_, fun g => absurd (show kind = 0 by simpa using g) hK⟩
  conv => whnf
  refine ⟨trivial, LoadAt.cell (.slice A (ws.length + 1 - k) (ws.length + 1 - k)) rfl rfl (fun w hw => blk_cell (hw.in_ 0 rfl) rfl) ?_⟩
  conv => whnf
  refine ⟨fun _ => ?_, fun g => absurd (of_decide_eq_false g) (by omega)⟩
  conv => whnf
  exact ⟨trivial, OpAt.panic 72 (.agg #[.int .i64 12]) rfl rfl rfl rfl (fun w s => s.rest) trivial⟩
/-- there is no such verb -/
theorem sParseNone {R : HP} {s : List UInt8} {z : List UInt8} {ws : List (List UInt8)} (hV : ∀ w, Sat R w → VerbsW w) (hM : ∀ w, Sat R w → MaxW w) (hl : s.length ≤ 999999) (hs : pcs 32 s = z :: ws) (hK : kd z 28 = 0) :
    PanR Tryz.prog R 26 [.string (bs s)] [] isThrown R := by
  have hp : PartsAt R z ws 1 fun _ _ _ => True := fun R' lb B ob _ _ => by
    rw [hK]
    exact (sTakeZero (R := R')).post fun v hs ⟨e1, e2⟩ => ⟨hs, ⟨e1, ⟨none, 0, none, 0, none, 0⟩, ⟨⟨0, 0, 0, 0, 0, 0, 0, 0, 0, 0, 0⟩, [], [], []⟩, [], e2, rfl, trivial⟩, fun h s => s⟩
  obtain ⟨k, hk⟩ : ∃ k, k = 1 := ⟨1, rfl⟩
  rw [← hk] at hp
  have hsp := fun R' (h : ∀ w, Sat R' w → Sat R w) => sSplitC (R := R') (fun w s => hM w (h w s)) 32 s (by omega)
  rw [hs] at hsp
  refine pan_of_run0 _ _ false Tryz.func26 rfl hmix rfl fun w0 => ?_
  conv => whnf
  refine ⟨trivial, CallAt.fn (pre := []) _ (fun h s => s) (fun R' hR' => hsp R' fun w s => Sat.rest (hR' w s)) ?_⟩
  rintro r hs' ⟨B, rfl, rfl⟩
  conv => whnf
  intro lb _
  conv => whnf
  have hwa : ∀ R' : HP, (∀ w, Sat R' w → Sat (rowH (.slice (some ⟨B, 0, none⟩) (ws.length + 1) (ws.length + 1)) (ws.length + 1) 9 1 (strV (z :: ws))) w) → WordsAt R' B 0 (z :: ws) := fun R' h w s j y hy => by
    have hrd := rowH_reads rfl (h w s)
    obtain ⟨ad, e1, _, e2⟩ := hrd.2 (by omega)
    injection e1 with e1
    subst e1
    have := e2 j (.string (bs y)) (by unfold strV; rw [List.getElem?_map, hy]; rfl)
    rw [add_plain] at this
    exact this
  have hwl : ws.length ≤ 999999 := by have := pcs_len 32 s; rw [hs] at this; have h3 : s.count 32 ≤ s.length := List.count_le_length; simp at this; omega
  refine ⟨trivial, CallAt.fn (pre := [tkH lb B 0 (ws.length + 1) (ws.length + 1) 0]) _ (fun h s => tk_shut (.inl rfl) s) (fun R' hR' => sWordT _ (z := z) rfl rfl (by omega) (Nat.le_refl _) (hwa R' fun w s => (hR' w s).in_ 0 rfl)) ?_⟩
  rintro r hs' ⟨rfl, rfl⟩
  conv => whnf
  refine ⟨trivial, LoadAt.agg (verbsL.map fun z => Value.string (bs z)) rfl rfl rfl (fun w hw j u hj => ?_) ?_⟩
  · have hb : Blk w _ _ _ := hV w (Sat.rest hw)
    rw [Nat.zero_add]
    exact (hb.cell j).trans (by simpa using hj)
  conv => whnf
  refine ⟨trivial, LoopAt.of (α := Nat) [2, 3, 4, 5, 14] (fun i => [(15, .v (.int .i64 (i : Int)))]) (fun i => [(2, 30, .v (.int .i64 (kd z i)) :: z13), (0, 30, .v (.int .i64 0) :: z13)]) (fun _ => [tkH lb B 0 (ws.length + 1) (ws.length + 1) 1, rowH (.slice (some ⟨B, 0, none⟩) (ws.length + 1) (ws.length + 1)) (ws.length + 1) 9 1 (strV (z :: ws))]) (fun i => i ≤ 28) (fun i => 28 - i) 0 (Nat.zero_le _)
    (Le.of (Nat.le_of_ble_eq_true rfl) (Nat.zero_le _) ⟨⟨rfl, rfl⟩, ⟨rfl, rfl⟩, ⟨rfl, rfl⟩, ⟨rfl, rfl⟩, ⟨rfl, rfl⟩, ⟨rfl, rfl⟩, trivial⟩ ⟨⟨rfl, rfl, rfl, rfl⟩, ⟨rfl, rfl, rfl, rfl⟩, trivial⟩ fun h s => sub_same s) ?_⟩
  intro i hi
  conv => whnf
  refine ⟨fun h => ?_, fun h => ?_⟩
  · have hi2 : i < 28 := by have := of_decide_eq_true h; omega
    have hT := fun a b => kd_eq (z := z) (i := i) a b
    have hF := fun a => kd_ne (z := z) (i := i) a
    have hE := fun a => kd_nil (z := z) (i := i) a
    have h28 : i = 0 ∨ i = 1 ∨ i = 2 ∨ i = 3 ∨ i = 4 ∨ i = 5 ∨ i = 6 ∨ i = 7 ∨ i = 8 ∨ i = 9 ∨ i = 10 ∨ i = 11 ∨ i = 12 ∨ i = 13 ∨ i = 14 ∨ i = 15 ∨ i = 16 ∨ i = 17 ∨ i = 18 ∨ i = 19 ∨ i = 20 ∨ i = 21 ∨ i = 22 ∨ i = 23 ∨ i = 24 ∨ i = 25 ∨ i = 26 ∨ i = 27 := by omega
    generalize kd z i = kv at *
    rcases h28 with rfl | rfl | rfl | rfl | rfl | rfl | rfl | rfl | rfl | rfl | rfl | rfl | rfl | rfl | rfl | rfl | rfl | rfl | rfl | rfl | rfl | rfl | rfl | rfl | rfl | rfl | rfl | rfl
    all_goals
      conv => whnf
      refine ⟨fun h5 => ?_, fun h5 => ?_⟩
      · conv => whnf
        refine ⟨fun h6 => ?_, fun h6 => ?_⟩
        · have hw := hT (of_decide_eq_true h5) (fun e => by subst e; exact absurd h6 (by decide))
          conv => whnf
          refine ⟨(by (repeat' apply And.intro) <;> first | exact True.intro | (unfold rng; omega) | omega), .mk _ (Nat.le_of_ble_eq_true rfl) (by decide) (Le.of (Nat.le_of_ble_eq_true rfl) (Nat.zero_le _) ⟨⟨rfl, rfl⟩, ⟨rfl, rfl⟩, ⟨rfl, rfl⟩, ⟨rfl, rfl⟩, ⟨rfl, rfl⟩, ⟨rfl, rfl⟩, trivial⟩ ⟨⟨congrArg (fun v => some (30, (SV.v (.int .i64 v) :: z13))) hw.symm, rfl, rfl, rfl⟩, ⟨rfl, rfl, rfl, rfl⟩, trivial⟩ fun h s => sub_same s)⟩
        · have h7 : bs z = (⟨#[]⟩ : ByteArray) := by simpa using h6
          have hw := hE (bs_inj.1 (show bs z = bs [] from h7))
          conv => whnf
          refine ⟨(by (repeat' apply And.intro) <;> first | exact True.intro | (unfold rng; omega) | omega), .mk _ (Nat.le_of_ble_eq_true rfl) (by decide) (Le.of (Nat.le_of_ble_eq_true rfl) (Nat.zero_le _) ⟨⟨rfl, rfl⟩, ⟨rfl, rfl⟩, ⟨rfl, rfl⟩, ⟨rfl, rfl⟩, ⟨rfl, rfl⟩, ⟨rfl, rfl⟩, trivial⟩ ⟨⟨congrArg (fun v => some (30, (SV.v (.int .i64 v) :: z13))) hw.symm, rfl, rfl, rfl⟩, ⟨rfl, rfl, rfl, rfl⟩, trivial⟩ fun h s => sub_same s)⟩
      · have hw := hF (of_decide_eq_false h5)
        conv => whnf
        refine ⟨(by (repeat' apply And.intro) <;> first | exact True.intro | (unfold rng; omega) | omega), .mk _ (Nat.le_of_ble_eq_true rfl) (by decide) (Le.of (Nat.le_of_ble_eq_true rfl) (Nat.zero_le _) ⟨⟨rfl, rfl⟩, ⟨rfl, rfl⟩, ⟨rfl, rfl⟩, ⟨rfl, rfl⟩, ⟨rfl, rfl⟩, ⟨rfl, rfl⟩, trivial⟩ ⟨⟨congrArg (fun v => some (30, (SV.v (.int .i64 v) :: z13))) hw.symm, rfl, rfl, rfl⟩, ⟨rfl, rfl, rfl, rfl⟩, trivial⟩ fun h s => sub_same s)⟩
  have hi3 : i = 28 := by have := of_decide_eq_false h; omega
  subst hi3
  intro ob _
  conv => whnf
  refine ⟨trivial, CallAt.fn (pre := [tkH lb B 0 (ws.length + 1) (ws.length + 1) 1, blkH ob 30 _]) _ (fun h s => sepL_perm (List.Perm.swap _ _ _) s) (fun R' hR' => hp.seen (fun w s => Sat.rest (hR' w s)) (hwa R' fun w s => (hR' w s).in_ 0 rfl)) ?_⟩
  rintro r hs' ⟨rfl, A, q, y, rows, rfl, hv, hQ⟩
  generalize kd z 28 = kk at *
  obtain ⟨⟨kind, x0, y0, x1, y1, ax, ay, bx, b_y, n, m⟩, vals, byts, bands⟩ := y
  simp only at hv
  subst hv
  unfold opCs opC
  simp only
  conv => whnf
  refine ⟨trivial, LoadAt.cell (.int .i64 kind) rfl rfl (fun w hw => blk_cell (hw.in_ 1 rfl) rfl) ?_⟩
  conv => whnf
  refine ⟨fun g => absurd hK (by simpa using g), fun _ => ?_⟩
  conv => whnf
  exact ⟨trivial, OpAt.panic 72 (.agg #[.int .i64 12]) rfl rfl rfl rfl (fun w s => s.rest) trivial⟩
/-- the parts throw -/
theorem sParsePan {R : HP} {s : List UInt8} {z : List UInt8} {ws : List (List UInt8)} (hV : ∀ w, Sat R w → VerbsW w) (hM : ∀ w, Sat R w → MaxW w) (hl : s.length ≤ 999999) (hs : pcs 32 s = z :: ws)
    (hp : ∀ (R' : HP) lb B ob, (∀ w, Sat R' w → Sat R w) → WordsAt R' B 0 (z :: ws) → PanR Tryz.prog R' 15 [.pointer (some ⟨lb, 0, none⟩), .pointer (some ⟨ob, 0, none⟩)] [tkH lb B 0 (ws.length + 1) (ws.length + 1) 1, blkH ob 30 (opZ (kd z 28))] isThrown R') :
    PanR Tryz.prog R 26 [.string (bs s)] [] isThrown R := by
  have hsp := fun R' (h : ∀ w, Sat R' w → Sat R w) => sSplitC (R := R') (fun w s => hM w (h w s)) 32 s (by omega)
  rw [hs] at hsp
  refine pan_of_run0 _ _ false Tryz.func26 rfl hmix rfl fun w0 => ?_
  conv => whnf
  refine ⟨trivial, CallAt.fn (pre := []) _ (fun h s => s) (fun R' hR' => hsp R' fun w s => Sat.rest (hR' w s)) ?_⟩
  rintro r hs' ⟨B, rfl, rfl⟩
  conv => whnf
  intro lb _
  conv => whnf
  have hwa : ∀ R' : HP, (∀ w, Sat R' w → Sat (rowH (.slice (some ⟨B, 0, none⟩) (ws.length + 1) (ws.length + 1)) (ws.length + 1) 9 1 (strV (z :: ws))) w) → WordsAt R' B 0 (z :: ws) := fun R' h w s j y hy => by
    have hrd := rowH_reads rfl (h w s)
    obtain ⟨ad, e1, _, e2⟩ := hrd.2 (by omega)
    injection e1 with e1
    subst e1
    have := e2 j (.string (bs y)) (by unfold strV; rw [List.getElem?_map, hy]; rfl)
    rw [add_plain] at this
    exact this
  have hwl : ws.length ≤ 999999 := by have := pcs_len 32 s; rw [hs] at this; have h3 : s.count 32 ≤ s.length := List.count_le_length; simp at this; omega
  refine ⟨trivial, CallAt.fn (pre := [tkH lb B 0 (ws.length + 1) (ws.length + 1) 0]) _ (fun h s => tk_shut (.inl rfl) s) (fun R' hR' => sWordT _ (z := z) rfl rfl (by omega) (Nat.le_refl _) (hwa R' fun w s => (hR' w s).in_ 0 rfl)) ?_⟩
  rintro r hs' ⟨rfl, rfl⟩
  conv => whnf
  refine ⟨trivial, LoadAt.agg (verbsL.map fun z => Value.string (bs z)) rfl rfl rfl (fun w hw j u hj => ?_) ?_⟩
  · have hb : Blk w _ _ _ := hV w (Sat.rest hw)
    rw [Nat.zero_add]
    exact (hb.cell j).trans (by simpa using hj)
  conv => whnf
  refine ⟨trivial, LoopAt.of (α := Nat) [2, 3, 4, 5, 14] (fun i => [(15, .v (.int .i64 (i : Int)))]) (fun i => [(2, 30, .v (.int .i64 (kd z i)) :: z13), (0, 30, .v (.int .i64 0) :: z13)]) (fun _ => [tkH lb B 0 (ws.length + 1) (ws.length + 1) 1, rowH (.slice (some ⟨B, 0, none⟩) (ws.length + 1) (ws.length + 1)) (ws.length + 1) 9 1 (strV (z :: ws))]) (fun i => i ≤ 28) (fun i => 28 - i) 0 (Nat.zero_le _)
    (Le.of (Nat.le_of_ble_eq_true rfl) (Nat.zero_le _) ⟨⟨rfl, rfl⟩, ⟨rfl, rfl⟩, ⟨rfl, rfl⟩, ⟨rfl, rfl⟩, ⟨rfl, rfl⟩, ⟨rfl, rfl⟩, trivial⟩ ⟨⟨rfl, rfl, rfl, rfl⟩, ⟨rfl, rfl, rfl, rfl⟩, trivial⟩ fun h s => sub_same s) ?_⟩
  intro i hi
  conv => whnf
  refine ⟨fun h => ?_, fun h => ?_⟩
  · have hi2 : i < 28 := by have := of_decide_eq_true h; omega
    have hT := fun a b => kd_eq (z := z) (i := i) a b
    have hF := fun a => kd_ne (z := z) (i := i) a
    have hE := fun a => kd_nil (z := z) (i := i) a
    have h28 : i = 0 ∨ i = 1 ∨ i = 2 ∨ i = 3 ∨ i = 4 ∨ i = 5 ∨ i = 6 ∨ i = 7 ∨ i = 8 ∨ i = 9 ∨ i = 10 ∨ i = 11 ∨ i = 12 ∨ i = 13 ∨ i = 14 ∨ i = 15 ∨ i = 16 ∨ i = 17 ∨ i = 18 ∨ i = 19 ∨ i = 20 ∨ i = 21 ∨ i = 22 ∨ i = 23 ∨ i = 24 ∨ i = 25 ∨ i = 26 ∨ i = 27 := by omega
    generalize kd z i = kv at *
    rcases h28 with rfl | rfl | rfl | rfl | rfl | rfl | rfl | rfl | rfl | rfl | rfl | rfl | rfl | rfl | rfl | rfl | rfl | rfl | rfl | rfl | rfl | rfl | rfl | rfl | rfl | rfl | rfl | rfl
    all_goals
      conv => whnf
      refine ⟨fun h5 => ?_, fun h5 => ?_⟩
      · conv => whnf
        refine ⟨fun h6 => ?_, fun h6 => ?_⟩
        · have hw := hT (of_decide_eq_true h5) (fun e => by subst e; exact absurd h6 (by decide))
          conv => whnf
          refine ⟨(by (repeat' apply And.intro) <;> first | exact True.intro | (unfold rng; omega) | omega), .mk _ (Nat.le_of_ble_eq_true rfl) (by decide) (Le.of (Nat.le_of_ble_eq_true rfl) (Nat.zero_le _) ⟨⟨rfl, rfl⟩, ⟨rfl, rfl⟩, ⟨rfl, rfl⟩, ⟨rfl, rfl⟩, ⟨rfl, rfl⟩, ⟨rfl, rfl⟩, trivial⟩ ⟨⟨congrArg (fun v => some (30, (SV.v (.int .i64 v) :: z13))) hw.symm, rfl, rfl, rfl⟩, ⟨rfl, rfl, rfl, rfl⟩, trivial⟩ fun h s => sub_same s)⟩
        · have h7 : bs z = (⟨#[]⟩ : ByteArray) := by simpa using h6
          have hw := hE (bs_inj.1 (show bs z = bs [] from h7))
          conv => whnf
          refine ⟨(by (repeat' apply And.intro) <;> first | exact True.intro | (unfold rng; omega) | omega), .mk _ (Nat.le_of_ble_eq_true rfl) (by decide) (Le.of (Nat.le_of_ble_eq_true rfl) (Nat.zero_le _) ⟨⟨rfl, rfl⟩, ⟨rfl, rfl⟩, ⟨rfl, rfl⟩, ⟨rfl, rfl⟩, ⟨rfl, rfl⟩, ⟨rfl, rfl⟩, trivial⟩ ⟨⟨congrArg (fun v => some (30, (SV.v (.int .i64 v) :: z13))) hw.symm, rfl, rfl, rfl⟩, ⟨rfl, rfl, rfl, rfl⟩, trivial⟩ fun h s => sub_same s)⟩
      · have hw := hF (of_decide_eq_false h5)
        conv => whnf
        refine ⟨(by (repeat' apply And.intro) <;> first | exact True.intro | (unfold rng; omega) | omega), .mk _ (Nat.le_of_ble_eq_true rfl) (by decide) (Le.of (Nat.le_of_ble_eq_true rfl) (Nat.zero_le _) ⟨⟨rfl, rfl⟩, ⟨rfl, rfl⟩, ⟨rfl, rfl⟩, ⟨rfl, rfl⟩, ⟨rfl, rfl⟩, ⟨rfl, rfl⟩, trivial⟩ ⟨⟨congrArg (fun v => some (30, (SV.v (.int .i64 v) :: z13))) hw.symm, rfl, rfl, rfl⟩, ⟨rfl, rfl, rfl, rfl⟩, trivial⟩ fun h s => sub_same s)⟩
  have hi3 : i = 28 := by have := of_decide_eq_false h; omega
  subst hi3
  intro ob _
  conv => whnf
  exact ⟨trivial, CallAt.panT (pre := [tkH lb B 0 (ws.length + 1) (ws.length + 1) 1, blkH ob 30 _]) _ (fun h s => sepL_perm (List.Perm.swap _ _ _) s) (fun R' hR' => hp R' lb B ob (fun w s => Sat.rest (hR' w s)) (hwa R' fun w s => (hR' w s).in_ 0 rfl)) (fun ch h => h) (fun w s => s.rest) trivial⟩
end Go.Proofs.YtihkhomnhggifaaGreatDoor

