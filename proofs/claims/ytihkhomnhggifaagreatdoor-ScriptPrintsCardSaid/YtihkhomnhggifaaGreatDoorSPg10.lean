/-
  Texts of the proofs, one behind the other: ScH, SyTree, SyPick, ScI, ScKb, RuneShelf, ScPe, ScKc.
-/
import Derived.Test.YtihkhomnhggifaaGreatDoorSPg08
import Derived.Test.YtihkhomnhggifaaGreatDoorSPg02
import Derived.Test.YtihkhomnhggifaaGreatDoorSPg09
import Derived.Shelf.Strings.Runes
import Derived.Ground.SlgnProg
import Derived.Test.YtihkhomnhggifaaGreatDoorProg
/-
  script: bytes as hexadecimal; cells as words.
-/
namespace Go.Proofs.YtihkhomnhggifaaGreatDoor
open Go.RowKit
open Sy
set_option linter.unusedVariables false
set_option linter.unusedSimpArgs false
set_option maxRecDepth 100000
set_option maxHeartbeats 4000000

abbrev HXs : ByteArray := ⟨#[48, 49, 50, 51, 52, 53, 54, 55, 56, 57, 97, 98, 99, 100, 101, 102]⟩
theorem dig16 : ∀ q : Fin 16, byteAt HXs q.val = ((hexd q.val).toNat : Int) := by decide
theorem and15 : ∀ q : Fin 256, bits .and .u8 ((q.val : Nat) : Int) 15 = ((q.val % 16 : Nat) : Int) := by decide +kernel
theorem hexHi (z : UInt8) : byteAt HXs ((z.toNat : Int) / 2 ^ Int.toNat 4).toNat = ((hexd (z.toNat / 16)).toNat : Int) := by
  have hz := z.toNat_lt
  have e : ((z.toNat : Int) / 2 ^ Int.toNat 4).toNat = z.toNat / 16 := by show ((z.toNat : Int) / 16).toNat = _; omega
  rw [e]
  exact dig16 ⟨z.toNat / 16, by omega⟩
theorem hexLo (z : UInt8) : byteAt HXs (bits .and .u8 (z.toNat : Int) 15).toNat = ((hexd (z.toNat % 16)).toNat : Int) := by
  have hz := z.toNat_lt
  have h1 := and15 ⟨z.toNat, hz⟩
  simp only at h1
  rw [h1, Int.toNat_natCast]
  exact dig16 ⟨z.toNat % 16, by omega⟩
theorem sWriteByte {R : HP} {b : Nat} {l : List UInt8} (x : UInt8) (hl : l.length ≤ 1000000) :
    FnR Tryz.prog R 63 [.pointer (some ⟨b, 0, none⟩), .int .u8 (x.toNat : Int)] [bldH b l] fun r hs => r = .nilIface ∧ hs = [bldH b (l ++ [x])] := by
  refine FnR.unbox fun ⟨u, A, c⟩ => ?_
  rw [List.append_nil]
  have hcc : ∀ R', FnR Tryz.prog R' 56 [.pointer (some ⟨b, 0, none⟩)] [bldHd b u (.slice A l.length c)] fun r hs => r = .tuple #[] ∧ hs = [bldHd b true (.slice A l.length c)] := fun R' => by
    cases u
    · exact sCopyCheckF
    · exact sCopyCheckU
  have hxl := x.toNat_lt
  refine fn_of_run0 false Tryz.func63 rfl hmix rfl fun w0 => ?_
  conv => whnf
  refine ⟨trivial, CallAt.fn (pre := [bldHd b u (.slice A l.length c)]) _ (fun h s => s) (fun R' hR' => hcc R') ?_⟩
  rintro r hs ⟨rfl, rfl⟩
  conv => whnf
  refine ⟨trivial, LoadAt.cell (.slice A l.length c) rfl rfl (fun w hw => (blk_sat (show Sat (bldHd b true (.slice A l.length c)) w from hw.in_ 0 rfl)).cell 1) ?_⟩
  conv => whnf
  refine ⟨trivial, OpAt.lit [.int .u8 (x.toNat : Int)] 1 rfl rfl rfl rfl rfl (by decide) rfl rfl rfl (by simp [Value.cells]) rfl (by decide) fun g => ?_⟩
  conv => whnf
  refine ⟨trivial, OpAt.append (.slice A l.length c) l.length 1 1 (byV l) [.int .u8 (x.toNat : Int)] (some ⟨g, 0, none⟩) 1 1 _ rfl (fun h s => sepL_pull 2 s) rfl rfl rfl rfl rfl rfl rfl rfl rfl (by decide) (fun w hw => rowH_reads rfl (hw.in_ 0 rfl)) (by simp [Value.oneCell']) (by simp only [maxLen]; omega) (by omega) fun A' c' => ?_⟩
  conv => whnf
  refine ⟨trivial, OpAt.store b 1 (.slice A' (l.length + 1) c') _ rfl (fun h s => sepL_pull 2 s) rfl rfl rfl rfl rfl (by simp [Value.cells, Value.oneCell']) (fun h r => blk_put (by show 1 + 1 ≤ 2; omega) r) ?_⟩
  conv => whnf
  refine ⟨trivial, .mk [bldH b (l ++ [x])] (fun w ⟨h, hs, s'⟩ => ?_) ⟨rfl, rfl⟩⟩
  obtain ⟨h', e, s2⟩ := sub_front (m := [bldHd b true (.slice A' (l.length + 1) c'), rowH (.slice A' (l.length + 1) c') (l.length + 1) 5 1 (byV l ++ [.int .u8 (x.toNat : Int)])]) s'
  refine ⟨h', hs.mono e, boxH_shut (parts := bldP b (l ++ [x])) (true, A', c') ?_⟩
  rw [List.append_nil]
  unfold bldP
  rw [List.length_append]
  have e : byV (l ++ [x]) = byV l ++ [.int .u8 (x.toNat : Int)] := List.map_append
  rw [e]
  exact s2
theorem sHex {R : HP} {A : Option Addr} {n c : Nat} (l : List UInt8) (hl : l.length = n) (hn : n ≤ 400000) (ha : Sl R A n 1 (byV l)) : PureR Tryz.prog R 52 [.slice A n c] (.string (bs (hexW l))) := by
  refine PureR.of_sat fun wS hS => ?_
  obtain ⟨_, sa⟩ := ha.spot (by omega) hS
  refine fn_of_run0 false Tryz.func52 rfl hmix rfl fun w0 => ?_
  conv => whnf
  refine ⟨fun h => ?_, fun h => ?_⟩
  · have h0 : n = 0 := by have := of_decide_eq_true h; omega
    subst h0
    obtain rfl : l = [] := List.length_eq_zero_iff.1 hl
    conv => whnf
    exact ⟨trivial, fin_pure rfl rfl⟩
  have hne : l ≠ [] := by
    rintro rfl
    have := of_decide_eq_false h
    simp at hl
    omega
  conv => whnf
  refine ⟨trivial, LoopAt.begins (α := Nat × Nat) [9, 10] (fun a => [(3, .v (.pointer (some ⟨a.2, 0, none⟩))), (11, .v (.int .i64 (a.1 : Int)))]) (fun a => []) (fun a => [bldH a.2 (hexT (l.take a.1))]) (fun a => a.1 ≤ n) (fun a => n - a.1) (Begin.expose 0 ?_) ?_⟩
  · conv => whnf
    intro tb _
    refine Begin.le ?_ ⟨(0, tb), Nat.zero_le _, rfl⟩
    exact Le.of (Nat.le_of_ble_eq_true rfl) (Nat.zero_le _) ⟨⟨rfl, rfl⟩, ⟨rfl, rfl⟩, ⟨rfl, rfl⟩, ⟨rfl, rfl⟩, trivial⟩ trivial fun h s => sub_same (bld_new s)
  rintro ⟨i, tb⟩ hi
  simp only at hi
  conv => whnf
  refine ⟨fun h3 => ?_, fun h3 => ?_⟩
  · have g3 : i < n := by simpa using h3
    rcases sa with sa | ⟨ab, off, rfl, sa⟩
    · omega
    have hil : i < l.length := by omega
    have f1 : (byV l)[i]? = some (.int .u8 (l[i].toNat : Int)) := by simp [hil]
    have hnx : hexT (l.take (i + 1)) = hexT (l.take i) ++ [hexd (l[i].toNat / 16)] ++ [hexd (l[i].toNat % 16)] := by rw [List.take_succ_eq_append_getElem hil, hexT_append]; simp [hexT]
    have hli : (hexT (l.take i)).length ≤ 800000 := by rw [hexT_len]; simp; omega
    have hz := l[i].toNat_lt
    generalize l[i] = z at *
    generalize hexT (l.take i) = q at *
    conv => whnf
    refine ⟨⟨trivial, by simp only; omega⟩, LoadAt.cell (.int .u8 (z.toNat : Int)) rfl rfl (fun w hw => ?_) ?_⟩
    · simp only [Int.toNat_natCast, Nat.mul_one]
      exact sa w (Sat.rest hw) _ _ f1
    conv => whnf
    rw [hexHi z]
    refine ⟨⟨⟨trivial, by decide⟩, ?_⟩, CallAt.fn (pre := [bldH tb q]) _ (fun h s => s) (fun R' hR' => sWriteByte (hexd (z.toNat / 16)) (by omega)) ?_⟩
    · show 0 ≤ (z.toNat : Int) / 16 ∧ (z.toNat : Int) / 16 < 16
      omega
    rintro r hs ⟨rfl, rfl⟩
    conv => whnf
    rw [hexLo z]
    refine ⟨⟨trivial, ?_⟩, CallAt.fn (pre := [bldH tb (q ++ [hexd (z.toNat / 16)])]) _ (fun h s => s) (fun R' hR' => sWriteByte (hexd (z.toNat % 16)) (by simp; omega)) ?_⟩
    · have h1 := and15 ⟨z.toNat, hz⟩
      simp only at h1
      rw [h1]
      show 0 ≤ ((z.toNat % 16 : Nat) : Int) ∧ ((z.toNat % 16 : Nat) : Int) < 16
      omega
    rintro r hs ⟨rfl, rfl⟩
    conv => whnf
    refine ⟨⟨trivial, by unfold rng; simp only; omega⟩, .mk (i + 1, tb) (by simp only; omega) (by simp only; omega) (Le.of (Nat.le_of_ble_eq_true rfl) (Nat.zero_le _) ⟨⟨rfl, rfl⟩, ⟨rfl, rfl⟩, ⟨rfl, rfl⟩, ⟨rfl, rfl⟩, trivial⟩ trivial fun h s => ?_)⟩
    refine sub_same ?_
    show sepL [bldH tb (hexT (l.take (i + 1)))] R h
    rw [hnx]
    exact s
  · have g3 : i = n := by simp at h3; omega
    subst g3
    have e : l.take i = l := List.take_of_length_le (by omega)
    have e2 : hexW l = hexT l := by unfold hexW; rw [if_neg hne]
    conv => whnf
    refine ⟨trivial, CallAt.fn (pre := [bldH tb (hexT (l.take i))]) _ (fun h s => s) (fun R' hR' => sBString (by rw [e]; intro c; have := congrArg List.length c; rw [hexT_len] at this; have := List.length_pos_iff.2 hne; simp at *; omega) (by rw [e, hexT_len]; omega)) ?_⟩
    rintro r hs ⟨rfl, rfl⟩
    rw [e, e2]
    conv => whnf
    exact ⟨trivial, fin_drop rfl⟩
end Go.Proofs.YtihkhomnhggifaaGreatDoor

/-
  Symbolic runs: regions that draw their order, by groups in which two operations may come up at once.
-/
namespace Go.Proofs.YtihkhomnhggifaaGreatDoor
open Go.RowKit
namespace Sy
set_option linter.unusedVariables false
set_option linter.unusedSimpArgs false

inductive Tr | E | T (k : Nat) (r : Tr) | H (k : Nat) (r : Tr) | C (k : Nat) (r : Tr) (j : Nat) (s : Tr) | D (k : Nat) (r : Tr) (j : Nat) (s : Tr) (i : Nat) (t : Tr)
def Tr.len : Tr → Nat
  | .E => 0
  | .T _ r => r.len + 1
  | .H _ r => r.len + 1
  | .C _ r _ _ => r.len + 1
  | .D _ r _ _ _ _ => r.len + 1
def treeB (ops : Array Oper) (n : Nat) (F : Array Bool → Bool) : Tr → Array Bool → Bool
  | .E, ls => F ls && (Region.ready .any ops ls).all fun j => decide (n ≤ j)
  | .T k r, ls => decide (k < n) && ((Region.ready .any ops ls).contains k && (Region.free .any ops ls k && treeB ops n F r (ls.setIfInBounds k true)))
  | .H k r, ls => decide (k < n) && (decide (Region.ready .any ops ls = [k]) && treeB ops n F r (ls.setIfInBounds k true))
  | .C k r j s, ls => decide (k < n) && (decide (j < n) && (decide (Region.ready .any ops ls = [k, j]) && (decide (r.len = s.len) && (treeB ops n F r (ls.setIfInBounds k true) && treeB ops n F s (ls.setIfInBounds j true)))))
  | .D k r j s i t, ls => decide (k < n) && (decide (j < n) && (decide (i < n) && (decide (Region.ready .any ops ls = [k, j, i]) && ((decide (r.len = s.len) && decide (r.len = t.len)) && (treeB ops n F r (ls.setIfInBounds k true) && (treeB ops n F s (ls.setIfInBounds j true) && treeB ops n F t (ls.setIfInBounds i true)))))))
def treesB (ops : Array Oper) : List (Tr × Nat) → Array Bool → Bool
  | [], ls => decide (Region.ready .any ops ls = [])
  | (g, n) :: r, ls => (decide (ops.size ≤ n) || (decide (n < ops.size) && (Region.sinkB .any ops n && chainW ops n))) && (headW ops n ls && treeB ops n (fun ls' => treesB ops r ls') g ls)
def treeLen : List (Tr × Nat) → Nat
  | [] => 0
  | (g, _) :: r => g.len + treeLen r
def treesOk (l : List Oper) (gs : List (Tr × Nat)) : Bool := Region.noSelect l.toArray && (decide (treeLen gs = l.length) && treesB l.toArray gs (Array.replicate l.toArray.size false))

/-- an operation that only computes or reads, at the memory of the group's start -/
def opT2 (G : Gl) (st0 : St) (o : Oper) (st : St) (K : St → Prop) : Prop :=
  match o.op with
  | .load t x => ev st x False fun vx => match vx with
    | .v (.pointer (some ad)) => stp st fun st => LoadAt G t ad st0 fun r => putK G st o.dst r none K
    | _ => q1 G.P G.tr st o False fun r q => putK G st o.dst r q K
  | _ => q1 G.P G.tr st o False fun r q => putK G st o.dst r q K
def TakeT2 (G : Gl) (st0 : St) (o : Oper) (st : St) (K : St → Prop) : Prop :=
  st.c ∧ ∀ ρ m a w0, Tm G st (ρ ++ m) a → Mem G st0 ρ w0 → ∃ v st', K st' ∧ SameM st st' ∧ (∀ w, Mem G st0 ρ w → (execOp a.eval o).run G.P w = .ok (.value v) w) ∧ Tm G st' (ρ ++ m) (a.put o.dst v)
theorem ob_ext {G : Gl} {st0 st : St} {ρ : List Nat} {w : World} (mm : Mem G st0 ρ w) (ho : st.o = st0.o) (m : List Nat) : Ob st (ρ ++ m) w := by
  intro x hx
  rw [ho] at hx
  obtain ⟨b, cs, e1, e2, e3⟩ := mm.ob x hx
  refine ⟨b, cs, ?_, denL_ext m e2, e3⟩
  rw [List.getElem?_append_left (List.getElem?_eq_some_iff.1 e1).1]
  exact e1
theorem take_q2 {G : Gl} {st0 : St} {o : Oper} {st : St} {K : St → Prop} (ho : st.o = st0.o) (hK : Good K) (h : q1 G.P G.tr st o False fun r q => putK G st o.dst r q K) : TakeT2 G st0 o st K := by
  rcases q1_sound h with h | ⟨x, q, h, hy⟩
  · exact h.elim
  · obtain ⟨⟨hc, hq⟩, hp⟩ := putK_same h hK
    refine ⟨hc, fun ρ m a w0 tm mm0 => ?_⟩
    have hy := hy hq
    obtain ⟨v, e1, e2⟩ := hy G (ρ ++ m) a w0 tm (ob_ext mm0 ho m)
    obtain ⟨st', k, hs, m'⟩ := hp (ρ ++ m) a v e1 tm
    refine ⟨v, st', k, hs, fun w' mm' => ?_, m'⟩
    obtain ⟨v', e3, e4⟩ := hy G (ρ ++ m) a w' tm (ob_ext mm' ho m)
    rw [e1] at e3
    injection e3 with e3
    subst e3
    exact e4
theorem opT2_sound {G : Gl} {st0 : St} {o : Oper} {st : St} {K : St → Prop} (ho : st.o = st0.o) (h : opT2 G st0 o st K) (hK : Good K) : TakeT2 G st0 o st K := by
  unfold opT2 at h
  split at h
  case h_1 t x hop =>
    rcases ev_sound h with h | ⟨sx, h, ex⟩
    · exact h.elim
    split at h
    · rename_i ad
      obtain ⟨hc, ⟨r, hr, h⟩⟩ := stp_iff.1 h
      refine ⟨hc, fun ρ m a w0 tm mm0 => ?_⟩
      obtain ⟨_, hp⟩ := putK_same h hK
      obtain ⟨st', k, hs, m'⟩ := hp (ρ ++ m) a r rfl (tm.same rfl)
      refine ⟨r, st', k, hs, fun w mm => ?_, m'⟩
      have h1 := ex G (ρ ++ m) a tm
      simp only [SV.den, Option.some.injEq] at h1
      simp [execOp, hop, ← h1, hr ρ w mm]
    · exact take_q2 ho hK h
  case h_2 => exact take_q2 ho hK h
theorem optT2_good {G : Gl} {st0 : St} {all : List Oper} {o : Oper} {F : St → Prop} (hF : Good F) : ∀ st, st.o = st0.o → opsG (opT2 G st0) G all [o] st F → st.c := by
  intro st hst h
  unfold opsG at h
  have e : ∀ st, opsG (opT2 G st0) G all [] st F = F st := fun st => rfl
  simp only [e] at h
  split at h
  · exact (opT2_sound hst h hF).1
  · rename_i j want hg
    split at h
    · split at h
      · split at h
        · split at h
          · exact (opT2_sound hst h hF).1
          · exact (putK_same h hF).1.1
        · rename_i b hx
          by_cases hb : b = want
          · exact (opT2_sound (st := Sy.seen st _ _) hst (h.1 hb) hF).1
          · exact (putK_same (h.2 (by cases b <;> cases want <;> simp_all)) hF).1.1
        · exact (putK_same h hF).1.1
        · exact h.elim
      · exact h.elim
    · exact h.elim
theorem takeG2 {G : Gl} {st0 : St} {all : List Oper} {o : Oper} {st : St} {F : St → Prop} (hst : st.o = st0.o) (h : opsG (opT2 G st0) G all [o] st F) (hF : Good F) {ρ m0 : List Nat} {a : Act} {w0 : World} (m : Tm G st (ρ ++ m0) a) (mm : Mem G st0 ρ w0) :
    ∃ v st', F st' ∧ SameM st st' ∧ Tm G st' (ρ ++ m0) (a.put o.dst v) ∧ YieldsIf G.P all.toArray (Mem G st0 ρ) o v a := by
  unfold opsG at h
  have e : ∀ st, opsG (opT2 G st0) G all [] st F = F st := fun st => rfl
  simp only [e] at h
  have yes : ∀ st1 : St, SameM st st1 → Tm G st1 (ρ ++ m0) a → opT2 G st0 o st1 F → Region.wanted o (yielded all.toArray a.tmps) = true → ∃ v st', F st' ∧ SameM st st' ∧ Tm G st' (ρ ++ m0) (a.put o.dst v) ∧ YieldsIf G.P all.toArray (Mem G st0 ρ) o v a := by
    intro st1 s1 m1 h hwt
    obtain ⟨_, hq⟩ := opT2_sound (s1.1.trans hst) h hF
    obtain ⟨v, st', k', s2, hr', m'⟩ := hq ρ m0 a w0 m1 mm
    exact ⟨v, st', k', ⟨s2.1.trans s1.1, s2.2.1.trans s1.2.1, s2.2.2.trans s1.2.2⟩, m', .inl ⟨hwt, fun w hw => hr' w hw⟩⟩
  have no : ∀ st1 : St, SameM st st1 → Tm G st1 (ρ ++ m0) a → putK G st1 o.dst (.v undef) none F → Region.wanted o (yielded all.toArray a.tmps) = false → ∃ v st', F st' ∧ SameM st st' ∧ Tm G st' (ρ ++ m0) (a.put o.dst v) ∧ YieldsIf G.P all.toArray (Mem G st0 ρ) o v a := by
    intro st1 s1 m1 h hwt
    obtain ⟨_, hp⟩ := putK_same h hF
    obtain ⟨st', k', s2, m'⟩ := hp (ρ ++ m0) a undef rfl m1
    exact ⟨undef, st', k', ⟨s2.1.trans s1.1, s2.2.1.trans s1.2.1, s2.2.2.trans s1.2.2⟩, m', .inr ⟨hwt, rfl⟩⟩
  split at h
  · rename_i hg
    exact yes st ⟨rfl, rfl, rfl⟩ m h (wanted_none hg _)
  · rename_i j want hg
    split at h
    · rename_i oj hj
      split at h
      · rename_i t ht
        split at h
        · rename_i b hx
          split at h
          · rename_i hb
            exact yes st ⟨rfl, rfl, rfl⟩ m h (by rw [wanted_eq hg hj ht hx rfl m, hb])
          · rename_i hb
            exact no st ⟨rfl, rfl, rfl⟩ m h (by rw [wanted_eq hg hj ht hx rfl m, hb])
        · rename_i b hx
          by_cases hb : b = want
          · subst hb
            exact yes (seen st t b) ⟨rfl, rfl, rfl⟩ (seen_tm m hx) (h.1 rfl) (by rw [wanted_eq hg hj ht hx rfl m]; simp)
          · have hb' : b = !want := by cases b <;> cases want <;> simp_all
            subst hb'
            exact no (seen st t (!want)) ⟨rfl, rfl, rfl⟩ (seen_tm m hx) (h.2 rfl) (by rw [wanted_eq hg hj ht hx rfl m]; simp)
        · rename_i hx
          exact no st ⟨rfl, rfl, rfl⟩ m h (wanted_undef hg hj ht hx m)
        · exact h.elim
      · exact h.elim
    · exact h.elim

/-- what a group leaves as it was: new objects may be there -/
def Kept2 (G : Gl) (st0 st : St) : Prop := (st.o.drop (st.o.length - st0.o.length) = st0.o ∧ Nat.ble st0.n st.n = true) ∧ ∀ h, sepL st.h G.R h → ∃ h', (∀ i o, h' i = some o → h i = some o) ∧ sepL st0.h G.R h'
def heavyG (G : Gl) (all : List Oper) (kp : Bool) (st0 : St) (k : Nat) (st : St) (K : St → Prop) : Prop := match all[k]? with
  | some o => match o.guard with
    | none => op1 G o st fun st => match kp with
      | true => stp st fun st => Kept2 G st0 st ∧ K st
      | false => stp st K
    | some _ => False
  | none => False
def Tr.hasT : Tr → Bool
  | .E => false
  | .T _ _ => true
  | .H _ r => r.hasT
  | .C _ r _ s => r.hasT || s.hasT
  | .D _ r _ s _ t => r.hasT || s.hasT || t.hasT
/-- with the objects of the group's start, and back -/
def atS (st0 st : St) : St := ⟨st.t, st0.o, st0.n, st.h, st.c⟩
def atK (st0 st : St) (K : St → Prop) : Prop := match st0, st with
  | ⟨_, o, n, _, _⟩, ⟨t, _, _, h, c⟩ => K ⟨t, o, n, h, c⟩
def reK (st st' : St) (K : St → Prop) : Prop := match st, st' with
  | ⟨_, o, n, h, _⟩, ⟨t, _, _, _, c⟩ => K ⟨t, o, n, h, c⟩
def asK (st : St) (K : St → Prop) : Prop := match st with
  | ⟨t, o, n, h, c⟩ => K ⟨t, o, n, h, c⟩
theorem atK_eq (st0 st : St) (K : St → Prop) : atK st0 st K = K (atS st0 st) := by cases st0; cases st; rfl
theorem reK_eq (st st' : St) (K : St → Prop) : reK st st' K = K ⟨st'.t, st.o, st.n, st.h, st'.c⟩ := by cases st; cases st'; rfl
theorem asK_eq (st : St) (K : St → Prop) : asK st K = K st := by cases st; rfl
def treeG (G : Gl) (all : List Oper) (kp : Bool) (st0 : St) : Tr → St → (St → Prop) → Prop
  | .E, st, K => K st
  | .T k r, st, K => match kp with
    | true => match all[k]? with
      | some o => atK st0 st fun s1 => opsG (opT2 G st0) G all [o] s1 fun st' => reK st st' fun st'' => treeG G all kp st0 r st'' K
      | none => False
    | false => False
  | .H k r, st, K => heavyG G all kp st0 k st fun st => treeG G all kp st0 r st K
  | .C k r j s, st, K => (heavyG G all kp st0 k st fun st => treeG G all kp st0 r st K) ∧ (heavyG G all kp st0 j st fun st => treeG G all kp st0 s st K)
  | .D k r j s i t, st, K => (heavyG G all kp st0 k st fun st => treeG G all kp st0 r st K) ∧ (heavyG G all kp st0 j st fun st => treeG G all kp st0 s st K) ∧ (heavyG G all kp st0 i st fun st => treeG G all kp st0 t st K)
def treesG (G : Gl) (all : List Oper) : List (Tr × Nat) → St → (St → Prop) → Prop
  | [], st, K => stp st K
  | (g, _) :: r, st, K => asK st fun st => treeG G all g.hasT st g st fun st => treesG G all r st K
theorem heavy_op {G : Gl} {kp : Bool} {st0 : St} {o : Oper} {st : St} {K : St → Prop} (h : op1 G o st fun st => match kp with | true => stp st fun st => Kept2 G st0 st ∧ K st | false => stp st K) : op1 G o st fun st => stp st fun st => (kp = true → Kept2 G st0 st) ∧ K st := by
  cases kp with
  | true =>
    have e : (fun st => stp st fun st => Kept2 G st0 st ∧ K st) = fun st => stp st fun st => (true = true → Kept2 G st0 st) ∧ K st := by simp
    rw [← e]
    exact h
  | false =>
    have e : (fun st => stp st K) = fun st => stp st fun st => (false = true → Kept2 G st0 st) ∧ K st := by simp
    rw [← e]
    exact h
theorem heavy_good {G : Gl} {all : List Oper} {kp : Bool} {st0 : St} {k : Nat} {K : St → Prop} : Good fun st => heavyG G all kp st0 k st K := fun st h => by
  unfold heavyG at h
  split at h
  · split at h
    · exact (op1_sound (heavy_op h) good_stp).1
    · exact h.elim
  · exact h.elim
theorem treeG_good {G : Gl} {all : List Oper} {kp : Bool} {st0 : St} {K : St → Prop} (hK : Good K) : ∀ g : Tr, Good fun st => treeG G all kp st0 g st K
  | .E => hK
  | .T k r => fun st h => by
    unfold treeG at h
    split at h
    · split at h
      · rw [atK_eq] at h
        simp only [reK_eq] at h
        have := optT2_good (st0 := st0) (F := fun st' => treeG G all true st0 r ⟨st'.t, st.o, st.n, st.h, st'.c⟩ K) (fun st' h' => treeG_good hK r ⟨st'.t, st.o, st.n, st.h, st'.c⟩ h') (atS st0 st) rfl h
        exact this
      · exact h.elim
    · exact h.elim
  | .H k r => fun st h => heavy_good _ h
  | .C k r j s => fun st h => heavy_good _ h.1
  | .D k r j s i t => fun st h => heavy_good _ h.1
theorem treesG_good {G : Gl} {all : List Oper} {K : St → Prop} : ∀ gs : List (Tr × Nat), Good fun st => treesG G all gs st K
  | [] => good_stp
  | (g, n) :: r => fun st h => by
    have h : asK st fun st => treeG G all g.hasT st g st fun st => treesG G all r st K := h
    rw [asK_eq] at h
    exact treeG_good (treesG_good r) g _ h

/-- the memory at the group's start still stands -/
structure Since (G : Gl) (st0 st : St) (ρ0 ρ : List Nat) (w : World) : Prop where
  ext : ∃ m, ρ = ρ0 ++ m
  mem : Mem G st0 ρ0 w
theorem kept_since {G : Gl} {st0 st : St} {ρ0 ρ : List Nat} {w0 w : World} (mm0 : Mem G st0 ρ0 w0) (hx : ∃ m, ρ = ρ0 ++ m) (mm : Mem G st ρ w) (hk : Kept2 G st0 st) : Mem G st0 ρ0 w := by
  obtain ⟨m1, m2, m3, m4, m5, m6, mk, hh, m7, m8, m9⟩ := mm
  obtain ⟨⟨e1, e2⟩, e3⟩ := hk
  obtain ⟨q, rfl⟩ := hx
  have hsub : ∀ x ∈ st0.o, x ∈ st.o := fun x hx => by rw [← e1] at hx; exact List.mem_of_mem_drop hx
  have at_ : ∀ x ∈ st0.o, (ρ0 ++ q)[x.1]? = ρ0[x.1]? := fun x hx => by
    obtain ⟨b, cs, g1, _⟩ := mm0.ob x hx
    rw [List.getElem?_append_left (List.getElem?_eq_some_iff.1 g1).1]
  obtain ⟨h', s1, s2⟩ := e3 hh m8
  refine ⟨m1, mm0.len, (List.nodup_append.1 m3).1, fun b hb => m4 b (List.mem_append_left _ hb), mm0.no, fun x hx => ?_, mm0.kn, h', m7.mono s1, s2, fun x hx b hb => ?_⟩
  · obtain ⟨b, cs, g1, g2, g3⟩ := m6 x (hsub x hx)
    obtain ⟨b', cs', f1, f2, _⟩ := mm0.ob x hx
    rw [at_ x hx] at g1
    have := denL_ext q f2
    rw [g2] at this
    injection this with this
    subst this
    exact ⟨b, cs, g1, f2, g3⟩
  · have := m9 x (hsub x hx) b (by rw [at_ x hx]; exact hb)
    cases e' : h' b with
    | none => rfl
    | some ob => rw [s1 b ob e'] at this; cases this
theorem heavy_step {G : Gl} {all : List Oper} {Q : Exit → Act → World → Prop} {F : Array Bool → Bool} {K : St → Prop} {n : Nat} {kp : Bool} {st0 : St} {ρ0 : List Nat} {ls : Array Bool} {st : St} {ρ : List Nat} {a : Act} {w : World} (hx : ∀ e a w, PXE G e a w → Q e a w) (inv : HeadInv .any all.toArray n ls) (m : Tm G st ρ a) (mm : Mem G st ρ w) (hk : kp = true → Since G st0 st ρ0 ρ w)
    (i : Nat) (t : Tr) (hi : i ∈ Region.ready .any all.toArray ls) (hin : i < n) (hB : treeB all.toArray n F t (ls.setIfInBounds i true) = true) (h : heavyG G all kp st0 i st fun st => treeG G all kp st0 t st K)
    (ih : ∀ ls st ρ a w, HeadInv .any all.toArray n ls → treeB all.toArray n F t ls = true → treeG G all kp st0 t st K → Tm G st ρ a → Mem G st ρ w → (kp = true → Since G st0 st ρ0 ρ w) → HdG G.P all.toArray Q (fun w => kp = true → Mem G st0 ρ0 w) n (fun ls a w => (F ls = true ∧ (Region.ready .any all.toArray ls).all (fun j => decide (n ≤ j)) = true) ∧ ∃ st ρ, K st ∧ Tm G st ρ a ∧ Mem G st ρ w) t.len ls a w) :
    wpOp G.P all.toArray Q i (fun a' w' => (kp = true → Mem G st0 ρ0 w') ∧ HdG G.P all.toArray Q (fun w => kp = true → Mem G st0 ρ0 w) n (fun ls a w => (F ls = true ∧ (Region.ready .any all.toArray ls).all (fun j => decide (n ≤ j)) = true) ∧ ∃ st ρ, K st ∧ Tm G st ρ a ∧ Mem G st ρ w) t.len (ls.setIfInBounds i true) a' w') a w := by
  unfold heavyG at h
  split at h
  · rename_i o ho'
    have ho2 : all.toArray[i]? = some o := by simpa using ho'
    split at h
    · rename_i hg
      unfold wpOp
      simp only [ho2]
      rw [if_pos (wanted_none hg _)]
      left
      refine Oper.wp_mono (fun a' w' ⟨st', ρ', k', m', mm', ex'⟩ => ?_) ((op1_soundX (heavy_op h) good_stp).2 ρ a w Q hx m mm)
      obtain ⟨_, hkeep, k'⟩ := stp_iff.1 k'
      have mm2 : kp = true → Since G st0 { st' with c := True } ρ0 ρ' w' := fun hkp => by
        have hk := hk hkp
        obtain ⟨q, rfl⟩ := hk.ext
        obtain ⟨q', rfl⟩ := ex'
        have hx : ∃ m, ρ0 ++ q ++ q' = ρ0 ++ m := ⟨q ++ q', by rw [List.append_assoc]⟩
        exact ⟨hx, kept_since hk.mem hx (mm'.same (st' := { st' with c := True }) rfl rfl rfl) (hkeep hkp)⟩
      exact ⟨fun e => (mm2 e).mem, ih _ _ _ a' w' (inv.set hi hin) hB k' (m'.same rfl) (mm'.same rfl rfl rfl) mm2⟩
    · exact h.elim
  · exact h.elim
theorem tree_sound {G : Gl} {all : List Oper} {Q : Exit → Act → World → Prop} {F : Array Bool → Bool} {K : St → Prop} {n : Nat} {kp : Bool} {st0 : St} {ρ0 : List Nat} (hx : ∀ e a w, PXE G e a w → Q e a w) (hsel : Region.noSelect all.toArray = true) (hQ : ∀ o ∈ all, ∀ v c a w, Q (.panic c) (Act.put a o.dst v) w → Q (.panic c) a w) (hn : wallB all.toArray n) (hK : Good K) :
    ∀ (g : Tr) (ls : Array Bool) (st : St) (ρ : List Nat) (a : Act) (w : World), HeadInv .any all.toArray n ls → treeB all.toArray n F g ls = true → treeG G all kp st0 g st K → Tm G st ρ a → Mem G st ρ w → (kp = true → Since G st0 st ρ0 ρ w) →
      HdG G.P all.toArray Q (fun w => kp = true → Mem G st0 ρ0 w) n (fun ls a w => (F ls = true ∧ (Region.ready .any all.toArray ls).all (fun j => decide (n ≤ j)) = true) ∧ ∃ st ρ, K st ∧ Tm G st ρ a ∧ Mem G st ρ w) g.len ls a w
  | .E, ls, st, ρ, a, w, inv, hB, h, m, mm, hk => by
    simp only [treeB, Bool.and_eq_true] at hB
    exact ⟨hB, st, ρ, h, m, mm⟩
  | .T k r, ls, st, ρ, a, w, inv, hB, h, m, mm, hk => by
    simp only [treeB, Bool.and_eq_true, decide_eq_true_eq] at hB
    obtain ⟨hkn, hr, hf, hB⟩ := hB
    unfold treeG at h
    split at h
    rotate_left
    · exact h.elim
    have hk := hk rfl
    split at h
    · rename_i o ho'
      have ho2 : all.toArray[k]? = some o := by simpa using ho'
      have hr' : k ∈ Region.ready .any all.toArray ls := by simpa using hr
      rw [atK_eq] at h
      simp only [reK_eq] at h
      obtain ⟨q, rfl⟩ := hk.ext
      have m1 : Tm G (atS st0 st) (ρ0 ++ q) a := m.same rfl
      obtain ⟨v, st', k', s', m', hy⟩ := takeG2 (st0 := st0) (st := atS st0 st) (F := fun st' => treeG G all true st0 r ⟨st'.t, st.o, st.n, st.h, st'.c⟩ K) rfl h (fun st' h' => treeG_good hK r ⟨st'.t, st.o, st.n, st.h, st'.c⟩ h') m1 hk.mem
      refine HdG.take ho2 hsel hn hkn (fun c a w => hQ _ (List.mem_of_getElem? ho') _ c a w) (fun ls a w hL j hj => ?_) r.len ls a w inv (Region.free_spec ho2 hf) hr' (hy.imp_left fun ⟨h1, h2⟩ => ⟨h1, fun w hw => h2 w (hw rfl)⟩) (fun _ => hk.mem) ?_
      · have := List.all_eq_true.1 hL.1.2 j hj
        simpa using this
      · exact tree_sound hx hsel hQ hn hK r _ _ (ρ0 ++ q) _ w (inv.set hr' hkn) hB k' (m'.same rfl) (mm.same rfl rfl rfl) fun _ => ⟨⟨q, rfl⟩, hk.mem⟩
    · exact h.elim
  | .H k r, ls, st, ρ, a, w, inv, hB, h, m, mm, hk => by
    simp only [treeB, Bool.and_eq_true, decide_eq_true_eq] at hB
    obtain ⟨hkn, hr, hB⟩ := hB
    have hr' : k ∈ Region.ready .any all.toArray ls := by rw [hr]; simp
    refine ⟨List.ne_nil_of_mem hr', fun i hi => ?_⟩
    rw [hr] at hi
    have hik : i = k := by simpa using hi
    subst hik
    refine ⟨hkn, ?_⟩
    have h : heavyG G all kp st0 i st fun st => treeG G all kp st0 r st K := h
    unfold heavyG at h
    split at h
    · rename_i o ho'
      have ho2 : all.toArray[i]? = some o := by simpa using ho'
      split at h
      · rename_i hg
        unfold wpOp
        simp only [ho2]
        rw [if_pos (wanted_none hg _)]
        left
        refine Oper.wp_mono (fun a' w' ⟨st', ρ', k', m', mm', ex'⟩ => ?_) ((op1_soundX (heavy_op h) good_stp).2 ρ a w Q hx m mm)
        obtain ⟨_, hkeep, k'⟩ := stp_iff.1 k'
        have mm2 : kp = true → Since G st0 { st' with c := True } ρ0 ρ' w' := fun hkp => by
          have hk := hk hkp
          obtain ⟨q, rfl⟩ := hk.ext
          obtain ⟨q', rfl⟩ := ex'
          have hx : ∃ m, ρ0 ++ q ++ q' = ρ0 ++ m := ⟨q ++ q', by rw [List.append_assoc]⟩
          exact ⟨hx, kept_since hk.mem hx (mm'.same (st' := { st' with c := True }) rfl rfl rfl) (hkeep hkp)⟩
        exact ⟨fun e => (mm2 e).mem, tree_sound hx hsel hQ hn hK r _ _ _ a' w' (inv.set hr' hkn) hB k' (m'.same rfl) (mm'.same rfl rfl rfl) mm2⟩
      · exact h.elim
    · exact h.elim
  | .C k r j s, ls, st, ρ, a, w, inv, hB, h, m, mm, hk => by
    simp only [treeB, Bool.and_eq_true, decide_eq_true_eq] at hB
    obtain ⟨hkn, hjn, hr, hlen, hB1, hB2⟩ := hB
    have hk' : k ∈ Region.ready .any all.toArray ls := by rw [hr]; simp
    have hj' : j ∈ Region.ready .any all.toArray ls := by rw [hr]; simp
    have h : (heavyG G all kp st0 k st fun st => treeG G all kp st0 r st K) ∧ (heavyG G all kp st0 j st fun st => treeG G all kp st0 s st K) := h
    have step := fun i t => heavy_step (F := F) (K := K) (Q := Q) (st0 := st0) hx inv m mm hk i t
    refine ⟨List.ne_nil_of_mem hk', fun i hi => ?_⟩
    rw [hr] at hi
    have hik : i = k ∨ i = j := by simpa using hi
    rcases hik with rfl | rfl
    · exact ⟨hkn, step i r hk' hkn hB1 h.1 (tree_sound hx hsel hQ hn hK r)⟩
    · refine ⟨hjn, ?_⟩
      have := step i s hj' hjn hB2 h.2 (tree_sound hx hsel hQ hn hK s)
      rw [← hlen] at this
      exact this
  | .D k r j s i t, ls, st, ρ, a, w, inv, hB, h, m, mm, hk => by
    simp only [treeB, Bool.and_eq_true, decide_eq_true_eq] at hB
    obtain ⟨hkn, hjn, hin, hr, ⟨hlen, hlen2⟩, hB1, hB2, hB3⟩ := hB
    have hk' : k ∈ Region.ready .any all.toArray ls := by rw [hr]; simp
    have hj' : j ∈ Region.ready .any all.toArray ls := by rw [hr]; simp
    have hi' : i ∈ Region.ready .any all.toArray ls := by rw [hr]; simp
    have h : (heavyG G all kp st0 k st fun st => treeG G all kp st0 r st K) ∧ (heavyG G all kp st0 j st fun st => treeG G all kp st0 s st K) ∧ (heavyG G all kp st0 i st fun st => treeG G all kp st0 t st K) := h
    have step := fun i t => heavy_step (F := F) (K := K) (Q := Q) (st0 := st0) hx inv m mm hk i t
    refine ⟨List.ne_nil_of_mem hk', fun q hq => ?_⟩
    rw [hr] at hq
    have hik : q = k ∨ q = j ∨ q = i := by simpa using hq
    rcases hik with rfl | rfl | rfl
    · exact ⟨hkn, step q r hk' hkn hB1 h.1 (tree_sound hx hsel hQ hn hK r)⟩
    · refine ⟨hjn, ?_⟩
      have := step q s hj' hjn hB2 h.2.1 (tree_sound hx hsel hQ hn hK s)
      rw [← hlen] at this
      exact this
    · refine ⟨hin, ?_⟩
      have := step q t hi' hin hB3 h.2.2 (tree_sound hx hsel hQ hn hK t)
      rw [← hlen2] at this
      exact this
theorem trees_sound {G : Gl} {all : List Oper} {Q : Exit → Act → World → Prop} {K : St → Prop} (hx : ∀ e a w, PXE G e a w → Q e a w) (hsel : Region.noSelect all.toArray = true) (hQ : ∀ o ∈ all, ∀ v c a w, Q (.panic c) (Act.put a o.dst v) w → Q (.panic c) a w) (hend : ∀ st ρ a w, K st → Tm G st ρ a → Mem G st ρ w → Q .normal a w) :
    ∀ (gs : List (Tr × Nat)) (ls : Array Bool) (st : St) (ρ : List Nat) (a : Act) (w : World), treesB all.toArray gs ls = true → treesG G all gs st K → Tm G st ρ a → Mem G st ρ w → wpAny G.P .any all.toArray Q (treeLen gs) ls a w
  | [], ls, st, ρ, a, w, hB, h, m, mm => by
    simp only [treesB, decide_eq_true_eq] at hB
    exact ⟨hB, hend { st with c := True } ρ a w (stp_iff.1 h).2 (m.same rfl) (mm.same rfl rfl rfl)⟩
  | (g, n) :: r, ls, st, ρ, a, w, hB, h, m, mm => by
    simp only [treesB, Bool.and_eq_true, Bool.or_eq_true, decide_eq_true_eq] at hB
    obtain ⟨hw, hh, hs⟩ := hB
    have h : asK st fun st => treeG G all g.hasT st g st fun st => treesG G all r st K := h
    rw [asK_eq] at h
    have key := tree_sound (F := fun ls' => treesB all.toArray r ls') (kp := g.hasT) (st0 := st) (ρ0 := ρ) hx hsel hQ hw (treesG_good r) g ls st ρ a w (headW_spec hh) hs h m mm fun _ => ⟨⟨[], by simp⟩, mm⟩
    exact HdG.any (g := treeLen r) (fun ls' a' w' ⟨⟨hF, _⟩, st', ρ', k, m', mm'⟩ => trees_sound hx hsel hQ hend r ls' st' ρ' a' w' hF k m' mm') _ _ _ _ key
/-- a region that draws its order, by groups in which two operations may come up at once -/
theorem RegAt.trees {G : Gl} {id : Nat} {l : List Oper} {st : St} {K : St → Prop} (gs : List (Tr × Nat)) (hm : G.P.follows .mixedOrders = true) (hB : treesOk l gs = true) (h : treesG G l gs st K) (hax : axFree G.AX l = true := by rfl) : RegAt G id l.toArray st K := by
  simp only [treesOk, Bool.and_eq_true, decide_eq_true_eq] at hB
  obtain ⟨h1, h2, h3⟩ := hB
  refine .mk fun ρ a w m mm => ?_
  refine wp_region_any hm ?_
  have key := trees_sound (Q := fun e a' w' => (e = .normal ∧ ∃ st' ρ', K st' ∧ Tm G st' ρ' a' ∧ Mem G st' ρ' w') ∨ PXE G e a' w') (fun e a w hp => .inr hp) h1 (fun o ho v c a w hq => by rcases hq with ⟨hq, _⟩ | hq; cases hq; exact .inr (hq.put (axFree_spec hax o ho))) (fun st ρ a w k m mm => .inl ⟨rfl, st, ρ, k, m, mm⟩) gs _ st ρ a _ h3 h m mm.drew
  rw [h2] at key
  simpa using key
end Sy
end Go.Proofs.YtihkhomnhggifaaGreatDoor

/-
  Symbolic runs: a round's end where other objects bear the names of the round's start.
-/
namespace Go.Proofs.YtihkhomnhggifaaGreatDoor
open Go.RowKit
namespace Sy
set_option linter.unusedVariables false
set_option linter.unusedSimpArgs false

def renV (is : List Nat) : SV → Option SV
  | .p m off => match is[m]? with
    | some j => some (.p j off)
    | none => none
  | x => some x
def renL (is : List Nat) : List SV → Option (List SV)
  | [] => some []
  | x :: l => match renV is x with
    | some y => match renL is l with
      | some r => some (y :: r)
      | none => none
    | none => none
def pickT (is : List Nat) (src : List (Nat × SV)) : List (Nat × SV) → Prop
  | [] => True
  | (t, x) :: r => (∃ y, renV is x = some y ∧ getT src t = some y) ∧ pickT is src r
def pickO (is : List Nat) (src : List (Nat × TypeId × List SV)) : List (Nat × TypeId × List SV) → Prop
  | [] => True
  | (k, x) :: r => (∃ j l, is[k]? = some j ∧ renL is x.2 = some l ∧ getO src j = some (x.1, l)) ∧ pickO is src r
def nodupB : List Nat → Bool
  | [] => true
  | x :: l => !l.contains x && nodupB l
theorem nodupB_spec : ∀ {l : List Nat}, nodupB l = true → l.Nodup
  | [], _ => by simp
  | x :: l, h => by
    simp only [nodupB, Bool.and_eq_true, Bool.not_eq_true'] at h
    rw [List.nodup_cons]
    refine ⟨fun c => ?_, nodupB_spec h.2⟩
    have : l.contains x = true := by simpa using c
    rw [this] at h
    cases h.1
theorem pickT_get {is : List Nat} {src : List (Nat × SV)} : ∀ {l : List (Nat × SV)} {t : Nat} {x : SV}, pickT is src l → getT l t = some x → ∃ y, renV is x = some y ∧ getT src t = some y
  | [], t, x, _, h => by cases h
  | (k, y) :: l, t, x, hl, h => by
    simp only [getT] at h
    split at h
    · rename_i e
      have := beq_of e
      subst this
      injection h with h
      subst h
      exact hl.1
    · exact pickT_get hl.2 h
theorem pickO_mem {is : List Nat} {src : List (Nat × TypeId × List SV)} : ∀ {l : List (Nat × TypeId × List SV)} {x : Nat × TypeId × List SV}, pickO is src l → x ∈ l → ∃ j r, is[x.1]? = some j ∧ renL is x.2.2 = some r ∧ getO src j = some (x.2.1, r)
  | [], x, _, h => by cases h
  | (k, y) :: l, x, hl, h => by
    rcases List.mem_cons.1 h with rfl | h
    · exact hl.1
    · exact pickO_mem hl.2 h
/-- the named blocks anew -/
def pickR (is ρ : List Nat) : List Nat := is.map fun j => ρ.getD j 0
theorem pickR_at {is ρ : List Nat} {k j : Nat} (h : is[k]? = some j) (hj : j < ρ.length) : (pickR is ρ)[k]? = ρ[j]? := by
  unfold pickR
  rw [List.getElem?_map, h, List.getElem?_eq_getElem hj]
  simp [List.getD_eq_getElem?_getD, List.getElem?_eq_getElem hj]
theorem den_pick {is ρ : List Nat} (hlt : ∀ j ∈ is, j < ρ.length) {x y : SV} (h : renV is x = some y) : x.den (pickR is ρ) = y.den ρ := by
  cases x with
  | v x => simp only [renV, Option.some.injEq] at h; subst h; rfl
  | k b => simp only [renV, Option.some.injEq] at h; subst h; rfl
  | p m off =>
    simp only [renV] at h
    cases hj : is[m]? with
    | none => rw [hj] at h; cases h
    | some j =>
      rw [hj] at h
      simp only [Option.some.injEq] at h
      subst h
      simp only [SV.den]
      rw [pickR_at hj (hlt j (List.mem_of_getElem? hj))]
theorem denL_pick {is ρ : List Nat} (hlt : ∀ j ∈ is, j < ρ.length) : ∀ {l r : List SV}, renL is l = some r → denL (pickR is ρ) l = denL ρ r
  | [], r, h => by simp only [renL, Option.some.injEq] at h; subst h; rfl
  | x :: l, r, h => by
    unfold renL at h
    split at h
    · rename_i y hy
      split at h
      · rename_i r' hr
        injection h with h
        subst h
        have h1 := den_pick hlt hy
        have h2 := denL_pick hlt hr
        unfold denL at *
        rw [List.mapM_cons, List.mapM_cons, h1, h2]
      · cases h
    · cases h
theorem Le.pick {G : Gl} {st st' : St} (is : List Nat) (hn : is.length = st'.n) (hlt : is.all (fun j => Nat.blt j st.n) = true) (hnd : nodupB is = true) (hB : is.take G.B.length = List.range G.B.length) (ht : pickT is st.t st'.t) (ho : pickO is st.o st'.o) (hno : nodupB (st'.o.map (·.1)) = true)
    (hh : ∀ h, sepL st.h G.R h → ∃ h', (∀ i o, h' i = some o → h i = some o) ∧ sepL st'.h G.R h') : Le G st st' := by
  intro ρ a w m mm
  obtain ⟨m1, m2, m3, m4, m5, m6, mk, h, m7, m8, m9⟩ := mm
  obtain ⟨h', hs, hp⟩ := hh h m8
  have hl : ∀ j ∈ is, j < ρ.length := fun j hj => by
    have := List.all_eq_true.1 hlt j hj
    rw [m2]
    exact Nat.le_of_ble_eq_true this
  have hnd' := nodupB_spec hnd
  refine ⟨pickR is ρ, ⟨m.size, m.defs, fun t x e => ?_⟩, ⟨m1, ?_, ?_, fun b hb => ?_, nodupB_spec hno, fun x hx => ?_, ?_, h', m7.mono hs, hp, fun x hx b e => ?_⟩⟩
  · obtain ⟨y, e1, e2⟩ := pickT_get ht e
    rw [den_pick hl e1]
    exact m.get t y e2
  · rw [← hn]; simp [pickR]
  · refine List.pairwise_iff_getElem.2 fun i j hil hjl hij e => ?_
    have hjl' : j < is.length := by simpa [pickR] using hjl
    have hi : i < is.length := by omega
    have e : (pickR is ρ)[i]? = (pickR is ρ)[j]? := by rw [List.getElem?_eq_getElem hil, List.getElem?_eq_getElem hjl, e]
    have a1 := pickR_at (ρ := ρ) (List.getElem?_eq_getElem hi) (hl _ (List.getElem_mem hi))
    have a2 := pickR_at (ρ := ρ) (List.getElem?_eq_getElem hjl') (hl _ (List.getElem_mem hjl'))
    rw [a1, a2] at e
    have b1 := hl _ (List.getElem_mem hi)
    have b2 := hl _ (List.getElem_mem hjl')
    rw [List.getElem?_eq_getElem b1, List.getElem?_eq_getElem b2] at e
    injection e with e
    have := (List.getElem_inj m3).1 e
    have := (List.getElem_inj hnd').1 this
    omega
  · obtain ⟨k, hk, e⟩ := List.mem_iff_getElem.1 hb
    have hk' : k < is.length := by simpa [pickR] using hk
    have a1 := pickR_at (ρ := ρ) (List.getElem?_eq_getElem hk') (hl _ (List.getElem_mem hk'))
    rw [List.getElem?_eq_getElem hk, List.getElem?_eq_getElem (hl _ (List.getElem_mem hk'))] at a1
    injection a1 with a1
    rw [← e, a1]
    exact m4 _ (List.getElem_mem _)
  · obtain ⟨j, r, e1, e2, e3⟩ := pickO_mem ho hx
    obtain ⟨b, cs, f1, f2, f3⟩ := m6 _ (getO_mem e3)
    exact ⟨b, cs, by rw [pickR_at e1 (hl j (List.mem_of_getElem? e1))]; exact f1, by rw [denL_pick hl e2]; exact f2, f3⟩
  · obtain ⟨q, rfl⟩ := mk
    refine ⟨pickR (is.drop G.B.length) (G.B ++ q), ?_⟩
    have : pickR is (G.B ++ q) = pickR (is.take G.B.length) (G.B ++ q) ++ pickR (is.drop G.B.length) (G.B ++ q) := by unfold pickR; rw [← List.map_append, List.take_append_drop]
    rw [this, hB]
    congr 1
    apply List.ext_getElem?
    intro i
    by_cases c : i < G.B.length
    · rw [pickR_at (by rw [List.getElem?_range c]) (by simp; omega), List.getElem?_append_left c]
    · rw [List.getElem?_eq_none (by simp [pickR]; omega), List.getElem?_eq_none (by omega)]
  · obtain ⟨j, r, e1, e2, e3⟩ := pickO_mem ho hx
    rw [pickR_at e1 (hl j (List.mem_of_getElem? e1))] at e
    have := m9 _ (getO_mem e3) b e
    cases e' : h' b with
    | none => rfl
    | some o => rw [hs b o e'] at this; cases this
/-- .. and all orders come to one state -/
theorem RegAt.joins {G : Gl} {id : Nat} {l : List Oper} {st : St} {K : St → Prop} (gs : List (Tr × Nat)) (Kp : List Nat) (S : List (Nat × SV)) (O : List (Nat × TypeId × List SV)) (nn : Nat) (H : List HP) (hm : G.P.follows .mixedOrders = true) (hB : treesOk l gs = true)
    (h : treesG G l gs st fun st' => Le G st' ⟨S ++ keepT st.t Kp, O, nn, H, True⟩) (k : forceL (S ++ keepT st.t Kp) fun t => K ⟨t, O, nn, H, True⟩) (hax : axFree G.AX l = true := by rfl) : RegAt G id l.toArray st K := by
  obtain ⟨h⟩ := RegAt.trees (id := id) gs hm hB h hax
  refine .mk fun ρ a w m mm => ?_
  refine wp_mono (h ρ a w m mm) ?_
  rintro e a' w' (⟨rfl, st', ρ', hle, m', mm'⟩ | hp)
  · obtain ⟨ρ2, m2, mm2⟩ := hle ρ' a' w' m' mm'
    exact .inl ⟨rfl, _, ρ2, forceL_eq k, m2, mm2⟩
  · exact .inr hp
def asK0 (st : St) (K : St → St → Prop) : Prop := match st with
  | ⟨t, o, n, h, c⟩ => K ⟨t, o, n, [], c⟩ ⟨t, o, n, h, c⟩
theorem asK0_eq (st : St) (K : St → St → Prop) : asK0 st K = K { st with h := [] } st := by cases st; rfl
/-- groups that keep the objects, and what is only read -/
def treesG0 (G : Gl) (all : List Oper) : List (Tr × Nat) → St → (St → Prop) → Prop
  | [], st, K => stp st K
  | (g, _) :: r, st, K => asK0 st fun st0 st => treeG G all g.hasT st0 g st fun st => treesG0 G all r st K
theorem treesG0_good {G : Gl} {all : List Oper} {K : St → Prop} : ∀ gs : List (Tr × Nat), Good fun st => treesG0 G all gs st K
  | [] => good_stp
  | (g, n) :: r => fun st h => by
    have h : asK0 st fun st0 st => treeG G all g.hasT st0 g st fun st => treesG0 G all r st K := h
    rw [asK0_eq] at h
    exact treeG_good (treesG0_good r) g _ h
theorem trees0_sound {G : Gl} {all : List Oper} {Q : Exit → Act → World → Prop} {K : St → Prop} (hx : ∀ e a w, PXE G e a w → Q e a w) (hsel : Region.noSelect all.toArray = true) (hQ : ∀ o ∈ all, ∀ v c a w, Q (.panic c) (Act.put a o.dst v) w → Q (.panic c) a w) (hend : ∀ st ρ a w, K st → Tm G st ρ a → Mem G st ρ w → Q .normal a w) :
    ∀ (gs : List (Tr × Nat)) (ls : Array Bool) (st : St) (ρ : List Nat) (a : Act) (w : World), treesB all.toArray gs ls = true → treesG0 G all gs st K → Tm G st ρ a → Mem G st ρ w → wpAny G.P .any all.toArray Q (treeLen gs) ls a w
  | [], ls, st, ρ, a, w, hB, h, m, mm => by
    simp only [treesB, decide_eq_true_eq] at hB
    exact ⟨hB, hend { st with c := True } ρ a w (stp_iff.1 h).2 (m.same rfl) (mm.same rfl rfl rfl)⟩
  | (g, n) :: r, ls, st, ρ, a, w, hB, h, m, mm => by
    simp only [treesB, Bool.and_eq_true, Bool.or_eq_true, decide_eq_true_eq] at hB
    obtain ⟨hw, hh, hs⟩ := hB
    have h : asK0 st fun st0 st => treeG G all g.hasT st0 g st fun st => treesG0 G all r st K := h
    rw [asK0_eq] at h
    have key := tree_sound (F := fun ls' => treesB all.toArray r ls') (kp := g.hasT) (st0 := { st with h := [] }) (ρ0 := ρ) hx hsel hQ hw (treesG0_good r) g ls st ρ a w (headW_spec hh) hs h m mm fun _ => ⟨⟨[], by simp⟩, mem_nil mm⟩
    exact HdG.any (g := treeLen r) (fun ls' a' w' ⟨⟨hF, _⟩, st', ρ', k, m', mm'⟩ => trees0_sound hx hsel hQ hend r ls' st' ρ' a' w' hF k m' mm') _ _ _ _ key
theorem RegAt.trees0 {G : Gl} {id : Nat} {l : List Oper} {st : St} {K : St → Prop} (gs : List (Tr × Nat)) (hm : G.P.follows .mixedOrders = true) (hB : treesOk l gs = true) (h : treesG0 G l gs st K) (hax : axFree G.AX l = true := by rfl) : RegAt G id l.toArray st K := by
  simp only [treesOk, Bool.and_eq_true, decide_eq_true_eq] at hB
  obtain ⟨h1, h2, h3⟩ := hB
  refine .mk fun ρ a w m mm => ?_
  refine wp_region_any hm ?_
  have key := trees0_sound (Q := fun e a' w' => (e = .normal ∧ ∃ st' ρ', K st' ∧ Tm G st' ρ' a' ∧ Mem G st' ρ' w') ∨ PXE G e a' w') (fun e a w hp => .inr hp) h1 (fun o ho v c a w hq => by rcases hq with ⟨hq, _⟩ | hq; cases hq; exact .inr (hq.put (axFree_spec hax o ho))) (fun st ρ a w k m mm => .inl ⟨rfl, st, ρ, k, m, mm⟩) gs _ st ρ a _ h3 h m mm.drew
  rw [h2] at key
  simpa using key
theorem RegAt.joins0 {G : Gl} {id : Nat} {l : List Oper} {st : St} {K : St → Prop} (gs : List (Tr × Nat)) (Kp : List Nat) (S : List (Nat × SV)) (O : List (Nat × TypeId × List SV)) (nn : Nat) (H : List HP) (hm : G.P.follows .mixedOrders = true) (hB : treesOk l gs = true)
    (h : treesG0 G l gs st fun st' => Le G st' ⟨S ++ keepT st.t Kp, O, nn, H, True⟩) (k : forceL (S ++ keepT st.t Kp) fun t => K ⟨t, O, nn, H, True⟩) (hax : axFree G.AX l = true := by rfl) : RegAt G id l.toArray st K := by
  obtain ⟨h⟩ := RegAt.trees0 (id := id) gs hm hB h hax
  refine .mk fun ρ a w m mm => ?_
  refine wp_mono (h ρ a w m mm) ?_
  rintro e a' w' (⟨rfl, st', ρ', hle, m', mm'⟩ | hp)
  · obtain ⟨ρ2, m2, mm2⟩ := hle ρ' a' w' m' mm'
    exact .inl ⟨rfl, _, ρ2, forceL_eq k, m2, mm2⟩
  · exact .inr hp
end Sy
end Go.Proofs.YtihkhomnhggifaaGreatDoor

/-
  script: cells as words; a list told.
-/
namespace Go.Proofs.YtihkhomnhggifaaGreatDoor
open Go.RowKit
open Sy
set_option linter.unusedVariables false
set_option linter.unusedSimpArgs false
set_option maxRecDepth 100000
set_option maxHeartbeats 4000000

theorem sCells {R : HP} {A : Option Addr} {n c : Nat} (hN : ∀ w, Sat R w → NumW w) (l : List (Int × Int)) (hl : l.length = n) (hn : n ≤ 1000000) (hi : ∀ x ∈ l, I64 x.1 ∧ I64 x.2) (ha : Sl R A n 2 (l.flatMap celL)) :
    FnR Tryz.prog R 59 [.slice A n c] [] fun r hs => ∃ A' c', r = .slice A' n c' ∧ hs = [rowH (.slice A' n c') n 9 1 (strV (l.map celW))] := by
  refine FnR.of_sat fun wS hS => ?_
  obtain ⟨_, sa⟩ := ha.spot (by omega) (sat_base hS)
  have f0 : ∀ i (h : i < l.length), (l.flatMap celL)[i * 2]? = some (.int .i64 l[i].1) ∧ (l.flatMap celL)[i * 2 + 1]? = some (.int .i64 l[i].2) := fun i h =>
    ⟨flat_at (f := celL) (s := 2) (fun _ => rfl) (l := l) (i := i) (j := 0) h (by omega), flat_at (f := celL) (s := 2) (fun _ => rfl) (l := l) (i := i) (j := 1) h (by omega)⟩
  refine fn_of_run0 false Tryz.func59 rfl hmix rfl fun w0 => ?_
  conv => whnf
  refine ⟨trivial, LoopAt.heap (α := Nat × Option Addr × Nat) [6, 7] (fun a => [(3, .v (.slice a.2.1 a.1 a.2.2)), (8, .v (.int .i64 (a.1 : Int)))]) (fun a => [rowH (.slice a.2.1 a.1 a.2.2) a.1 9 1 (strV ((l.take a.1).map celW))]) (fun a => a.1 ≤ n) (fun a => n - a.1) (0, none, 0) (Nat.zero_le _) rfl ⟨⟨rfl, rfl⟩, ⟨rfl, rfl⟩, trivial⟩ ⟨⟨rfl, rfl⟩, ⟨rfl, rfl⟩, trivial⟩ trivial (fun h s => sub_same (row_nil _ _ s)) ?_⟩
  rintro ⟨i, B, cb⟩ hi'
  simp only at hi'
  conv => whnf
  refine ⟨fun h => ?_, fun h => ?_⟩
  · have hi2 : i < n := by simpa using h
    rcases sa with sa | ⟨ab, off, rfl, sa⟩
    · omega
    have hil : i < l.length := by omega
    obtain ⟨f1, f2⟩ := f0 i hil
    have f3 : (l.take (i + 1)).map celW = (l.take i).map celW ++ [celW l[i]] := by rw [List.take_succ_eq_append_getElem hil, List.map_append]; rfl
    have hb := hi _ (List.getElem_mem hil)
    have hcw : celW l[i] = Lib.itoa l[i].1 ++ [44] ++ Lib.itoa l[i].2 := by simp [celW]
    have l1 := itoa_len20 hb.1
    have l2 := itoa_len20 hb.2
    have p1 := fun R' (h : ∀ w, Sat R' w → Sat R w) => sPrint (R := R') (fun w s => hN w (h w s)) l[i].1 hb.1.1 hb.1.2
    have p2 := fun R' (h : ∀ w, Sat R' w → Sat R w) => sPrint (R := R') (fun w s => hN w (h w s)) l[i].2 hb.2.1 hb.2.2
    generalize celW l[i] = cw at *
    generalize l[i] = z at *
    obtain ⟨x, y⟩ := z
    simp only at f1 f2 p1 p2 hcw l1 l2
    generalize (l.take i).map celW = us at *
    generalize Lib.itoa x = sx at *
    generalize Lib.itoa y = sy at *
    conv => whnf
    refine ⟨⟨trivial, by simp only; omega⟩, LoadAt.agg [.int .i64 x, .int .i64 y] rfl rfl rfl (fun w hw j u hj => ?_) ?_⟩
    · simp only [Int.toNat_natCast]
      rcases j with _ | _ | j
      · simp at hj; rw [← hj]; exact sa w (Sat.rest hw) _ _ f1
      · simp at hj; rw [← hj, Nat.add_assoc]; exact sa w (Sat.rest hw) _ _ f2
      · simp at hj
    conv => whnf
    refine ⟨trivial, RegAt.groups [([.T 0, .T 1, .T 2, .T 5, .T 6, .H 3, .T 4, .H 7, .T 8, .H 9], 10), ([.H 10], 11), ([.T 11], 12)] hmix (by kernel_rfl) ?_⟩
    conv => whnf
    refine ⟨trivial, CallAt.pure (fun R' hR' => p1 R' fun w s => Sat.rest (hR' w s)) ?_⟩
    conv => whnf
    refine ⟨trivial, ⟨⟨rfl, rfl⟩, fun h s => sub_same s⟩, ?_⟩
    conv => whnf
    refine ⟨⟨trivial, by rw [bs_size]; show _ + 1 ≤ _; omega⟩, CallAt.pure (fun R' hR' => p2 R' fun w s => Sat.rest (hR' w s)) ?_⟩
    conv => whnf
    refine ⟨trivial, ⟨⟨rfl, rfl⟩, fun h s => sub_same s⟩, ?_⟩
    conv => whnf
    rw [show (⟨#[44]⟩ : ByteArray) = bs [44] from rfl, bs_append, bs_append, ← hcw]
    refine ⟨⟨trivial, ?_⟩, OpAt.lit [.string (bs cw)] 1 rfl rfl rfl rfl rfl (by decide) rfl rfl rfl (by simp [Value.cells]) rfl (by decide) fun g => ?_⟩
    · simp only [bs_size, List.length_append, List.length_cons, List.length_nil]
      omega
    conv => whnf
    refine ⟨trivial, ⟨⟨rfl, rfl⟩, fun h s => sub_tail s⟩, ?_⟩
    conv => whnf
    refine ⟨trivial, OpAt.append (.slice B i cb) i 1 16 (strV us) [.string (bs cw)] (some ⟨g, 0, none⟩) 1 1 _ rfl (fun h s => sepL_pull 1 s) rfl rfl rfl rfl rfl rfl rfl rfl rfl (by decide) (fun w hw => rowH_reads rfl (Sat.left hw)) (by simp [Value.oneCell']) (by simp only [maxLen]; omega) (by omega) fun A' c' => ?_⟩
    conv => whnf
    refine ⟨trivial, ?_⟩
    conv => whnf
    refine ⟨⟨trivial, by unfold rng; simp only; omega⟩, Next.heap (i + 1, A', c') (by simp only; omega) (by simp only; omega) ⟨⟨rfl, rfl⟩, ⟨rfl, rfl⟩, trivial⟩ ⟨⟨rfl, rfl⟩, ⟨rfl, rfl⟩, trivial⟩ trivial rfl rfl fun h s => ?_⟩
    obtain ⟨h', e, s'⟩ := sub_drop1 s
    refine ⟨h', e, ?_⟩
    show sepL [rowH (.slice A' (i + 1) c') (i + 1) 9 1 (strV ((l.take (i + 1)).map celW))] R h'
    rw [f3]
    show sepL [rowH (.slice A' (i + 1) c') (i + 1) 9 1 (List.map _ (us ++ [cw]))] R h'
    rw [List.map_append]
    exact s'
  · have hi3 : i = n := by simp at h; omega
    subst hi3
    have e : l.take i = l := List.take_of_length_le (by omega)
    rw [e]
    conv => whnf
    exact ⟨trivial, .mk _ (fun w s => s) ⟨_, _, rfl, rfl⟩⟩
abbrev putC (cs : Array Value) (k : Nat) (v : Value) : Array Value := (putL cs.toList k [v]).toArray
theorem putC_get {cs : Array Value} {k : Nat} {v : Value} (hk : k < cs.size) : (putC cs k v)[k]? = some v := by
  simp only [List.getElem?_toArray]
  rw [putL_get (by simp; omega), if_pos (by simp)]
  simp
theorem putC_size {cs : Array Value} {k : Nat} {v : Value} (hk : k < cs.size) : (putC cs k v).size = cs.size := by
  simp only [List.size_toArray]
  rw [putL_len (by simp; omega)]
  simp
theorem sList {R : HP} {lb b : Nat} {tb : TypeId} {cs : Array Value} {A : Option Addr} {n c : Nat} (hN : ∀ w, Sat R w → NumW w) (hM : ∀ w, Sat R w → MaxW w) (ws : List (List UInt8)) (k : Nat) (l : List Int) (hw : ws.length ≤ 100000) (hk : cs[k]? = some (.slice A n c)) (hl : l.length = n) (hn : n ≤ 40000) (hi : ∀ x ∈ l, I64 x) (ha : Sl R A n 1 (l.flatMap numL)) :
    FnR Tryz.prog R 34 [.pointer (some ⟨lb, 0, none⟩), .pointer (some ⟨b, k, none⟩)] [lnH lb ws, blkH b tb cs] fun r hs => r = .tuple #[] ∧ ∃ v, hs = [lnH lb (ws ++ [listW l]), blkH b tb (putC cs k v)] := by
  have hks := (Array.getElem?_eq_some_iff.1 hk).1
  have hjo := fun R' (h : ∀ w, Sat R' w → Sat R w) => sJoin (R := R') (c := c) (fun w s => hN w (h w s)) l hl (by omega) hi (ha.mono h)
  have hwl := listW_len hi
  refine fn_of_run0 false Tryz.func34 rfl hmix rfl fun w0 => ?_
  conv => whnf
  refine ⟨trivial, LoadAt.cell (.slice A n c) rfl rfl (fun w hw => blk_cell (hw.in_ 1 rfl) hk) ?_⟩
  conv => whnf
  refine ⟨trivial, CallAt.pure (fun R' hR' => hjo R' fun w s => Sat.rest (hR' w s)) ?_⟩
  conv => whnf
  refine ⟨trivial, CallAt.fn (pre := [lnH lb ws]) _ (fun h s => s) (fun R' hR' => sWord (listW l) (by omega)) ?_⟩
  rintro r hs ⟨rfl, rfl⟩
  conv => whnf
  refine ⟨trivial, OpAt.store (A' := blkH b tb (putC cs k (.slice none 0 0))) b k (.slice none 0 0) _ rfl (fun h s => sepL_pull 1 s) rfl rfl rfl rfl rfl (by simp [Value.cells, Value.oneCell']) (fun h r => blk_put (by simp [Value.cells]; omega) r) ?_⟩
  conv => whnf
  refine ⟨fun h => ?_, fun h => ?_⟩
  · conv => whnf
    exact ⟨trivial, .mk _ (fun w ⟨h, hs, s⟩ => ⟨h, hs, sepL_pull 1 s⟩) ⟨rfl, _, rfl⟩⟩
  have hne : l ≠ [] := by
    rintro rfl
    exact absurd h (by decide)
  have hsp := fun R' (h : ∀ w, Sat R' w → Sat R w) => sSplitC (R := R') (fun w s => hM w (h w s)) 44 (listW l) (by omega)
  rw [listW_split hne] at hsp
  rw [List.length_map, hl] at hsp
  conv => whnf
  refine ⟨trivial, CallAt.fn (pre := []) _ (fun h s => s) (fun R' hR' => hsp R' fun w s => Sat.rest (hR' w s)) ?_⟩
  rintro r hs ⟨B, rfl, rfl⟩
  conv => whnf
  refine ⟨trivial, LoopAt.heap (α := Nat × Option Addr × Nat) [1, 18, 19] (fun a => [(20, .v (.int .i64 (a.1 : Int)))]) (fun a => [rowH (.slice a.2.1 a.1 a.2.2) a.1 2 1 ((l.take a.1).flatMap numL), blkH b tb (putC cs k (.slice a.2.1 a.1 a.2.2)), rowH (.slice (some ⟨B, 0, none⟩) n n) n 9 1 (strV (l.map Lib.itoa)), lnH lb (ws ++ [listW l])]) (fun a => a.1 ≤ n) (fun a => n - a.1) (0, none, 0) (Nat.zero_le _) rfl ⟨⟨rfl, rfl⟩, trivial⟩ ⟨⟨rfl, rfl⟩, ⟨rfl, rfl⟩, ⟨rfl, rfl⟩, trivial⟩ trivial (fun h s => sub_same (row_nil _ _ (sepL_pull 1 s))) ?_⟩
  rintro ⟨i, D, cd⟩ hi'
  simp only at hi'
  conv => whnf
  refine ⟨fun h => ?_, fun h => ?_⟩
  · have hi2 : i < n := by simpa using h
    have hil : i < l.length := by omega
    have f3 : (l.take (i + 1)).flatMap numL = (l.take i).flatMap numL ++ [.int .i64 l[i]] := by rw [List.take_succ_eq_append_getElem hil, List.flatMap_append]; rfl
    have f1 : (strV (l.map Lib.itoa))[i]? = some (.string (bs (Lib.itoa l[i]))) := by simp [hil]
    have hb := hi _ (List.getElem_mem hil)
    have hnu := fun R' (h : ∀ w, Sat R' w → Sat R w) => sNumber (R := R') (fun w s => hN w (h w s)) l[i] hb
    generalize l[i] = z at *
    conv => whnf
    refine ⟨⟨trivial, by simp only; omega⟩, LoadAt.cell (.string (bs (Lib.itoa z))) rfl rfl (fun w hw => ?_) ?_⟩
    · have hrd := rowH_reads rfl (hw.in_ 2 rfl)
      obtain ⟨ad, e1, _, e2⟩ := hrd.2 (by omega)
      injection e1 with e1
      subst e1
      have := e2 i _ f1
      rw [add_plain] at this
      simpa using this
    conv => whnf
    generalize (l.take i).flatMap numL = us at *
    refine ⟨trivial, RegAt.trees0 [((Tr.T 0 (Tr.T 1 (Tr.T 2 (Tr.T 4 (Tr.C 3 (Tr.H 5 (Tr.H 6 (Tr.H 7 Tr.E))) 5 (Tr.C 3 (Tr.H 6 (Tr.H 7 Tr.E)) 6 (Tr.H 3 (Tr.H 7 Tr.E)))))))), 8), ((Tr.T 8 Tr.E), 9), ((Tr.H 9 Tr.E), 10)] hmix (by kernel_rfl) ?_⟩
    conv => whnf
    refine ⟨?_, ?_⟩
    · refine ⟨trivial, LoadAt.cell (.slice D i cd) rfl rfl (fun w hw => blk_cell (hw.in_ 1 rfl) (putC_get hks)) ?_⟩
      conv => whnf
      refine ⟨trivial, ⟨⟨rfl, rfl⟩, fun h s => sub_nil s⟩, ?_⟩
      conv => whnf
      refine ⟨trivial, CallAt.pure (fun R' hR' => hnu R' fun w s => Sat.rest (hR' w s)) ?_⟩
      conv => whnf
      refine ⟨trivial, ⟨⟨rfl, rfl⟩, fun h s => sub_nil s⟩, ?_⟩
      conv => whnf
      refine ⟨trivial, OpAt.lit [.int .i64 z] 1 rfl rfl rfl rfl rfl (by decide) rfl rfl rfl (by simp [Value.cells]) rfl (by decide) fun g => ?_⟩
      conv => whnf
      refine ⟨trivial, ⟨⟨rfl, rfl⟩, fun h s => sub_nil s⟩, ?_⟩
      conv => whnf
      refine ⟨trivial, OpAt.append (.slice D i cd) i 1 8 us [.int .i64 z] (some ⟨g, 0, none⟩) 1 1 _ rfl (fun h s => sepL_pull 1 s) rfl rfl rfl rfl rfl rfl rfl rfl rfl (by decide) (fun w hw => rowH_reads rfl (Sat.left hw)) (by simp [Value.oneCell']) (by simp only [maxLen]; omega) (by omega) fun D' cd' => ?_⟩
      conv => whnf
      refine ⟨trivial, ⟨⟨rfl, rfl⟩, fun h s => sub_nil s⟩, ?_⟩
      conv => whnf
      refine ⟨trivial, OpAt.store (A' := blkH b tb (putC cs k (.slice D' (i + 1) cd'))) b k (.slice D' (i + 1) cd') _ rfl (fun h s => sepL_pull 2 s) rfl rfl rfl rfl rfl (by simp [Value.cells, Value.oneCell']) (fun h r => ?_) ?_⟩
      · have hb := blk_put (off := k) (ys := [.slice D' (i + 1) cd']) (show k + 1 ≤ _ by rw [putC_size hks]; omega) r
        rw [show (putL (putC cs k (.slice D i cd)).toList k [.slice D' (i + 1) cd']).toArray = putC cs k (.slice D' (i + 1) cd') from congrArg List.toArray (putL_again (by simpa using hks))] at hb
        exact hb
      conv => whnf
      refine ⟨trivial, ?_⟩
      conv => whnf
      refine ⟨trivial, ?_⟩
      conv => whnf
      refine ⟨⟨trivial, by unfold rng; simp only; omega⟩, Next.heap (i + 1, D', cd') (by simp only; omega) (by simp only; omega) ⟨⟨rfl, rfl⟩, trivial⟩ ⟨⟨rfl, rfl⟩, ⟨rfl, rfl⟩, ⟨rfl, rfl⟩, trivial⟩ trivial rfl rfl fun h s => ?_⟩
      obtain ⟨h', e, s'⟩ := sub_tail (sepL_pull 2 s)
      refine ⟨h', e, ?_⟩
      show sepL [rowH (.slice D' (i + 1) cd') (i + 1) 2 1 ((l.take (i + 1)).flatMap numL), blkH b tb (putC cs k (.slice D' (i + 1) cd')), rowH (.slice (some ⟨B, 0, none⟩) n n) n 9 1 (strV (l.map Lib.itoa)), lnH lb (ws ++ [listW l])] R h'
      rw [f3]
      exact sepL_perm (List.Perm.swap _ _ _) s'
    · refine ⟨trivial, CallAt.pure (fun R' hR' => hnu R' fun w s => Sat.rest (hR' w s)) ?_⟩
      conv => whnf
      refine ⟨trivial, ⟨⟨rfl, rfl⟩, fun h s => sub_nil s⟩, ?_⟩
      conv => whnf
      refine ⟨?_, ?_⟩
      · refine ⟨trivial, LoadAt.cell (.slice D i cd) rfl rfl (fun w hw => blk_cell (hw.in_ 1 rfl) (putC_get hks)) ?_⟩
        conv => whnf
        refine ⟨trivial, ⟨⟨rfl, rfl⟩, fun h s => sub_nil s⟩, ?_⟩
        conv => whnf
        refine ⟨trivial, OpAt.lit [.int .i64 z] 1 rfl rfl rfl rfl rfl (by decide) rfl rfl rfl (by simp [Value.cells]) rfl (by decide) fun g => ?_⟩
        conv => whnf
        refine ⟨trivial, ⟨⟨rfl, rfl⟩, fun h s => sub_nil s⟩, ?_⟩
        conv => whnf
        refine ⟨trivial, OpAt.append (.slice D i cd) i 1 8 us [.int .i64 z] (some ⟨g, 0, none⟩) 1 1 _ rfl (fun h s => sepL_pull 1 s) rfl rfl rfl rfl rfl rfl rfl rfl rfl (by decide) (fun w hw => rowH_reads rfl (Sat.left hw)) (by simp [Value.oneCell']) (by simp only [maxLen]; omega) (by omega) fun D' cd' => ?_⟩
        conv => whnf
        refine ⟨trivial, ⟨⟨rfl, rfl⟩, fun h s => sub_nil s⟩, ?_⟩
        conv => whnf
        refine ⟨trivial, OpAt.store (A' := blkH b tb (putC cs k (.slice D' (i + 1) cd'))) b k (.slice D' (i + 1) cd') _ rfl (fun h s => sepL_pull 2 s) rfl rfl rfl rfl rfl (by simp [Value.cells, Value.oneCell']) (fun h r => ?_) ?_⟩
        · have hb := blk_put (off := k) (ys := [.slice D' (i + 1) cd']) (show k + 1 ≤ _ by rw [putC_size hks]; omega) r
          rw [show (putL (putC cs k (.slice D i cd)).toList k [.slice D' (i + 1) cd']).toArray = putC cs k (.slice D' (i + 1) cd') from congrArg List.toArray (putL_again (by simpa using hks))] at hb
          exact hb
        conv => whnf
        refine ⟨trivial, ?_⟩
        conv => whnf
        refine ⟨trivial, ?_⟩
        conv => whnf
        refine ⟨⟨trivial, by unfold rng; simp only; omega⟩, Next.heap (i + 1, D', cd') (by simp only; omega) (by simp only; omega) ⟨⟨rfl, rfl⟩, trivial⟩ ⟨⟨rfl, rfl⟩, ⟨rfl, rfl⟩, ⟨rfl, rfl⟩, trivial⟩ trivial rfl rfl fun h s => ?_⟩
        obtain ⟨h', e, s'⟩ := sub_tail (sepL_pull 2 s)
        refine ⟨h', e, ?_⟩
        show sepL [rowH (.slice D' (i + 1) cd') (i + 1) 2 1 ((l.take (i + 1)).flatMap numL), blkH b tb (putC cs k (.slice D' (i + 1) cd')), rowH (.slice (some ⟨B, 0, none⟩) n n) n 9 1 (strV (l.map Lib.itoa)), lnH lb (ws ++ [listW l])] R h'
        rw [f3]
        exact sepL_perm (List.Perm.swap _ _ _) s'
      · refine ⟨trivial, OpAt.lit [.int .i64 z] 1 rfl rfl rfl rfl rfl (by decide) rfl rfl rfl (by simp [Value.cells]) rfl (by decide) fun g => ?_⟩
        conv => whnf
        refine ⟨trivial, ⟨⟨rfl, rfl⟩, fun h s => sub_nil s⟩, ?_⟩
        conv => whnf
        refine ⟨trivial, LoadAt.cell (.slice D i cd) rfl rfl (fun w hw => blk_cell (hw.in_ 2 rfl) (putC_get hks)) ?_⟩
        conv => whnf
        refine ⟨trivial, ⟨⟨rfl, rfl⟩, fun h s => sub_nil s⟩, ?_⟩
        conv => whnf
        refine ⟨trivial, OpAt.append (.slice D i cd) i 1 8 us [.int .i64 z] (some ⟨g, 0, none⟩) 1 1 _ rfl (fun h s => sepL_pull 1 s) rfl rfl rfl rfl rfl rfl rfl rfl rfl (by decide) (fun w hw => rowH_reads rfl (Sat.left hw)) (by simp [Value.oneCell']) (by simp only [maxLen]; omega) (by omega) fun D' cd' => ?_⟩
        conv => whnf
        refine ⟨trivial, ⟨⟨rfl, rfl⟩, fun h s => sub_nil s⟩, ?_⟩
        conv => whnf
        refine ⟨trivial, OpAt.store (A' := blkH b tb (putC cs k (.slice D' (i + 1) cd'))) b k (.slice D' (i + 1) cd') _ rfl (fun h s => sepL_pull 2 s) rfl rfl rfl rfl rfl (by simp [Value.cells, Value.oneCell']) (fun h r => ?_) ?_⟩
        · have hb := blk_put (off := k) (ys := [.slice D' (i + 1) cd']) (show k + 1 ≤ _ by rw [putC_size hks]; omega) r
          rw [show (putL (putC cs k (.slice D i cd)).toList k [.slice D' (i + 1) cd']).toArray = putC cs k (.slice D' (i + 1) cd') from congrArg List.toArray (putL_again (by simpa using hks))] at hb
          exact hb
        conv => whnf
        refine ⟨trivial, ?_⟩
        conv => whnf
        refine ⟨trivial, ?_⟩
        conv => whnf
        refine ⟨⟨trivial, by unfold rng; simp only; omega⟩, Next.heap (i + 1, D', cd') (by simp only; omega) (by simp only; omega) ⟨⟨rfl, rfl⟩, trivial⟩ ⟨⟨rfl, rfl⟩, ⟨rfl, rfl⟩, ⟨rfl, rfl⟩, trivial⟩ trivial rfl rfl fun h s => ?_⟩
        obtain ⟨h', e, s'⟩ := sub_tail (sepL_pull 2 s)
        refine ⟨h', e, ?_⟩
        show sepL [rowH (.slice D' (i + 1) cd') (i + 1) 2 1 ((l.take (i + 1)).flatMap numL), blkH b tb (putC cs k (.slice D' (i + 1) cd')), rowH (.slice (some ⟨B, 0, none⟩) n n) n 9 1 (strV (l.map Lib.itoa)), lnH lb (ws ++ [listW l])] R h'
        rw [f3]
        exact sepL_perm (List.Perm.swap _ _ _) s'
  · have hi3 : i = n := by simp at h; omega
    subst hi3
    conv => whnf
    refine ⟨trivial, .mk [lnH lb (ws ++ [listW l]), blkH b tb (putC cs k (.slice D i cd))] (fun w ⟨h, hs, s⟩ => ?_) ⟨rfl, _, rfl⟩⟩
    obtain ⟨h', e, s'⟩ := sub_front (m := [lnH lb (ws ++ [listW l]), blkH b tb (putC cs k (.slice D i cd))]) (sepL_perm ((List.Perm.swap _ _ _).cons _) (sepL_pull 3 s))
    exact ⟨h', hs.mono e, s'⟩
end Go.Proofs.YtihkhomnhggifaaGreatDoor

/-
  script: a list taken.
-/
namespace Go.Proofs.YtihkhomnhggifaaGreatDoor
open Go.RowKit
open Sy
set_option linter.unusedVariables false
set_option linter.unusedSimpArgs false
set_option maxRecDepth 100000
set_option maxHeartbeats 4000000

theorem sListT {R : HP} {lb b0 off m0 c0 k0 b : Nat} {tb : TypeId} {cs : Array Value} {n : Nat} {ws : List (List UInt8)} (hN : ∀ w, Sat R w → NumW w) (hM : ∀ w, Sat R w → MaxW w) (k : Nat) (l : List Int) (hk : cs[k]? = some (.slice none 0 0)) (hl : l.length = n) (hn : n ≤ 40000) (hi : ∀ x ∈ l, I64 x) (hz : ws[k0]? = some (listW l)) (hn0 : ws.length = m0) (hm0 : m0 ≤ 1000000) (hc0 : m0 ≤ c0) (ha0 : WordsAt R b0 off ws) :
    FnR Tryz.prog R 34 [.pointer (some ⟨lb, 0, none⟩), .pointer (some ⟨b, k, none⟩)] [tkH lb b0 off m0 c0 k0, blkH b tb cs] fun r hs => r = .tuple #[] ∧ ∃ D cd, hs = [tkH lb b0 off m0 c0 (k0 + 1), blkH b tb (putC cs k (.slice D n cd)), rowH (.slice D n cd) n 2 1 (l.flatMap numL)] := by
  have hks := (Array.getElem?_eq_some_iff.1 hk).1
  have hjo := fun R' (h : ∀ w, Sat R' w → Sat R w) => sJoin (R := R') (A := none) (n := 0) (c := 0) (fun w s => hN w (h w s)) [] rfl (by decide) (fun x hx => by cases hx) (Sl.nil _ _ _)
  have hwl := listW_len hi
  refine fn_of_run0 false Tryz.func34 rfl hmix rfl fun w0 => ?_
  conv => whnf
  refine ⟨trivial, LoadAt.cell (.slice none 0 0) rfl rfl (fun w hw => blk_cell (hw.in_ 1 rfl) hk) ?_⟩
  conv => whnf
  refine ⟨trivial, CallAt.pure (fun R' hR' => hjo R' fun w s => Sat.rest (hR' w s)) ?_⟩
  conv => whnf
  refine ⟨trivial, CallAt.fn (pre := [tkH lb b0 off m0 c0 k0]) _ (fun h s => s) (fun R' hR' => sWordT (bs (listW [])) hz hn0 hm0 hc0 (ha0.mono fun w s => Sat.rest (hR' w s))) ?_⟩
  rintro r hs ⟨rfl, rfl⟩
  conv => whnf
  refine ⟨trivial, OpAt.store (A' := blkH b tb (putC cs k (.slice none 0 0))) b k (.slice none 0 0) _ rfl (fun h s => sepL_pull 1 s) rfl rfl rfl rfl rfl (by simp [Value.cells, Value.oneCell']) (fun h r => blk_put (by simp [Value.cells]; omega) r) ?_⟩
  conv => whnf
  refine ⟨fun h => ?_, fun h => ?_⟩
  · have hnil : l = [] := by
      have h := of_decide_eq_true h
      exact (listW_dash hi).1 (bs_inj.1 h)
    have hn00 : n = 0 := by rw [← hl, hnil]; rfl
    subst hnil hn00
    conv => whnf
    exact ⟨trivial, .mk [tkH lb b0 off m0 c0 (k0 + 1), blkH b tb (putC cs k (.slice none 0 0)), rowH (.slice none 0 0) 0 2 1 []] (fun w ⟨h, hs, s⟩ => ⟨h, hs, sepL_perm (List.Perm.swap _ _ _) (sepL_perm ((List.Perm.swap _ _ _).cons _) (sepL_perm (List.Perm.swap _ _ _) (row_nil _ _ s)))⟩) ⟨rfl, none, 0, rfl⟩⟩
  have hne : l ≠ [] := by
    rintro rfl
    exact absurd h (by decide)
  have hsp := fun R' (h : ∀ w, Sat R' w → Sat R w) => sSplitC (R := R') (fun w s => hM w (h w s)) 44 (listW l) (by omega)
  rw [listW_split hne] at hsp
  rw [List.length_map, hl] at hsp
  conv => whnf
  refine ⟨trivial, CallAt.fn (pre := []) _ (fun h s => s) (fun R' hR' => hsp R' fun w s => Sat.rest (hR' w s)) ?_⟩
  rintro r hs ⟨B, rfl, rfl⟩
  conv => whnf
  refine ⟨trivial, LoopAt.heap (α := Nat × Option Addr × Nat) [1, 18, 19] (fun a => [(20, .v (.int .i64 (a.1 : Int)))]) (fun a => [rowH (.slice a.2.1 a.1 a.2.2) a.1 2 1 ((l.take a.1).flatMap numL), blkH b tb (putC cs k (.slice a.2.1 a.1 a.2.2)), rowH (.slice (some ⟨B, 0, none⟩) n n) n 9 1 (strV (l.map Lib.itoa)), tkH lb b0 off m0 c0 (k0 + 1)]) (fun a => a.1 ≤ n) (fun a => n - a.1) (0, none, 0) (Nat.zero_le _) rfl ⟨⟨rfl, rfl⟩, trivial⟩ ⟨⟨rfl, rfl⟩, ⟨rfl, rfl⟩, ⟨rfl, rfl⟩, trivial⟩ trivial (fun h s => sub_same (row_nil _ _ (sepL_pull 1 s))) ?_⟩
  rintro ⟨i, D, cd⟩ hi'
  simp only at hi'
  conv => whnf
  refine ⟨fun h => ?_, fun h => ?_⟩
  · have hi2 : i < n := by simpa using h
    have hil : i < l.length := by omega
    have f3 : (l.take (i + 1)).flatMap numL = (l.take i).flatMap numL ++ [.int .i64 l[i]] := by rw [List.take_succ_eq_append_getElem hil, List.flatMap_append]; rfl
    have f1 : (strV (l.map Lib.itoa))[i]? = some (.string (bs (Lib.itoa l[i]))) := by simp [hil]
    have hb := hi _ (List.getElem_mem hil)
    have hnu := fun R' (h : ∀ w, Sat R' w → Sat R w) => sNumber (R := R') (fun w s => hN w (h w s)) l[i] hb
    generalize l[i] = z at *
    conv => whnf
    refine ⟨⟨trivial, by simp only; omega⟩, LoadAt.cell (.string (bs (Lib.itoa z))) rfl rfl (fun w hw => ?_) ?_⟩
    · have hrd := rowH_reads rfl (hw.in_ 2 rfl)
      obtain ⟨ad, e1, _, e2⟩ := hrd.2 (by omega)
      injection e1 with e1
      subst e1
      have := e2 i _ f1
      rw [add_plain] at this
      simpa using this
    conv => whnf
    generalize (l.take i).flatMap numL = us at *
    refine ⟨trivial, RegAt.trees0 [((Tr.T 0 (Tr.T 1 (Tr.T 2 (Tr.T 4 (Tr.C 3 (Tr.H 5 (Tr.H 6 (Tr.H 7 Tr.E))) 5 (Tr.C 3 (Tr.H 6 (Tr.H 7 Tr.E)) 6 (Tr.H 3 (Tr.H 7 Tr.E)))))))), 8), ((Tr.T 8 Tr.E), 9), ((Tr.H 9 Tr.E), 10)] hmix (by kernel_rfl) ?_⟩
    conv => whnf
    refine ⟨?_, ?_⟩
    · refine ⟨trivial, LoadAt.cell (.slice D i cd) rfl rfl (fun w hw => blk_cell (hw.in_ 1 rfl) (putC_get hks)) ?_⟩
      conv => whnf
      refine ⟨trivial, ⟨⟨rfl, rfl⟩, fun h s => sub_nil s⟩, ?_⟩
      conv => whnf
      refine ⟨trivial, CallAt.pure (fun R' hR' => hnu R' fun w s => Sat.rest (hR' w s)) ?_⟩
      conv => whnf
      refine ⟨trivial, ⟨⟨rfl, rfl⟩, fun h s => sub_nil s⟩, ?_⟩
      conv => whnf
      refine ⟨trivial, OpAt.lit [.int .i64 z] 1 rfl rfl rfl rfl rfl (by decide) rfl rfl rfl (by simp [Value.cells]) rfl (by decide) fun g => ?_⟩
      conv => whnf
      refine ⟨trivial, ⟨⟨rfl, rfl⟩, fun h s => sub_nil s⟩, ?_⟩
      conv => whnf
      refine ⟨trivial, OpAt.append (.slice D i cd) i 1 8 us [.int .i64 z] (some ⟨g, 0, none⟩) 1 1 _ rfl (fun h s => sepL_pull 1 s) rfl rfl rfl rfl rfl rfl rfl rfl rfl (by decide) (fun w hw => rowH_reads rfl (Sat.left hw)) (by simp [Value.oneCell']) (by simp only [maxLen]; omega) (by omega) fun D' cd' => ?_⟩
      conv => whnf
      refine ⟨trivial, ⟨⟨rfl, rfl⟩, fun h s => sub_nil s⟩, ?_⟩
      conv => whnf
      refine ⟨trivial, OpAt.store (A' := blkH b tb (putC cs k (.slice D' (i + 1) cd'))) b k (.slice D' (i + 1) cd') _ rfl (fun h s => sepL_pull 2 s) rfl rfl rfl rfl rfl (by simp [Value.cells, Value.oneCell']) (fun h r => ?_) ?_⟩
      · have hb := blk_put (off := k) (ys := [.slice D' (i + 1) cd']) (show k + 1 ≤ _ by rw [putC_size hks]; omega) r
        rw [show (putL (putC cs k (.slice D i cd)).toList k [.slice D' (i + 1) cd']).toArray = putC cs k (.slice D' (i + 1) cd') from congrArg List.toArray (putL_again (by simpa using hks))] at hb
        exact hb
      conv => whnf
      refine ⟨trivial, ?_⟩
      conv => whnf
      refine ⟨trivial, ?_⟩
      conv => whnf
      refine ⟨⟨trivial, by unfold rng; simp only; omega⟩, Next.heap (i + 1, D', cd') (by simp only; omega) (by simp only; omega) ⟨⟨rfl, rfl⟩, trivial⟩ ⟨⟨rfl, rfl⟩, ⟨rfl, rfl⟩, ⟨rfl, rfl⟩, trivial⟩ trivial rfl rfl fun h s => ?_⟩
      obtain ⟨h', e, s'⟩ := sub_tail (sepL_pull 2 s)
      refine ⟨h', e, ?_⟩
      show sepL [rowH (.slice D' (i + 1) cd') (i + 1) 2 1 ((l.take (i + 1)).flatMap numL), blkH b tb (putC cs k (.slice D' (i + 1) cd')), rowH (.slice (some ⟨B, 0, none⟩) n n) n 9 1 (strV (l.map Lib.itoa)), tkH lb b0 off m0 c0 (k0 + 1)] R h'
      rw [f3]
      exact sepL_perm (List.Perm.swap _ _ _) s'
    · refine ⟨trivial, CallAt.pure (fun R' hR' => hnu R' fun w s => Sat.rest (hR' w s)) ?_⟩
      conv => whnf
      refine ⟨trivial, ⟨⟨rfl, rfl⟩, fun h s => sub_nil s⟩, ?_⟩
      conv => whnf
      refine ⟨?_, ?_⟩
      · refine ⟨trivial, LoadAt.cell (.slice D i cd) rfl rfl (fun w hw => blk_cell (hw.in_ 1 rfl) (putC_get hks)) ?_⟩
        conv => whnf
        refine ⟨trivial, ⟨⟨rfl, rfl⟩, fun h s => sub_nil s⟩, ?_⟩
        conv => whnf
        refine ⟨trivial, OpAt.lit [.int .i64 z] 1 rfl rfl rfl rfl rfl (by decide) rfl rfl rfl (by simp [Value.cells]) rfl (by decide) fun g => ?_⟩
        conv => whnf
        refine ⟨trivial, ⟨⟨rfl, rfl⟩, fun h s => sub_nil s⟩, ?_⟩
        conv => whnf
        refine ⟨trivial, OpAt.append (.slice D i cd) i 1 8 us [.int .i64 z] (some ⟨g, 0, none⟩) 1 1 _ rfl (fun h s => sepL_pull 1 s) rfl rfl rfl rfl rfl rfl rfl rfl rfl (by decide) (fun w hw => rowH_reads rfl (Sat.left hw)) (by simp [Value.oneCell']) (by simp only [maxLen]; omega) (by omega) fun D' cd' => ?_⟩
        conv => whnf
        refine ⟨trivial, ⟨⟨rfl, rfl⟩, fun h s => sub_nil s⟩, ?_⟩
        conv => whnf
        refine ⟨trivial, OpAt.store (A' := blkH b tb (putC cs k (.slice D' (i + 1) cd'))) b k (.slice D' (i + 1) cd') _ rfl (fun h s => sepL_pull 2 s) rfl rfl rfl rfl rfl (by simp [Value.cells, Value.oneCell']) (fun h r => ?_) ?_⟩
        · have hb := blk_put (off := k) (ys := [.slice D' (i + 1) cd']) (show k + 1 ≤ _ by rw [putC_size hks]; omega) r
          rw [show (putL (putC cs k (.slice D i cd)).toList k [.slice D' (i + 1) cd']).toArray = putC cs k (.slice D' (i + 1) cd') from congrArg List.toArray (putL_again (by simpa using hks))] at hb
          exact hb
        conv => whnf
        refine ⟨trivial, ?_⟩
        conv => whnf
        refine ⟨trivial, ?_⟩
        conv => whnf
        refine ⟨⟨trivial, by unfold rng; simp only; omega⟩, Next.heap (i + 1, D', cd') (by simp only; omega) (by simp only; omega) ⟨⟨rfl, rfl⟩, trivial⟩ ⟨⟨rfl, rfl⟩, ⟨rfl, rfl⟩, ⟨rfl, rfl⟩, trivial⟩ trivial rfl rfl fun h s => ?_⟩
        obtain ⟨h', e, s'⟩ := sub_tail (sepL_pull 2 s)
        refine ⟨h', e, ?_⟩
        show sepL [rowH (.slice D' (i + 1) cd') (i + 1) 2 1 ((l.take (i + 1)).flatMap numL), blkH b tb (putC cs k (.slice D' (i + 1) cd')), rowH (.slice (some ⟨B, 0, none⟩) n n) n 9 1 (strV (l.map Lib.itoa)), tkH lb b0 off m0 c0 (k0 + 1)] R h'
        rw [f3]
        exact sepL_perm (List.Perm.swap _ _ _) s'
      · refine ⟨trivial, OpAt.lit [.int .i64 z] 1 rfl rfl rfl rfl rfl (by decide) rfl rfl rfl (by simp [Value.cells]) rfl (by decide) fun g => ?_⟩
        conv => whnf
        refine ⟨trivial, ⟨⟨rfl, rfl⟩, fun h s => sub_nil s⟩, ?_⟩
        conv => whnf
        refine ⟨trivial, LoadAt.cell (.slice D i cd) rfl rfl (fun w hw => blk_cell (hw.in_ 2 rfl) (putC_get hks)) ?_⟩
        conv => whnf
        refine ⟨trivial, ⟨⟨rfl, rfl⟩, fun h s => sub_nil s⟩, ?_⟩
        conv => whnf
        refine ⟨trivial, OpAt.append (.slice D i cd) i 1 8 us [.int .i64 z] (some ⟨g, 0, none⟩) 1 1 _ rfl (fun h s => sepL_pull 1 s) rfl rfl rfl rfl rfl rfl rfl rfl rfl (by decide) (fun w hw => rowH_reads rfl (Sat.left hw)) (by simp [Value.oneCell']) (by simp only [maxLen]; omega) (by omega) fun D' cd' => ?_⟩
        conv => whnf
        refine ⟨trivial, ⟨⟨rfl, rfl⟩, fun h s => sub_nil s⟩, ?_⟩
        conv => whnf
        refine ⟨trivial, OpAt.store (A' := blkH b tb (putC cs k (.slice D' (i + 1) cd'))) b k (.slice D' (i + 1) cd') _ rfl (fun h s => sepL_pull 2 s) rfl rfl rfl rfl rfl (by simp [Value.cells, Value.oneCell']) (fun h r => ?_) ?_⟩
        · have hb := blk_put (off := k) (ys := [.slice D' (i + 1) cd']) (show k + 1 ≤ _ by rw [putC_size hks]; omega) r
          rw [show (putL (putC cs k (.slice D i cd)).toList k [.slice D' (i + 1) cd']).toArray = putC cs k (.slice D' (i + 1) cd') from congrArg List.toArray (putL_again (by simpa using hks))] at hb
          exact hb
        conv => whnf
        refine ⟨trivial, ?_⟩
        conv => whnf
        refine ⟨trivial, ?_⟩
        conv => whnf
        refine ⟨⟨trivial, by unfold rng; simp only; omega⟩, Next.heap (i + 1, D', cd') (by simp only; omega) (by simp only; omega) ⟨⟨rfl, rfl⟩, trivial⟩ ⟨⟨rfl, rfl⟩, ⟨rfl, rfl⟩, ⟨rfl, rfl⟩, trivial⟩ trivial rfl rfl fun h s => ?_⟩
        obtain ⟨h', e, s'⟩ := sub_tail (sepL_pull 2 s)
        refine ⟨h', e, ?_⟩
        show sepL [rowH (.slice D' (i + 1) cd') (i + 1) 2 1 ((l.take (i + 1)).flatMap numL), blkH b tb (putC cs k (.slice D' (i + 1) cd')), rowH (.slice (some ⟨B, 0, none⟩) n n) n 9 1 (strV (l.map Lib.itoa)), tkH lb b0 off m0 c0 (k0 + 1)] R h'
        rw [f3]
        exact sepL_perm (List.Perm.swap _ _ _) s'
  · have hi3 : i = n := by simp at h; omega
    subst hi3
    conv => whnf
    have htl : (l.take i).flatMap numL = l.flatMap numL := by rw [List.take_of_length_le (by omega)]
    rw [htl]
    refine ⟨trivial, .mk [tkH lb b0 off m0 c0 (k0 + 1), blkH b tb (putC cs k (.slice D i cd)), rowH (.slice D i cd) i 2 1 (l.flatMap numL)] (fun w ⟨h, hs, s⟩ => ?_) ⟨rfl, D, cd, rfl⟩⟩
    have s1 : sepL [tkH lb b0 off m0 c0 (k0 + 1), rowH (.slice D i cd) i 2 1 (l.flatMap numL), blkH b tb (putC cs k (.slice D i cd)), rowH (.slice (some ⟨B, 0, none⟩) i i) i 9 1 (strV (l.map Lib.itoa))] R h := sepL_pull 3 s
    obtain ⟨h', e, s'⟩ := sub_front (m := [tkH lb b0 off m0 c0 (k0 + 1), blkH b tb (putC cs k (.slice D i cd)), rowH (.slice D i cd) i 2 1 (l.flatMap numL)]) (r := [rowH (.slice (some ⟨B, 0, none⟩) i i) i 9 1 (strV (l.map Lib.itoa))]) (sepL_perm ((List.Perm.swap _ _ _).cons _) s1)
    exact ⟨h', hs.mono e, s'⟩
end Go.Proofs.YtihkhomnhggifaaGreatDoor

/-
  strings.IndexRune's contract (an ASCII sign): laid by the kit's lay-shelf.mjs and lay-plain.mjs, made a template by wip/plain2tpl.py.
-/
namespace Go.Proofs.YtihkhomnhggifaaGreatDoor
open Go.Shelf
def lays152_ren : Go.Shelf.Ren := ⟨fun | 152 => 53 | 137 => 64 | 119 => 65 | 224 => 66 | 225 => 67 | 217 => 84 | 266 => 136 | n => n, fun | 9 => 9 | 21 => 21 | 3 => 3 | 4 => 4 | 5 => 5 | 0 => 0 | 46 => 117 | n => n, fun | n => n⟩
theorem lays152 : Go.Proofs.Lays.n152 Tryz.prog lays152_ren := {
  mixed := by kernel_rfl
  f119 := Tryz.func65.trans (congrArg some (by kernel_rfl))
  f137 := Tryz.func64.trans (congrArg some (by kernel_rfl))
  f152 := Tryz.func53.trans (congrArg some (by kernel_rfl))
  f217 := Tryz.func84.trans (congrArg some (by kernel_rfl))
  f224 := Tryz.func66.trans (congrArg some (by kernel_rfl))
  f225 := Tryz.func67.trans (congrArg some (by kernel_rfl))
  f266 := Tryz.func136.trans (congrArg some (by kernel_rfl))
  t0 := Tryz.underlying0
  a0 := Tryz.isAgg0
  z0 := Tryz.sizeOf0
  v0 := Tryz.zeroValue0
  t3 := Tryz.underlying3
  a3 := Tryz.isAgg3
  z3 := Tryz.sizeOf3
  v3 := Tryz.zeroValue3
  t4 := Tryz.underlying4
  a4 := Tryz.isAgg4
  z4 := Tryz.sizeOf4
  v4 := Tryz.zeroValue4
  t5 := Tryz.underlying5
  a5 := Tryz.isAgg5
  z5 := Tryz.sizeOf5
  v5 := Tryz.zeroValue5
  t9 := Tryz.underlying9
  a9 := Tryz.isAgg9
  z9 := Tryz.sizeOf9
  v9 := Tryz.zeroValue9
  t21 := Tryz.underlying21
  a21 := Tryz.isAgg21
  z21 := Tryz.sizeOf21
  v21 := Tryz.zeroValue21
  t46 := Tryz.underlying117
  a46 := Tryz.isAgg117
  z46 := Tryz.sizeOf117
  v46 := Tryz.zeroValue117 }
open Go.RowKit Go.Lib in
theorem strings_IndexRune_ascii (s : ByteArray) (r : Int) (w : World) (h0 : 0 ≤ r) (h1 : r < 128) :
    Calls Tryz.prog 53 #[.string s, .int .i32 r] w fun e w' => e = .returned (.int .i64 (Lib.indexByte s.data.toList r.toNat.toUInt8)) ∧ w' = w := Any.strings_IndexRune_ascii lays152 s r w h0 h1
end Go.Proofs.YtihkhomnhggifaaGreatDoor

/-
  script: bytes told.
-/
namespace Go.Proofs.YtihkhomnhggifaaGreatDoor
open Go.RowKit
open Sy
set_option linter.unusedVariables false
set_option linter.unusedSimpArgs false
set_option maxRecDepth 100000
set_option maxHeartbeats 4000000

theorem idx16 : ∀ q : Fin 16, Lib.indexByte HXs.data.toList (hexd q.val) = (q.val : Int) ∧ (hexd q.val).toNat < 128 := by decide
theorem sIndexRune {R : HP} (d : Nat) (hd : d < 16) : PureR Tryz.prog R 53 [.string HXs, .int .i32 ((hexd d).toNat : Int)] (.int .i64 (d : Int)) := PureR.of_below fun w _ => by
  obtain ⟨h1, h2⟩ := idx16 ⟨d, hd⟩
  simp only at h1 h2
  refine (Any.strings_IndexRune_ascii lays152 HXs ((hexd d).toNat : Int) w (by omega) (by omega)).mono fun e w' ⟨he, hw⟩ => ⟨?_, hw ▸ Below.refl _ _⟩
  rw [he]
  have e : ((hexd d).toNat : Int).toNat.toUInt8 = hexd d := by rw [Int.toNat_natCast]; exact UInt8.toNat_inj.1 (by simp)
  rw [e, h1]
theorem orHL : ∀ q : Fin 256, IntKind.u8.wrap (bits .or .i64 (((q.val / 16 : Nat) : Int) * 2 ^ Int.toNat 4) ((q.val % 16 : Nat) : Int)) = ((q.val : Nat) : Int) := by decide +kernel
/-- the digit that waits -/
def halfV (b : List UInt8) (p : Nat) : Int := if p % 2 = 0 then -1 else (((b[p / 2]?).getD 0).toNat / 16 : Nat)
theorem hexT_at {b : List UInt8} {p : Nat} (h : p < 2 * b.length) : (hexT b)[p]? = some (if p % 2 = 0 then hexd (((b[p / 2]?).getD 0).toNat / 16) else hexd (((b[p / 2]?).getD 0).toNat % 16)) := by
  induction b generalizing p with
  | nil => simp at h
  | cons a b ih =>
    have e : hexT (a :: b) = hexd (a.toNat / 16) :: hexd (a.toNat % 16) :: hexT b := rfl
    rw [e]
    match p with
    | 0 => simp
    | 1 => simp
    | p + 2 =>
      have h1 : (p + 2) / 2 = p / 2 + 1 := by omega
      have h2 : (p + 2) % 2 = p % 2 := by omega
      rw [List.getElem?_cons_succ, List.getElem?_cons_succ, ih (by simp at h; omega), h1, h2, List.getElem?_cons_succ]
theorem sBytesS {R : HP} {lb ob : Nat} {tb : TypeId} {cs : Array Value} {A : Option Addr} {n c : Nat} (ws : List (List UInt8)) (k : Nat) (b : List UInt8) (hw : ws.length ≤ 100000) (hk : cs[k]? = some (.slice A n c)) (hl : b.length = n) (hn : n ≤ 40000) (ha : Sl R A n 1 (byV b)) :
    FnR Tryz.prog R 35 [.pointer (some ⟨lb, 0, none⟩), .pointer (some ⟨ob, k, none⟩)] [lnH lb ws, blkH ob tb cs] fun r hs => r = .tuple #[] ∧ ∃ v, hs = [lnH lb (ws ++ [hexW b]), blkH ob tb (putC cs k v)] := by
  have hks := (Array.getElem?_eq_some_iff.1 hk).1
  have hh := fun R' (h : ∀ w, Sat R' w → Sat R w) => sHex (R := R') (c := c) b hl (by omega) (ha.mono h)
  refine fn_of_run0 false Tryz.func35 rfl hmix rfl fun w0 => ?_
  conv => whnf
  refine ⟨trivial, LoadAt.cell (.slice A n c) rfl rfl (fun w hw => blk_cell (hw.in_ 1 rfl) hk) ?_⟩
  conv => whnf
  refine ⟨trivial, CallAt.pure (fun R' hR' => hh R' fun w s => Sat.rest (hR' w s)) ?_⟩
  conv => whnf
  refine ⟨trivial, CallAt.fn (pre := [lnH lb ws]) _ (fun h s => s) (fun R' hR' => sWord (hexW b) (by omega)) ?_⟩
  rintro r hs ⟨rfl, rfl⟩
  conv => whnf
  refine ⟨trivial, OpAt.store (A' := blkH ob tb (putC cs k (.slice none 0 0))) ob k (.slice none 0 0) _ rfl (fun h s => sepL_pull 1 s) rfl rfl rfl rfl rfl (by simp [Value.cells, Value.oneCell']) (fun h r => blk_put (by simp [Value.cells]; omega) r) ?_⟩
  conv => whnf
  refine ⟨fun h => ?_, fun h => ?_⟩
  · conv => whnf
    exact ⟨trivial, .mk _ (fun w ⟨h, hs, s⟩ => ⟨h, hs, sepL_pull 1 s⟩) ⟨rfl, _, rfl⟩⟩
  have hne : b ≠ [] := by
    rintro rfl
    exact absurd h (by decide)
  have hp : 0 < n := by have := List.length_pos_iff.2 hne; omega
  have hwx : hexW b = hexT b := by unfold hexW; rw [if_neg hne]
  rw [hwx]
  have hxl := hexT_len b
  conv => whnf
  refine ⟨trivial, OpAt.range (bs (hexT b)) rfl rfl rfl rfl fun it => ?_⟩
  conv => whnf
  refine ⟨trivial, LoopAt.heap (α := Nat × Option Addr × Nat) [1, 20] (fun a => [(5, .v (.int .i64 (halfV b a.1)))]) (fun a => [rowH (.slice a.2.1 (a.1 / 2) a.2.2) (a.1 / 2) 5 1 (byV (b.take (a.1 / 2))), itH it (bs (hexT b)) a.1, blkH ob tb (putC cs k (.slice a.2.1 (a.1 / 2) a.2.2)), lnH lb (ws ++ [hexT b])]) (fun a => a.1 ≤ 2 * n) (fun a => 2 * n - a.1) (0, none, 0) (Nat.zero_le _) rfl ⟨⟨rfl, rfl⟩, trivial⟩ ⟨⟨rfl, rfl⟩, ⟨rfl, rfl⟩, trivial⟩ trivial (fun h s => sub_same (row_nil _ _ s)) ?_⟩
  rintro ⟨p, D, cd⟩ hi
  simp only at hi
  conv => whnf
  by_cases hlt : p < 2 * n
  · have hat := hexT_at (b := b) (p := p) (by omega)
    have hsz : p < (bs (hexT b)).size := by rw [bs_size]; omega
    have hq : p / 2 < b.length := by omega
    have hbq : (b[p / 2]?).getD 0 = b[p / 2] := by simp [hq]
    have hz := (b[p / 2]).toNat_lt
    rw [hbq] at hat
    have htk : byV (b.take (p / 2 + 1)) = byV (b.take (p / 2)) ++ [.int .u8 (b[p / 2].toNat : Int)] := by
      rw [List.take_succ_eq_append_getElem hq]
      unfold byV
      rw [List.map_append]
      rfl
    by_cases hpar : p % 2 = 0
    · have hv : halfV b p = -1 := by unfold halfV; rw [if_pos hpar]
      have hv2 : halfV b (p + 1) = ((b[p / 2].toNat / 16 : Nat) : Int) := by unfold halfV; rw [if_neg (by omega), show (p + 1) / 2 = p / 2 by omega, hbq]
      have e1 : (p + 1) / 2 = p / 2 := by omega
      rw [if_pos hpar] at hat
      have hy : (hexT b)[p]'(by omega) = hexd (b[p / 2].toNat / 16) := by
        rw [List.getElem?_eq_getElem (by omega)] at hat
        exact Option.some.inj hat
      generalize b[p / 2] = z at *
      have h128 := (idx16 ⟨z.toNat / 16, by omega⟩).2
      refine ⟨trivial, OpAt.next it (bs (hexT b)) p _ rfl (fun h s => sepL_pull 1 s) rfl rfl hsz ?_⟩
      rw [decode_ascii (bs (hexT b)) p hsz (by rw [bs_get, hy]; exact h128), bs_get, hy]
      conv => whnf
      refine iff_t rfl ?_
      conv => whnf
      refine ⟨trivial, CallAt.pure (fun R' hR' => sIndexRune (z.toNat / 16) (by omega)) ?_⟩
      conv => whnf
      refine iff_f (decide_eq_false (by omega)) ?_
      conv => whnf
      refine iff_t (by rw [hv]; decide) ?_
      conv => whnf
      refine ⟨trivial, Next.heap (p + 1, D, cd) (by simp only; omega) (by simp only; omega) ⟨⟨congrArg (fun x => some (SV.v (Value.int .i64 x))) hv2.symm, rfl⟩, trivial⟩ ⟨⟨rfl, rfl⟩, ⟨rfl, rfl⟩, trivial⟩ trivial rfl rfl fun h s => sub_same ?_⟩
      rw [e1]
      exact sepL_perm (List.Perm.swap _ _ _) s
    · have hv : halfV b p = ((b[p / 2].toNat / 16 : Nat) : Int) := by unfold halfV; rw [if_neg hpar, hbq]
      have hv2 : halfV b (p + 1) = -1 := by unfold halfV; rw [if_pos (by omega)]
      have e1 : (p + 1) / 2 = p / 2 + 1 := by omega
      rw [if_neg hpar] at hat
      have hy : (hexT b)[p]'(by omega) = hexd (b[p / 2].toNat % 16) := by
        rw [List.getElem?_eq_getElem (by omega)] at hat
        exact Option.some.inj hat
      generalize b[p / 2] = z at *
      have h128 := (idx16 ⟨z.toNat % 16, by omega⟩).2
      generalize byV (b.take (p / 2)) = us at *
      refine ⟨trivial, OpAt.next it (bs (hexT b)) p _ rfl (fun h s => sepL_pull 1 s) rfl rfl hsz ?_⟩
      rw [decode_ascii (bs (hexT b)) p hsz (by rw [bs_get, hy]; exact h128), bs_get, hy]
      conv => whnf
      refine iff_t rfl ?_
      conv => whnf
      refine ⟨trivial, CallAt.pure (fun R' hR' => sIndexRune (z.toNat % 16) (by omega)) ?_⟩
      conv => whnf
      refine iff_f (decide_eq_false (by omega)) ?_
      conv => whnf
      refine iff_f (by rw [hv]; exact decide_eq_false (by omega)) ?_
      conv => whnf
      refine ⟨trivial, LoadAt.cell (.slice D (p / 2) cd) rfl rfl (fun w hw => blk_cell (hw.in_ 2 rfl) (putC_get hks)) ?_⟩
      conv => whnf
      refine ⟨⟨trivial, by decide, ?_⟩, OpAt.lit [.int .u8 (z.toNat : Int)] 1 rfl rfl rfl rfl rfl (by decide) rfl rfl ?_ (by simp [Value.cells]) rfl (by decide) fun g => ?_⟩
      · show rng .i64 (halfV b p * 16)
        rw [hv]
        unfold rng
        omega
      · show [Value.int .u8 (z.toNat : Int)] = [Value.int .u8 (IntKind.u8.wrap (bits .or .i64 (halfV b p * 2 ^ Int.toNat 4) ((z.toNat % 16 : Nat) : Int)))]
        rw [hv]
        have h4 := orHL ⟨z.toNat, hz⟩
        simp only at h4
        rw [h4]
      conv => whnf
      refine ⟨trivial, OpAt.append (.slice D (p / 2) cd) (p / 2) 1 1 us [.int .u8 (z.toNat : Int)] (some ⟨g, 0, none⟩) 1 1 _ rfl (fun h s => sepL_pull 2 s) rfl rfl rfl rfl rfl rfl rfl rfl rfl (by decide) (fun w hw => rowH_reads rfl (hw.in_ 0 rfl)) (by simp [Value.oneCell']) (by simp only [maxLen]; omega) (by omega) fun D' cd' => ?_⟩
      conv => whnf
      refine ⟨trivial, OpAt.store (A' := blkH ob tb (putC cs k (.slice D' (p / 2 + 1) cd'))) ob k (.slice D' (p / 2 + 1) cd') _ rfl (fun h s => sepL_pull 3 s) rfl rfl rfl rfl rfl (by simp [Value.cells, Value.oneCell']) (fun h r => ?_) ?_⟩
      · have hb := blk_put (off := k) (ys := [.slice D' (p / 2 + 1) cd']) (show k + 1 ≤ _ by rw [putC_size hks]; omega) r
        rw [show (putL (putC cs k (.slice D (p / 2) cd)).toList k [.slice D' (p / 2 + 1) cd']).toArray = putC cs k (.slice D' (p / 2 + 1) cd') from congrArg List.toArray (putL_again (by simpa using hks))] at hb
        exact hb
      conv => whnf
      refine ⟨trivial, Next.heap (p + 1, D', cd') (by simp only; omega) (by simp only; omega) ⟨⟨congrArg (fun x => some (SV.v (Value.int .i64 x))) hv2.symm, rfl⟩, trivial⟩ ⟨⟨rfl, rfl⟩, ⟨rfl, rfl⟩, trivial⟩ trivial rfl rfl fun h s => ?_⟩
      obtain ⟨h', e, s'⟩ := sub_tail (sepL_pull 2 s)
      refine ⟨h', e, ?_⟩
      show sepL [rowH (.slice D' ((p + 1) / 2) cd') ((p + 1) / 2) 5 1 (byV (b.take ((p + 1) / 2))), itH it (bs (hexT b)) (p + 1), blkH ob tb (putC cs k (.slice D' ((p + 1) / 2) cd')), lnH lb (ws ++ [hexT b])] R h'
      rw [e1, htk]
      exact sepL_perm (List.Perm.trans (List.Perm.swap _ _ _) ((List.Perm.swap _ _ _).cons _)) s'
  · have hpe : p = 2 * n := by omega
    have e1 : p / 2 = n := by omega
    refine ⟨trivial, OpAt.nextEnd it (bs (hexT b)) p _ rfl (fun h s => sepL_pull 1 s) rfl rfl (by rw [bs_size]; omega) ?_⟩
    have hv0 : halfV b p = -1 := by unfold halfV; rw [if_pos (by omega)]
    conv => whnf
    refine iff_f rfl ?_
    conv => whnf
    refine ⟨fun h => ?_, fun h => ?_⟩
    rotate_left
    · exfalso
      rw [hv0] at h
      exact absurd h (by decide)
    conv => whnf
    refine ⟨trivial, LoadAt.cell (.slice D (p / 2) cd) rfl rfl (fun w hw => blk_cell (hw.in_ 2 rfl) (putC_get hks)) ?_⟩
    conv => whnf
    refine iff_f (decide_eq_false (by omega)) ?_
    conv => whnf
    refine ⟨trivial, .mk [lnH lb (ws ++ [hexT b]), blkH ob tb (putC cs k (.slice D (p / 2) cd))] (fun w ⟨h, hs, s⟩ => ?_) ⟨rfl, _, rfl⟩⟩
    have s1 : sepL [blkH ob tb (putC cs k (.slice D (p / 2) cd)), rowH (.slice D (p / 2) cd) (p / 2) 5 1 (byV (b.take (p / 2))), itH it (bs (hexT b)) p, lnH lb (ws ++ [hexT b])] R h := sepL_pull 2 s
    have s2 : sepL [lnH lb (ws ++ [hexT b]), blkH ob tb (putC cs k (.slice D (p / 2) cd)), rowH (.slice D (p / 2) cd) (p / 2) 5 1 (byV (b.take (p / 2))), itH it (bs (hexT b)) p] R h := sepL_pull 3 s1
    obtain ⟨h', e, s'⟩ := sub_front (m := [lnH lb (ws ++ [hexT b]), blkH ob tb (putC cs k (.slice D (p / 2) cd))]) (r := [rowH (.slice D (p / 2) cd) (p / 2) 5 1 (byV (b.take (p / 2))), itH it (bs (hexT b)) p]) s2
    exact ⟨h', hs.mono e, s'⟩
end Go.Proofs.YtihkhomnhggifaaGreatDoor

/-
  script: bytes taken.
-/
namespace Go.Proofs.YtihkhomnhggifaaGreatDoor
open Go.RowKit
open Sy
set_option linter.unusedVariables false
set_option linter.unusedSimpArgs false
set_option maxRecDepth 100000
set_option maxHeartbeats 4000000

theorem sBytesT {R : HP} {lb b0 off m0 c0 k0 ob : Nat} {tb : TypeId} {cs : Array Value} {n : Nat} {ws : List (List UInt8)} (k : Nat) (b : List UInt8) (hk : cs[k]? = some (.slice none 0 0)) (hl : b.length = n) (hn : n ≤ 40000) (hz : ws[k0]? = some (hexW b)) (hn0 : ws.length = m0) (hm0 : m0 ≤ 1000000) (hc0 : m0 ≤ c0) (ha0 : WordsAt R b0 off ws) :
    FnR Tryz.prog R 35 [.pointer (some ⟨lb, 0, none⟩), .pointer (some ⟨ob, k, none⟩)] [tkH lb b0 off m0 c0 k0, blkH ob tb cs] fun r hs => r = .tuple #[] ∧ ∃ D cd, hs = [tkH lb b0 off m0 c0 (k0 + 1), blkH ob tb (putC cs k (.slice D n cd)), rowH (.slice D n cd) n 5 1 (byV b)] := by
  have hks := (Array.getElem?_eq_some_iff.1 hk).1
  have hh := fun R' (h : ∀ w, Sat R' w → Sat R w) => sHex (R := R') (A := none) (n := 0) (c := 0) [] rfl (by decide) (Sl.nil _ _ _)
  refine fn_of_run0 false Tryz.func35 rfl hmix rfl fun w0 => ?_
  conv => whnf
  refine ⟨trivial, LoadAt.cell (.slice none 0 0) rfl rfl (fun w hw => blk_cell (hw.in_ 1 rfl) hk) ?_⟩
  conv => whnf
  refine ⟨trivial, CallAt.pure (fun R' hR' => hh R' fun w s => Sat.rest (hR' w s)) ?_⟩
  conv => whnf
  refine ⟨trivial, CallAt.fn (pre := [tkH lb b0 off m0 c0 k0]) _ (fun h s => s) (fun R' hR' => sWordT (bs (hexW [])) hz hn0 hm0 hc0 (ha0.mono fun w s => Sat.rest (hR' w s))) ?_⟩
  rintro r hs ⟨rfl, rfl⟩
  conv => whnf
  refine ⟨trivial, OpAt.store (A' := blkH ob tb (putC cs k (.slice none 0 0))) ob k (.slice none 0 0) _ rfl (fun h s => sepL_pull 1 s) rfl rfl rfl rfl rfl (by simp [Value.cells, Value.oneCell']) (fun h r => blk_put (by simp [Value.cells]; omega) r) ?_⟩
  conv => whnf
  refine ⟨fun h => ?_, fun h => ?_⟩
  · have hnil : b = [] := by
      have h := bs_inj.1 (show bs (hexW b) = bs [45] from of_decide_eq_true h)
      by_cases c : b = []
      · exact c
      · exfalso
        unfold hexW at h
        rw [if_neg c] at h
        have h2 := congrArg List.length h
        rw [hexT_len] at h2
        simp at h2
        omega
    have hn00 : n = 0 := by rw [← hl, hnil]; rfl
    subst hnil hn00
    conv => whnf
    exact ⟨trivial, .mk [tkH lb b0 off m0 c0 (k0 + 1), blkH ob tb (putC cs k (.slice none 0 0)), rowH (.slice none 0 0) 0 5 1 []] (fun w ⟨h, hs, s⟩ => ⟨h, hs, sepL_perm (List.Perm.swap _ _ _) (sepL_perm ((List.Perm.swap _ _ _).cons _) (sepL_perm (List.Perm.swap _ _ _) (row_nil _ _ s)))⟩) ⟨rfl, none, 0, rfl⟩⟩
  have hne : b ≠ [] := by
    rintro rfl
    exact absurd h (by decide)
  have hp : 0 < n := by have := List.length_pos_iff.2 hne; omega
  have hwx : hexW b = hexT b := by unfold hexW; rw [if_neg hne]
  rw [hwx] at hz ⊢
  have hxl := hexT_len b
  conv => whnf
  refine ⟨trivial, OpAt.range (bs (hexT b)) rfl rfl rfl rfl fun it => ?_⟩
  conv => whnf
  refine ⟨trivial, LoopAt.heap (α := Nat × Option Addr × Nat) [1, 20] (fun a => [(5, .v (.int .i64 (halfV b a.1)))]) (fun a => [rowH (.slice a.2.1 (a.1 / 2) a.2.2) (a.1 / 2) 5 1 (byV (b.take (a.1 / 2))), itH it (bs (hexT b)) a.1, blkH ob tb (putC cs k (.slice a.2.1 (a.1 / 2) a.2.2)), tkH lb b0 off m0 c0 (k0 + 1)]) (fun a => a.1 ≤ 2 * n) (fun a => 2 * n - a.1) (0, none, 0) (Nat.zero_le _) rfl ⟨⟨rfl, rfl⟩, trivial⟩ ⟨⟨rfl, rfl⟩, ⟨rfl, rfl⟩, trivial⟩ trivial (fun h s => sub_same (row_nil _ _ s)) ?_⟩
  rintro ⟨p, D, cd⟩ hi
  simp only at hi
  conv => whnf
  by_cases hlt : p < 2 * n
  · have hat := hexT_at (b := b) (p := p) (by omega)
    have hsz : p < (bs (hexT b)).size := by rw [bs_size]; omega
    have hq : p / 2 < b.length := by omega
    have hbq : (b[p / 2]?).getD 0 = b[p / 2] := by simp [hq]
    have hz := (b[p / 2]).toNat_lt
    rw [hbq] at hat
    have htk : byV (b.take (p / 2 + 1)) = byV (b.take (p / 2)) ++ [.int .u8 (b[p / 2].toNat : Int)] := by
      rw [List.take_succ_eq_append_getElem hq]
      unfold byV
      rw [List.map_append]
      rfl
    by_cases hpar : p % 2 = 0
    · have hv : halfV b p = -1 := by unfold halfV; rw [if_pos hpar]
      have hv2 : halfV b (p + 1) = ((b[p / 2].toNat / 16 : Nat) : Int) := by unfold halfV; rw [if_neg (by omega), show (p + 1) / 2 = p / 2 by omega, hbq]
      have e1 : (p + 1) / 2 = p / 2 := by omega
      rw [if_pos hpar] at hat
      have hy : (hexT b)[p]'(by omega) = hexd (b[p / 2].toNat / 16) := by
        rw [List.getElem?_eq_getElem (by omega)] at hat
        exact Option.some.inj hat
      generalize b[p / 2] = z at *
      have h128 := (idx16 ⟨z.toNat / 16, by omega⟩).2
      refine ⟨trivial, OpAt.next it (bs (hexT b)) p _ rfl (fun h s => sepL_pull 1 s) rfl rfl hsz ?_⟩
      rw [decode_ascii (bs (hexT b)) p hsz (by rw [bs_get, hy]; exact h128), bs_get, hy]
      conv => whnf
      refine iff_t rfl ?_
      conv => whnf
      refine ⟨trivial, CallAt.pure (fun R' hR' => sIndexRune (z.toNat / 16) (by omega)) ?_⟩
      conv => whnf
      refine iff_f (decide_eq_false (by omega)) ?_
      conv => whnf
      refine iff_t (by rw [hv]; decide) ?_
      conv => whnf
      refine ⟨trivial, Next.heap (p + 1, D, cd) (by simp only; omega) (by simp only; omega) ⟨⟨congrArg (fun x => some (SV.v (Value.int .i64 x))) hv2.symm, rfl⟩, trivial⟩ ⟨⟨rfl, rfl⟩, ⟨rfl, rfl⟩, trivial⟩ trivial rfl rfl fun h s => sub_same ?_⟩
      rw [e1]
      exact sepL_perm (List.Perm.swap _ _ _) s
    · have hv : halfV b p = ((b[p / 2].toNat / 16 : Nat) : Int) := by unfold halfV; rw [if_neg hpar, hbq]
      have hv2 : halfV b (p + 1) = -1 := by unfold halfV; rw [if_pos (by omega)]
      have e1 : (p + 1) / 2 = p / 2 + 1 := by omega
      rw [if_neg hpar] at hat
      have hy : (hexT b)[p]'(by omega) = hexd (b[p / 2].toNat % 16) := by
        rw [List.getElem?_eq_getElem (by omega)] at hat
        exact Option.some.inj hat
      generalize b[p / 2] = z at *
      have h128 := (idx16 ⟨z.toNat % 16, by omega⟩).2
      generalize byV (b.take (p / 2)) = us at *
      refine ⟨trivial, OpAt.next it (bs (hexT b)) p _ rfl (fun h s => sepL_pull 1 s) rfl rfl hsz ?_⟩
      rw [decode_ascii (bs (hexT b)) p hsz (by rw [bs_get, hy]; exact h128), bs_get, hy]
      conv => whnf
      refine iff_t rfl ?_
      conv => whnf
      refine ⟨trivial, CallAt.pure (fun R' hR' => sIndexRune (z.toNat % 16) (by omega)) ?_⟩
      conv => whnf
      refine iff_f (decide_eq_false (by omega)) ?_
      conv => whnf
      refine iff_f (by rw [hv]; exact decide_eq_false (by omega)) ?_
      conv => whnf
      refine ⟨trivial, LoadAt.cell (.slice D (p / 2) cd) rfl rfl (fun w hw => blk_cell (hw.in_ 2 rfl) (putC_get hks)) ?_⟩
      conv => whnf
      refine ⟨⟨trivial, by decide, ?_⟩, OpAt.lit [.int .u8 (z.toNat : Int)] 1 rfl rfl rfl rfl rfl (by decide) rfl rfl ?_ (by simp [Value.cells]) rfl (by decide) fun g => ?_⟩
      · show rng .i64 (halfV b p * 16)
        rw [hv]
        unfold rng
        omega
      · show [Value.int .u8 (z.toNat : Int)] = [Value.int .u8 (IntKind.u8.wrap (bits .or .i64 (halfV b p * 2 ^ Int.toNat 4) ((z.toNat % 16 : Nat) : Int)))]
        rw [hv]
        have h4 := orHL ⟨z.toNat, hz⟩
        simp only at h4
        rw [h4]
      conv => whnf
      refine ⟨trivial, OpAt.append (.slice D (p / 2) cd) (p / 2) 1 1 us [.int .u8 (z.toNat : Int)] (some ⟨g, 0, none⟩) 1 1 _ rfl (fun h s => sepL_pull 2 s) rfl rfl rfl rfl rfl rfl rfl rfl rfl (by decide) (fun w hw => rowH_reads rfl (hw.in_ 0 rfl)) (by simp [Value.oneCell']) (by simp only [maxLen]; omega) (by omega) fun D' cd' => ?_⟩
      conv => whnf
      refine ⟨trivial, OpAt.store (A' := blkH ob tb (putC cs k (.slice D' (p / 2 + 1) cd'))) ob k (.slice D' (p / 2 + 1) cd') _ rfl (fun h s => sepL_pull 3 s) rfl rfl rfl rfl rfl (by simp [Value.cells, Value.oneCell']) (fun h r => ?_) ?_⟩
      · have hb := blk_put (off := k) (ys := [.slice D' (p / 2 + 1) cd']) (show k + 1 ≤ _ by rw [putC_size hks]; omega) r
        rw [show (putL (putC cs k (.slice D (p / 2) cd)).toList k [.slice D' (p / 2 + 1) cd']).toArray = putC cs k (.slice D' (p / 2 + 1) cd') from congrArg List.toArray (putL_again (by simpa using hks))] at hb
        exact hb
      conv => whnf
      refine ⟨trivial, Next.heap (p + 1, D', cd') (by simp only; omega) (by simp only; omega) ⟨⟨congrArg (fun x => some (SV.v (Value.int .i64 x))) hv2.symm, rfl⟩, trivial⟩ ⟨⟨rfl, rfl⟩, ⟨rfl, rfl⟩, trivial⟩ trivial rfl rfl fun h s => ?_⟩
      obtain ⟨h', e, s'⟩ := sub_tail (sepL_pull 2 s)
      refine ⟨h', e, ?_⟩
      show sepL [rowH (.slice D' ((p + 1) / 2) cd') ((p + 1) / 2) 5 1 (byV (b.take ((p + 1) / 2))), itH it (bs (hexT b)) (p + 1), blkH ob tb (putC cs k (.slice D' ((p + 1) / 2) cd')), tkH lb b0 off m0 c0 (k0 + 1)] R h'
      rw [e1, htk]
      exact sepL_perm (List.Perm.trans (List.Perm.swap _ _ _) ((List.Perm.swap _ _ _).cons _)) s'
  · have hpe : p = 2 * n := by omega
    have e1 : p / 2 = n := by omega
    refine ⟨trivial, OpAt.nextEnd it (bs (hexT b)) p _ rfl (fun h s => sepL_pull 1 s) rfl rfl (by rw [bs_size]; omega) ?_⟩
    have hv0 : halfV b p = -1 := by unfold halfV; rw [if_pos (by omega)]
    conv => whnf
    refine iff_f rfl ?_
    conv => whnf
    refine ⟨fun h => ?_, fun h => ?_⟩
    rotate_left
    · exfalso
      rw [hv0] at h
      exact absurd h (by decide)
    conv => whnf
    refine ⟨trivial, LoadAt.cell (.slice D (p / 2) cd) rfl rfl (fun w hw => blk_cell (hw.in_ 2 rfl) (putC_get hks)) ?_⟩
    conv => whnf
    refine iff_f (decide_eq_false (by omega)) ?_
    conv => whnf
    have htl : byV (b.take (p / 2)) = byV b := by rw [List.take_of_length_le (by omega)]
    rw [htl, e1]
    refine ⟨trivial, .mk [tkH lb b0 off m0 c0 (k0 + 1), blkH ob tb (putC cs k (.slice D n cd)), rowH (.slice D n cd) n 5 1 (byV b)] (fun w ⟨h, hs, s⟩ => ?_) ⟨rfl, D, cd, rfl⟩⟩
    have s1 : sepL [blkH ob tb (putC cs k (.slice D n cd)), rowH (.slice D n cd) n 5 1 (byV b), itH it (bs (hexT b)) p, tkH lb b0 off m0 c0 (k0 + 1)] R h := sepL_pull 2 s
    have s2 : sepL [tkH lb b0 off m0 c0 (k0 + 1), blkH ob tb (putC cs k (.slice D n cd)), rowH (.slice D n cd) n 5 1 (byV b), itH it (bs (hexT b)) p] R h := sepL_pull 3 s1
    obtain ⟨h', e, s'⟩ := sub_front (m := [tkH lb b0 off m0 c0 (k0 + 1), blkH ob tb (putC cs k (.slice D n cd)), rowH (.slice D n cd) n 5 1 (byV b)]) (r := [itH it (bs (hexT b)) p]) s2
    exact ⟨h', hs.mono e, s'⟩
end Go.Proofs.YtihkhomnhggifaaGreatDoor

