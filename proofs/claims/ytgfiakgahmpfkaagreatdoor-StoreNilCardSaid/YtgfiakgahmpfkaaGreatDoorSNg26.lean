/-
  Texts of the proofs, one behind the other: FiM, FiN, FiO.
-/
import Derived.Test.YtgfiakgahmpfkaaGreatDoorSNg24
import Derived.Test.YtgfiakgahmpfkaaGreatDoorSNg25
import Derived.Test.YtgfiakgahmpfkaaGreatDoorSNg12
namespace Go.Proofs.YtgfiakgahmpfkaaGreatDoor
open Go.RowKit
open Sy
set_option linter.unusedVariables false
set_option linter.unusedSimpArgs false
set_option maxRecDepth 100000
set_option maxHeartbeats 4000000

/-- a file's bytes -/
def loadR (b : List UInt8) : Option (Nat × Nat × List Int × List Nat) := if (openB b).2 ≠ 0 then none else loadIn (openB b).1
theorem FnR.wit {P : Program} {R : HP} {f : FuncId} {args : List Value} {pre : List HP} {p q : Value → List HP → Prop} (h : FnR P R f args pre p) (hq : ∀ v hs w, p v hs → Sat (sepL hs R) w → q v hs) : FnR P R f args pre q := by
  intro w s
  refine (h w s).mono ?_
  rintro e w' ⟨v, hs, rfl, hv, s', hw⟩
  exact ⟨v, hs, rfl, hq v hs w' hv s', s', hw⟩
theorem row_some {B : Option Addr} {n c size : Nat} {e : TypeId} {xs : List Value} {l : List HP} {R : HP} {w : World} (s : Sat (sepL (rowH (.slice B n c) n e size xs :: l) R) w) (hn : 0 < n) : ∃ g, B = some ⟨g, 0, none⟩ := by
  obtain ⟨h, _, h1, h2, _, _, hr, _⟩ := s
  rcases hr.2 with ⟨_, h2, _⟩ | ⟨g, cap, cur, h3, _⟩
  · omega
  · injection h3 with h3
    exact ⟨g, h3⟩
theorem entsR_in (b : List UInt8) : ∀ (m i a : Nat), ∀ x ∈ (entsR b m i a).1, x.1 < 4294967296 ∧ x.2 ≤ 1048576
  | 0, i, a, x, h => by simp [entsR] at h
  | m + 1, i, a, x, h => by
    rw [entsR] at h
    split at h
    · simp at h
    rename_i h1
    split at h
    · simp at h
    rcases List.mem_cons.1 h with rfl | h
    · have := wireN_lt b (13 + 8 * i) 4
      simp only
      omega
    · exact entsR_in b m _ _ x h
theorem dirR_ok {b : List UInt8} (h : (dirR b).2 = 0) : 1 ≤ (dirR b).1.1 ∧ (dirR b).1.1 ≤ 1024 ∧ 1 ≤ (dirR b).1.2.1 ∧ (dirR b).1.2.1 ≤ 1024 ∧ (dirR b).1.2.2.length = tilesN (dirR b).1.1 (dirR b).1.2.1 ∧ ∀ x ∈ (dirR b).1.2.2, x.1 < 4294967296 ∧ x.2 ≤ 1048576 := by
  unfold dirR at h ⊢
  by_cases c1 : b.length < 13
  · rw [if_pos c1] at h; cases h
  rw [if_neg c1] at h ⊢
  by_cases c2 : b.take 5 ≠ [72, 65, 67, 72, 1]
  · rw [if_pos c2] at h; cases h
  rw [if_neg c2] at h ⊢
  by_cases c3 : 1024 < wireN b 5 2 + 1 ∨ 1024 < wireN b 7 2 + 1
  · rw [if_pos c3] at h; cases h
  rw [if_neg c3] at h ⊢
  by_cases c4 : wireN b 9 4 ≠ tilesN (wireN b 5 2 + 1) (wireN b 7 2 + 1)
  · rw [if_pos c4] at h; cases h
  rw [if_neg c4] at h ⊢
  by_cases c5 : b.length < 13 + 8 * tilesN (wireN b 5 2 + 1) (wireN b 7 2 + 1)
  · rw [if_pos c5] at h; cases h
  rw [if_neg c5] at h ⊢
  by_cases c6 : (entsR b (tilesN (wireN b 5 2 + 1) (wireN b 7 2 + 1)) 0 (13 + 8 * tilesN (wireN b 5 2 + 1) (wireN b 7 2 + 1))).2 ≠ 0
  · rw [if_pos c6] at h; cases h
  rw [if_neg c6]
  simp only
  exact ⟨by omega, by omega, by omega, by omega, entsR_len _ _ _ _ (Decidable.not_not.1 c6), entsR_in _ _ _ _⟩
theorem tileR_ok {b : List UInt8} {w h : Nat} (e : (tileR b w h).2.2 = 0) : (tileR b w h).1.length = w * h ∧ (∀ v ∈ (tileR b w h).1, MayV v) ∧ (tileR b w h).2.1 ≤ 2 := by
  cases b with
  | nil => cases e
  | cons c r =>
    unfold tileR at e ⊢
    simp only at e ⊢
    by_cases c1 : 2 < c.toNat
    · rw [if_pos c1] at e; cases e
    rw [if_neg c1] at e ⊢
    by_cases c2 : (runsR (c :: r) (w * h) (w * h) 1 false).2.2 ≠ 0
    · rw [if_pos c2] at e; exact absurd e c2
    rw [if_neg c2] at e ⊢
    by_cases c3 : (runsR (c :: r) (w * h) (w * h) 1 false).2.1 < (c :: r).length
    · rw [if_pos c3] at e; cases e
    rw [if_neg c3] at e ⊢
    by_cases c4 : (cellsR c.toNat w (runsR (c :: r) (w * h) (w * h) 1 false).1 []).2 ≠ 0
    · rw [if_pos c4] at e; exact absurd e c4
    rw [if_neg c4]
    simp only
    have h1 := runsR_len (c :: r) (w * h) (w * h) 1 false (Nat.le_refl _) (Decidable.not_not.1 c2)
    have h2 := cellsR_in (kind := c.toNat) (w := w) (runsR (c :: r) (w * h) (w * h) 1 false).1 [] (by simp) (Decidable.not_not.1 c4)
    exact ⟨by rw [h2.1, h1]; simp, h2.2, by omega⟩
theorem pasteL_len {W H : Nat} {t : Nat × Nat × Nat × Nat} {c l : List Int} : (pasteL W H t c l).length = W * H := by rw [pasteL, vRows_len, Nat.mul_comm]
theorem openB_len {b : List UInt8} : (openB b).1.length ≤ b.length := by
  unfold openB
  split
  · simp
  split
  · simp
  · simp
theorem sOpen03 {R : HP} {A : Option Addr} {n c : Nat} {b : List UInt8} (ha : Sl R A n 1 (byts b)) (hl : b.length = n) (hnc : n ≤ c) (hc : c ≤ 9223372036854775807) (hn : n ≤ 35184372088832) :
    PureR Tryz.prog R 27 [.slice A n c] (openV A c (openB b)) :=
  PureR.of_below fun w s => rOpenR A n c b w (ha w s) hnc hc hn
theorem open_sl {R : HP} {A : Option Addr} {n : Nat} {b : List UInt8} (ha : Sl R A n 1 (byts b)) (hl : b.length = n) (h : (openB b).2 = 0) : Sl R A (openB b).1.length 1 (byts (openB b).1) := fun w s => by
  unfold openB at h ⊢
  split
  · rename_i c1; rw [if_pos c1] at h; cases h
  rename_i c1
  rw [if_neg c1] at h
  split
  · have := Reads.take (ha w s) (show b.length - 4 ≤ n by omega)
    rw [Nat.mul_one, byts_take] at this
    rwa [List.length_take, show min (b.length - 4) b.length = b.length - 4 by omega]
  · rename_i c2; rw [if_neg c2] at h; cases h
def PostD2 (q : (Nat × Nat × List (Nat × Nat)) × Nat) (r : Value) (hs : List HP) : Prop :=
  (q.2 ≠ 0 ∧ r = .tuple #[.int .i64 0, .int .i64 0, .slice none 0 0, .int .i64 (q.2 : Int)] ∧ hs = []) ∨
  (q.2 = 0 ∧ ∃ B c, r = .tuple #[.int .i64 (q.1.1 : Int), .int .i64 (q.1.2.1 : Int), .slice (some ⟨B, 0, none⟩) q.1.2.2.length c, .int .i64 0] ∧ hs = [rowH (.slice (some ⟨B, 0, none⟩) q.1.2.2.length c) q.1.2.2.length 95 2 (encE q.1.2.2)])
theorem tilesN_pos {W H : Nat} (hW : 1 ≤ W) (hH : 1 ≤ H) : 0 < tilesN W H := Nat.mul_pos (by omega) (by omega)
theorem sDirGet2 {R : HP} {A : Option Addr} {n c : Nat} {b : List UInt8} (ha : Sl R A n 1 (byts b)) (hl : b.length = n) (hnc : n ≤ c) (hc : c ≤ 9223372036854775807) (hn : n ≤ 140737488351232) :
    FnR Tryz.prog R 28 [.slice A n c] [] (PostD2 (dirR b)) := by
  refine FnR.wit (sDirGet ha hl hnc hc hn) ?_
  rintro v hs w (h | ⟨h0, B, d, rfl, rfl⟩) s
  · exact .inl h
  · obtain ⟨o1, o2, o3, o4, o5, o6⟩ := dirR_ok h0
    obtain ⟨g, rfl⟩ := row_some s (by rw [o5]; exact tilesN_pos o1 o3)
    exact .inr ⟨h0, g, d, rfl, rfl⟩
theorem sTiles2 {R : HP} (W H : Nat) (A : Option Addr) (n c : Nat) (hW0 : 1 ≤ W) (hW : W ≤ 1024) (hH0 : 1 ≤ H) (hH : H ≤ 1024) :
    FnR Tryz.prog R 30 [modV W H A n c] [] fun r hs => ∃ B c, r = .slice (some ⟨B, 0, none⟩) (tlAll W H).length c ∧ hs = [rowH (.slice (some ⟨B, 0, none⟩) (tlAll W H).length c) (tlAll W H).length 23 4 (encT (tlAll W H))] := by
  refine FnR.wit (sTiles09 W H A n c hW0 hW hH0 hH) ?_
  rintro v hs w ⟨B, d, rfl, rfl⟩ s
  obtain ⟨g, rfl⟩ := row_some s (by rw [tlAll_len]; exact tilesN_pos hW0 hH0)
  exact ⟨g, d, rfl, rfl⟩
theorem encE_at {l : List (Nat × Nat)} {i : Nat} {x : Nat × Nat} (h : l[i]? = some x) : (encE l)[i * 2]? = some (.int .i64 (x.1 : Int)) ∧ (encE l)[i * 2 + 1]? = some (.int .i64 (x.2 : Int)) := by
  induction l generalizing i with
  | nil => simp at h
  | cons y l ih =>
    cases i with
    | zero =>
      simp only [List.getElem?_cons_zero, Option.some.injEq] at h
      subst h
      exact ⟨rfl, rfl⟩
    | succ i =>
      simp only [List.getElem?_cons_succ] at h
      have := ih h
      rw [show (i + 1) * 2 = i * 2 + 2 by omega]
      exact this
theorem encT_at {l : List (Nat × Nat × Nat × Nat)} {i : Nat} {t : Nat × Nat × Nat × Nat} (h : l[i]? = some t) (j : Nat) (v : Value) (hj : ([Value.int .i64 (t.1 : Int), .int .i64 (t.2.1 : Int), .int .i64 (t.2.2.1 : Int), .int .i64 (t.2.2.2 : Int)] : List Value)[j]? = some v) : (encT l)[i * 4 + j]? = some v := by
  induction l generalizing i with
  | nil => simp at h
  | cons y l ih =>
    cases i with
    | zero =>
      simp only [List.getElem?_cons_zero, Option.some.injEq] at h
      subst h
      have hl : j < 4 := by
        have := (List.getElem?_eq_some_iff.1 hj).1
        simpa using this
      rw [Nat.zero_mul, Nat.zero_add]
      show ([Value.int .i64 (y.1 : Int), .int .i64 (y.2.1 : Int), .int .i64 (y.2.2.1 : Int), .int .i64 (y.2.2.2 : Int)] ++ encT l)[j]? = _
      rw [List.getElem?_append_left (by simpa using hl)]
      exact hj
    | succ i =>
      simp only [List.getElem?_cons_succ] at h
      have := ih h
      rw [show (i + 1) * 4 + j = (i * 4 + j) + 4 by omega]
      exact this

def ints2 (l : List Nat) : List Value := l.map fun (k : Nat) => Value.int .i64 (k : Int)
def PostL (q : Option (Nat × Nat × List Int × List Nat)) (r : Value) (hs : List HP) : Prop :=
  (q = none ∧ r = .tuple #[modV 0 0 none 0 0, .slice none 0 0, .bool false] ∧ hs = []) ∨
  (∃ W H l k B c B' c', q = some (W, H, l, k) ∧ l.length = W * H ∧ 1 ≤ W ∧ W ≤ 1024 ∧ 1 ≤ H ∧ H ≤ 1024 ∧ r = .tuple #[modV W H B (W * H) c, .slice B' k.length c', .bool true] ∧
    hs = [rowH (.slice B' k.length c') k.length 3 1 (ints2 k), rowH (.slice B (W * H) c) (W * H) 2 1 (ints l)])
/-- what a round knows -/
structure LdS where
  i : Nat
  l : List Int
  k : List Nat
  e : Nat
  Bm : Option Addr
  dm : Nat
  Bk : Option Addr
  dk : Nat
theorem dirR_13 {b : List UInt8} (h : (dirR b).2 = 0) : 13 ≤ b.length := by
  unfold dirR at h
  by_cases c1 : b.length < 13
  · rw [if_pos c1] at h; cases h
  · omega
theorem sLoad14 {R : HP} {A : Option Addr} {n c : Nat} {b : List UInt8} (ha : Sl R A n 1 (byts b)) (hl : b.length = n) (hnc : n ≤ c) (hc : c ≤ 9223372036854775807) (hn : n ≤ 35184372088832) :
    FnR Tryz.prog R 14 [.slice A n c] [] (PostL (loadR b)) := by
  obtain ⟨Q, hQ⟩ : ∃ Q, loadR b = Q := ⟨_, rfl⟩
  rw [hQ]
  unfold loadR at hQ
  have hop := fun R' (h : ∀ w, Sat R' w → Sat R w) => sOpen03 (R := R') (ha.mono h) hl hnc hc hn
  have hlen := openB_len (b := b)
  have hsl := open_sl ha hl
  unfold openV at hop
  refine FnR.of_sat fun wS hS => ?_
  refine fn_of_run0 false Tryz.func14 rfl hmix rfl fun w0 => ?_
  generalize openB b = O at *
  obtain ⟨inner, co⟩ := O
  simp only at hop hlen hsl hQ
  conv => whnf
  by_cases h1 : co ≠ 0
  · rw [if_pos h1] at hQ
    subst hQ
    simp only [if_neg h1] at hop
    refine ⟨trivial, CallAt.pure (fun R' hR' => hop R' (fun w s => sat_baseF (hR' w s))) ?_⟩
    conv => whnf
    repeat (first | (refine And.intro ?_ ?_; rotate_left; (focus (intro g; exfalso; first | (simp at g; done) | (simp at g; omega) | (revert g; decide))); intro _; conv => whnf) | (refine And.intro ?_ ?_; (focus (intro g; exfalso; first | (simp at g; done) | (simp at g; omega) | (revert g; decide))); intro _; conv => whnf))
    exact ⟨trivial, fin_dropP (.inl ⟨rfl, rfl, rfl⟩)⟩
  rw [if_neg h1] at hQ
  have h1 := Decidable.not_not.1 h1
  subst h1
  simp only [if_true] at hop
  have hsl := hsl rfl
  refine ⟨trivial, CallAt.pure (fun R' hR' => hop R' (fun w s => sat_baseF (hR' w s))) ?_⟩
  conv => whnf
  repeat (first | (refine And.intro ?_ ?_; rotate_left; (focus (intro g; exfalso; first | (simp at g; done) | (simp at g; omega) | (revert g; decide))); intro _; conv => whnf) | (refine And.intro ?_ ?_; (focus (intro g; exfalso; first | (simp at g; done) | (simp at g; omega) | (revert g; decide))); intro _; conv => whnf))
  clear hop
  refine ⟨trivial, CallAt.fn (pre := []) _ (fun h s => s) (fun R' hR' => sDirGet2 (R := R') (c := c) (hsl.mono fun w s => sat_baseF (hR' w s)) rfl (by omega) hc (by omega)) ?_⟩
  unfold loadIn at hQ
  have hok := dirR_ok (b := inner)
  have h13 := dirR_13 (b := inner)
  generalize dirR inner = D at *
  obtain ⟨⟨W, H, ents⟩, cd⟩ := D
  simp only at hQ hok h13
  rintro r hs (⟨hcd, rfl, rfl⟩ | ⟨hcd, BE, cE, rfl, rfl⟩)
  · simp only at hcd
    rw [if_pos hcd] at hQ
    subst hQ
    conv => whnf
    repeat (first | (refine And.intro ?_ ?_; rotate_left; (focus (intro g; exfalso; first | (simp at g; done) | (simp at g; omega) | (revert g; decide))); intro _; conv => whnf) | (refine And.intro ?_ ?_; (focus (intro g; exfalso; first | (simp at g; done) | (simp at g; omega) | (revert g; decide))); intro _; conv => whnf))
    exact ⟨trivial, fin_dropP (.inl ⟨rfl, rfl, rfl⟩)⟩
  simp only at hcd
  rw [if_neg (by omega)] at hQ
  obtain ⟨o1, o2, o3, o4, o5, o6⟩ := hok hcd
  have h13 := h13 hcd
  obtain ⟨_, spA⟩ := hsl.spot (by decide) (sat_baseF hS)
  rcases spA with spA | ⟨bA, offA, rfl, _⟩
  · omega

  have hT := tilesN_pos o1 o3
  have hT2 := tilesN_le o2 o4
  conv => whnf
  repeat (first | (refine And.intro ?_ ?_; rotate_left; (focus (intro g; exfalso; first | (simp at g; done) | (simp at g; omega) | (revert g; decide))); intro _; conv => whnf) | (refine And.intro ?_ ?_; (focus (intro g; exfalso; first | (simp at g; done) | (simp at g; omega) | (revert g; decide))); intro _; conv => whnf))
  refine ⟨trivial, CallAt.fn (pre := []) _ (fun h s => s) (fun R' hR' => sNew09 (R := R') W H 0 ⟨by decide, by decide⟩ o1 o2 o3 o4) ?_⟩
  rintro r hs ⟨BM, cM, rfl, rfl⟩
  conv => whnf
  refine ⟨trivial, CallAt.fn (pre := []) _ (fun h s => s) (fun R' hR' => sTiles2 (R := R') W H _ _ _ o1 o2 o3 o4) ?_⟩
  rintro r hs ⟨BT, cT, rfl, rfl⟩
  conv => whnf
  refine ⟨trivial, OpAt.lit [] 1 rfl rfl rfl rfl rfl (by decide) rfl rfl rfl (by simp) rfl (by decide) fun g => ?_⟩
  obtain ⟨tl, htl⟩ : ∃ tl, tlAll W H = tl := ⟨_, rfl⟩
  have htn : tl.length = tilesN W H := by rw [← htl, tlAll_len]
  have his : ∀ t ∈ tl, IsTl W H t := fun t ht => tlAll_is (htl ▸ ht)
  rw [htl] at hQ ⊢
  generalize tilesN W H = N at *
  obtain ⟨G, hG⟩ : ∃ G, loadGo inner W H tl ents (List.replicate (W * H) 0) [] 0 = G := ⟨_, rfl⟩
  rw [hG] at hQ
  conv => whnf
  refine ⟨trivial, LoopAt.of (α := LdS) [2, 5, 6, 10, 12, 14] (fun x => [(15, .v (.slice x.Bk x.i x.dk)), (16, .v (.int .i64 (x.e : Int))), (17, .v (.int .i64 (x.i : Int)))])
    (fun x => [(2, 53, [.v (.int .i64 (W : Int)), .v (.int .i64 (H : Int)), .v (.slice x.Bm (W * H) x.dm)]), (1, 53, [.v (.int .i64 0), .v (.int .i64 0), .v (.slice none 0 0)]), (0, 53, [.v (.int .i64 0), .v (.int .i64 0), .v (.slice none 0 0)])])
    (fun x => [rowH (.slice x.Bk x.i x.dk) x.i 3 1 (ints2 x.k), rowH (.slice (some ⟨BT, 0, none⟩) tl.length cT) tl.length 23 4 (encT tl), rowH (.slice x.Bm (W * H) x.dm) (W * H) 2 1 (ints x.l), rowH (.slice (some ⟨BE, 0, none⟩) ents.length cE) ents.length 95 2 (encE ents)])
    (fun x => x.i ≤ N ∧ x.k.length = x.i ∧ x.l.length = W * H ∧ x.e ≤ 8589934592 ∧ G = loadGo inner W H (tl.drop x.i) (ents.drop x.i) x.l x.k x.e) (fun x => N - x.i) ⟨0, List.replicate (W * H) 0, [], 0, BM, cM, some ⟨g, 0, none⟩, 0⟩
    ⟨Nat.zero_le _, rfl, by simp, Nat.zero_le _, hG.symm⟩ (Le.of (Nat.le_of_ble_eq_true rfl) (Nat.zero_le _) ⟨⟨rfl, rfl⟩, ⟨rfl, rfl⟩, ⟨rfl, rfl⟩, ⟨rfl, rfl⟩, ⟨rfl, rfl⟩, ⟨rfl, rfl⟩, ⟨rfl, rfl⟩, ⟨rfl, rfl⟩, ⟨rfl, rfl⟩, trivial⟩ ⟨⟨rfl, rfl, rfl, rfl⟩, ⟨rfl, rfl, rfl, rfl⟩, ⟨rfl, rfl, rfl, rfl⟩, trivial⟩ fun h s => sub_same s) ?_⟩
  rintro ⟨i, l, k, e, Bm, dm, Bk, dk⟩ ⟨i1, i2, i3, i4, i5⟩
  simp only at i1 i2 i3 i4 i5
  conv => whnf
  refine ⟨fun h => ?_, fun h => ?_⟩
  · have h : i < N := by simp at h; omega
    have ht : tl[i]? = some (tl[i]'(by omega)) := List.getElem?_eq_getElem (by omega)
    have hx : ents[i]? = some (ents[i]'(by omega)) := List.getElem?_eq_getElem (by omega)
    rw [List.drop_eq_getElem_cons (show i < tl.length by omega), List.drop_eq_getElem_cons (show i < ents.length by omega)] at i5
    have ht2 := his _ (List.getElem_mem (show i < tl.length by omega))
    have hx2 := o6 _ (List.getElem_mem (show i < ents.length by omega))
    generalize tl[i]'(by omega) = t at *
    generalize ents[i]'(by omega) = x at *
    obtain ⟨t0, t1, t2, t3⟩ := t
    obtain ⟨p, q⟩ := x
    have ht3 := ht2.ok
    simp only at ht3 hx2
    obtain ⟨x1, x2⟩ := encE_at hx
    simp only at x1 x2
    conv => whnf
    refine ⟨trivial, RegAt.quiet hmix (by kernel_rfl) ?_⟩
    conv => whnf
    refine ⟨(by (repeat' apply And.intro) <;> first | exact True.intro | (unfold rng; simp only; omega) | (simp only; omega) | (unfold rng; omega) | omega), LoadAt.cell (.int .i64 (p : Int)) rfl rfl (fun w hw => by have := row_at (hw.in_ 3 rfl) (by omega) x1; simpa using this) ?_⟩
    conv => whnf
    refine ⟨(by (repeat' apply And.intro) <;> first | exact True.intro | (unfold rng; simp only; omega) | (simp only; omega) | (unfold rng; omega) | omega), LoadAt.cell (.int .i64 (q : Int)) rfl rfl (fun w hw => by have := row_at (hw.in_ 3 rfl) (by omega) x2; simpa using this) ?_⟩
    conv => whnf
    refine ⟨(by (repeat' apply And.intro) <;> first | exact True.intro | (unfold rng; simp only; omega) | (simp only; omega) | (unfold rng; omega) | omega), ?_⟩
    conv => whnf
    rw [loadGo] at i5
    simp only at i5
    by_cases c1 : inner.length < p + q
    · rw [if_pos c1] at i5
      subst i5
      simp only at hQ
      subst hQ
      repeat (first | (refine And.intro ?_ ?_; rotate_left; (focus (intro g; exfalso; first | (simp at g; done) | (simp at g; omega) | (revert g; decide))); intro _; conv => whnf) | (refine And.intro ?_ ?_; (focus (intro g; exfalso; first | (simp at g; done) | (simp at g; omega) | (revert g; decide))); intro _; conv => whnf))
      exact ⟨(by (repeat' apply And.intro) <;> first | exact True.intro | (unfold rng; omega) | omega), fin_dropP (.inl ⟨rfl, rfl, rfl⟩)⟩
    rw [if_neg c1] at i5
    repeat (first | (refine And.intro ?_ ?_; rotate_left; (focus (intro g; exfalso; first | (simp at g; done) | (simp at g; omega) | (revert g; decide))); intro _; conv => whnf) | (refine And.intro ?_ ?_; (focus (intro g; exfalso; first | (simp at g; done) | (simp at g; omega) | (revert g; decide))); intro _; conv => whnf))
    refine ⟨(by (repeat' apply And.intro) <;> first | exact True.intro | (unfold rng; simp only; omega) | (simp only; omega) | (unfold rng; omega) | omega), LoadAt.agg [.int .i64 (t0 : Int), .int .i64 (t1 : Int), .int .i64 (t2 : Int), .int .i64 (t3 : Int)] rfl rfl rfl (fun w hw j v hj => ?_) ?_⟩
    · have := row_at (hw.in_ 1 rfl) (by omega) (encT_at ht j v hj)
      simpa using this
    conv => whnf
    refine ⟨trivial, CallAt.pure (fun R' hR' => sSize14 (R := R') t0 t1 t2 t3 (by omega) (by omega) (by omega) (by omega)) ?_⟩
    conv => whnf
    refine ⟨trivial, RegAt.segs [20] hmix (by kernel_rfl) ?_⟩
    conv => whnf
    refine ⟨(by (repeat' apply And.intro) <;> first | exact True.intro | (unfold rng; simp only; omega) | (simp only; omega) | (unfold rng; omega) | omega), LoadAt.cell (.int .i64 (p : Int)) rfl rfl (fun w hw => by have := row_at (hw.in_ 3 rfl) (by omega) x1; simpa using this) ?_⟩
    conv => whnf
    refine ⟨(by (repeat' apply And.intro) <;> first | exact True.intro | (unfold rng; simp only; omega) | (simp only; omega) | (unfold rng; omega) | omega), LoadAt.cell (.int .i64 (p : Int)) rfl rfl (fun w hw => by have := row_at (hw.in_ 3 rfl) (by omega) x1; simpa using this) ?_⟩
    conv => whnf
    refine ⟨(by (repeat' apply And.intro) <;> first | exact True.intro | (unfold rng; simp only; omega) | (simp only; omega) | (unfold rng; omega) | omega), LoadAt.cell (.int .i64 (q : Int)) rfl rfl (fun w hw => by have := row_at (hw.in_ 3 rfl) (by omega) x2; simpa using this) ?_⟩
    conv => whnf
    refine ⟨(by (repeat' apply And.intro) <;> first | exact True.intro | (unfold rng; simp only; omega) | (simp only; omega) | (unfold rng; omega) | omega), RunQ.cutS bA offA inner.length c p (p + q) .i64 .i64 rfl rfl rfl (congrArg (Value.int .i64) (by omega)) rfl rfl rfl (by omega) (by omega) (by omega) fun A' hA' => ?_⟩
    conv => whnf
    have hbl : ((inner.drop p).take q).length = p + q - p := by rw [List.length_take, List.length_drop]; omega
    have hsl2 : Sl R A' (p + q - p) 1 (byts ((inner.drop p).take q)) := by
      have := Sl.mid hsl (lo := p) (hi := p + q) (by omega) (by omega) hA'
      rw [Nat.mul_one, Nat.mul_one, Nat.add_sub_cancel_left, byts_drop, byts_take] at this
      rw [Nat.add_sub_cancel_left]
      exact this
    refine ⟨trivial, CallAt.fn (pre := []) _ (fun h s => s) (fun R' hR' => sTileGet (R := R') (c := c - p) (hsl2.mono fun w s => sat_baseF (hR' w s)) hbl (by omega) (by omega) (by omega) (t2 + 1 - t0) (t3 + 1 - t1) (by omega) (by omega) (by omega) (by omega)) ?_⟩
    have htok := tileR_ok (b := (inner.drop p).take q) (w := t2 + 1 - t0) (h := t3 + 1 - t1)
    generalize tileR ((inner.drop p).take q) (t2 + 1 - t0) (t3 + 1 - t1) = T at *
    obtain ⟨tc, tk, te⟩ := T
    simp only at htok i5
    rintro r hs (⟨hte, rfl, rfl⟩ | ⟨hte, BC, cC, rfl, rfl⟩)
    · simp only at hte
      rw [if_pos hte] at i5
      subst i5
      simp only at hQ
      subst hQ
      conv => whnf
      refine ⟨trivial, ?_⟩
      conv => whnf
      repeat (first | (refine And.intro ?_ ?_; rotate_left; (focus (intro g; exfalso; first | (simp at g; done) | (simp at g; omega) | (revert g; decide))); intro _; conv => whnf) | (refine And.intro ?_ ?_; (focus (intro g; exfalso; first | (simp at g; done) | (simp at g; omega) | (revert g; decide))); intro _; conv => whnf))
      exact ⟨(by (repeat' apply And.intro) <;> first | exact True.intro | (unfold rng; omega) | omega), fin_dropP (.inl ⟨rfl, rfl, rfl⟩)⟩
    simp only at hte
    rw [if_neg (by omega)] at i5
    obtain ⟨k1, k2, k3⟩ := htok hte
    subst hte
    conv => whnf
    refine ⟨trivial, ?_⟩
    conv => whnf
    repeat (first | (refine And.intro ?_ ?_; rotate_left; (focus (intro g; exfalso; first | (simp at g; done) | (simp at g; omega) | (revert g; decide))); intro _; conv => whnf) | (refine And.intro ?_ ?_; (focus (intro g; exfalso; first | (simp at g; done) | (simp at g; omega) | (revert g; decide))); intro _; conv => whnf))
    refine ⟨trivial, RegAt.joinsE (α := Option Addr × Nat) [((Tr.T 0 (Tr.T 1 (Tr.T 2 (Tr.T 3 (Tr.T 4 (Tr.T 5 Tr.E)))))), 6), ((Tr.H 6 Tr.E), 7), ((Tr.H 7 (Tr.C 8 (Tr.C 9 (Tr.H 10 Tr.E) 10 (Tr.H 9 Tr.E)) 9 (Tr.H 8 (Tr.H 10 Tr.E)))), 11)] [2, 5, 6, 10, 12, 14, 15, 17, 21] (fun _ => [])
      (fun a => [(2, 53, [.v (.int .i64 (W : Int)), .v (.int .i64 (H : Int)), .v (.slice a.1 (W * H) a.2)]), (1, 53, [.v (.int .i64 0), .v (.int .i64 0), .v (.slice none 0 0)]), (0, 53, [.v (.int .i64 0), .v (.int .i64 0), .v (.slice none 0 0)])]) 3
      (fun a => [rowH (.slice a.1 (W * H) a.2) (W * H) 2 1 (ints (pasteL W H (t0, t1, t2, t3) tc l)), rowH (.slice BC tc.length cC) tc.length 2 1 (ints tc), rowH (.slice Bk i dk) i 3 1 (ints2 k), rowH (.slice (some ⟨BT, 0, none⟩) tl.length cT) tl.length 23 4 (encT tl), rowH (.slice Bm (W * H) dm) (W * H) 2 1 (ints l), rowH (.slice (some ⟨BE, 0, none⟩) ents.length cE) ents.length 95 2 (encE ents)]) hmix (by kernel_rfl) ?_ ?_⟩
    · conv => whnf
      refine ⟨(by (repeat' apply And.intro) <;> first | exact True.intro | (unfold rng; simp only; omega) | (simp only; omega) | (unfold rng; omega) | omega), LoadAt.agg [.int .i64 (t0 : Int), .int .i64 (t1 : Int), .int .i64 (t2 : Int), .int .i64 (t3 : Int)] rfl rfl rfl (fun w hw j v hj => ?_) ?_⟩
      · have := row_at (hw.in_ 2 rfl) (by omega) (encT_at ht j v hj)
        simpa using this
      conv => whnf
      refine ⟨trivial, CallAt.fn (pre := []) _ (fun h s => s) (fun R' hR' => sPaste09 (R := R') (n := W * H) (c := dm) (A2 := BC) (c2 := cC) (l := l) (v := tc) (fun w s => rowH_reads rfl ((hR' w s).in_ 3 rfl)) rfl o2 o4 (fun w s => rowH_reads rfl ((hR' w s).in_ 0 rfl)) t0 t1 t2 t3 (by omega) (by omega) (by omega) (by omega) k1.symm k2) ?_⟩
      rintro r hs ⟨BN, cN, rfl, rfl⟩
      conv => whnf
      repeat (refine And.intro True.intro ?_; conv => whnf)
      refine ⟨?_, ?_⟩
      · conv => whnf
        repeat (refine And.intro True.intro ?_; conv => whnf)
        refine ⟨?_, ?_⟩
        · conv => whnf
          repeat (refine And.intro True.intro ?_; conv => whnf)
          exact ⟨(BN, cN), Le.pick [0, 1, 2] rfl rfl rfl rfl ⟨⟨_, rfl, rfl⟩, ⟨_, rfl, rfl⟩, ⟨_, rfl, rfl⟩, ⟨_, rfl, rfl⟩, ⟨_, rfl, rfl⟩, ⟨_, rfl, rfl⟩, ⟨_, rfl, rfl⟩, ⟨_, rfl, rfl⟩, ⟨_, rfl, rfl⟩, trivial⟩ ⟨⟨_, _, rfl, rfl, rfl⟩, ⟨_, _, rfl, rfl, rfl⟩, ⟨_, _, rfl, rfl, rfl⟩, trivial⟩ rfl fun h s => sub_same s⟩
        · conv => whnf
          repeat (refine And.intro True.intro ?_; conv => whnf)
          exact ⟨(BN, cN), Le.pick [0, 1, 2] rfl rfl rfl rfl ⟨⟨_, rfl, rfl⟩, ⟨_, rfl, rfl⟩, ⟨_, rfl, rfl⟩, ⟨_, rfl, rfl⟩, ⟨_, rfl, rfl⟩, ⟨_, rfl, rfl⟩, ⟨_, rfl, rfl⟩, ⟨_, rfl, rfl⟩, ⟨_, rfl, rfl⟩, trivial⟩ ⟨⟨_, _, rfl, rfl, rfl⟩, ⟨_, _, rfl, rfl, rfl⟩, ⟨_, _, rfl, rfl, rfl⟩, trivial⟩ rfl fun h s => sub_same s⟩
      · conv => whnf
        repeat (refine And.intro True.intro ?_; conv => whnf)
        exact ⟨(BN, cN), Le.pick [0, 1, 2] rfl rfl rfl rfl ⟨⟨_, rfl, rfl⟩, ⟨_, rfl, rfl⟩, ⟨_, rfl, rfl⟩, ⟨_, rfl, rfl⟩, ⟨_, rfl, rfl⟩, ⟨_, rfl, rfl⟩, ⟨_, rfl, rfl⟩, ⟨_, rfl, rfl⟩, ⟨_, rfl, rfl⟩, trivial⟩ ⟨⟨_, _, rfl, rfl, rfl⟩, ⟨_, _, rfl, rfl, rfl⟩, ⟨_, _, rfl, rfl, rfl⟩, trivial⟩ rfl fun h s => sub_same s⟩
    rintro ⟨BN, cN⟩
    conv => whnf
    refine ⟨trivial, OpAt.lit [.int .i64 (tk : Int)] 1 rfl rfl rfl rfl rfl (by decide) rfl rfl rfl (by simp [Value.cells]) rfl (by decide) fun g2 => ?_⟩
    conv => whnf
    refine ⟨trivial, OpAt.append (.slice Bk i dk) i 1 8 (ints2 k) [.int .i64 (tk : Int)] (some ⟨g2, 0, none⟩) 1 1 _ rfl (fun h s => sepL_pull 3 s) rfl rfl rfl rfl rfl rfl rfl rfl rfl (by decide) (fun w hw => rowH_reads rfl (Sat.left hw)) (by intro u hu; rw [List.mem_singleton] at hu; subst hu; rfl) (by simp only [maxLen]; omega) (by omega) fun B' d' => ?_⟩
    conv => whnf
    refine ⟨trivial, RegAt.quiet hmix (by kernel_rfl) ?_⟩
    conv => whnf
    refine ⟨(by (repeat' apply And.intro) <;> first | exact True.intro | (unfold rng; simp only; omega) | (simp only; omega) | (unfold rng; omega) | omega), LoadAt.cell (.int .i64 (p : Int)) rfl rfl (fun w hw => by have := row_at (hw.in_ 6 rfl) (by omega) x1; simpa using this) ?_⟩
    conv => whnf
    refine ⟨(by (repeat' apply And.intro) <;> first | exact True.intro | (unfold rng; simp only; omega) | (simp only; omega) | (unfold rng; omega) | omega), LoadAt.cell (.int .i64 (q : Int)) rfl rfl (fun w hw => by have := row_at (hw.in_ 6 rfl) (by omega) x2; simpa using this) ?_⟩
    conv => whnf
    refine ⟨(by (repeat' apply And.intro) <;> first | exact True.intro | (unfold rng; simp only; omega) | (simp only; omega) | (unfold rng; omega) | omega), ?_⟩
    conv => whnf
    refine ⟨(by (repeat' apply And.intro) <;> first | exact True.intro | (unfold rng; simp only; omega) | (simp only; omega) | (unfold rng; omega) | omega), .mk ⟨i + 1, pasteL W H (t0, t1, t2, t3) tc l, k ++ [tk], p + q, BN, cN, B', d'⟩ ⟨by simp only; omega, by simp [i2], pasteL_len, by simp only; omega, by simp only; exact i5⟩ (by simp only; omega) (Le.of (Nat.le_of_ble_eq_true rfl) (Nat.zero_le _) ⟨⟨rfl, rfl⟩, ⟨rfl, rfl⟩, ⟨rfl, rfl⟩, ⟨rfl, rfl⟩, ⟨rfl, rfl⟩, ⟨rfl, rfl⟩, ⟨rfl, rfl⟩, ⟨rfl, rfl⟩, ⟨rfl, rfl⟩, trivial⟩ ⟨⟨rfl, rfl, rfl, rfl⟩, ⟨rfl, rfl, rfl, rfl⟩, ⟨rfl, rfl, rfl, rfl⟩, trivial⟩ fun h s => ?_)⟩
    have s1 := sub_front (m := [_, _, _, _]) (sepL_pull 3 (sepL_pull 5 (sepL_pull 3 (sepL_pull 6 s))))
    obtain ⟨h', e', s'⟩ := s1
    refine ⟨h', e', ?_⟩
    have ek : ints2 (k ++ [tk]) = ints2 k ++ [.int .i64 (tk : Int)] := by simp [ints2]
    simp only [ek]
    exact s'
  · have h : i = N := by simp at h; omega
    subst h
    rw [List.drop_of_length_le (by omega), loadGo] at i5
    subst i5
    simp only at hQ
    conv => whnf
    by_cases c1 : e ≠ inner.length
    · rw [if_pos c1] at hQ
      subst hQ
      repeat (first | (refine And.intro ?_ ?_; rotate_left; (focus (intro g; exfalso; first | (simp at g; done) | (simp at g; omega) | (revert g; decide))); intro _; conv => whnf) | (refine And.intro ?_ ?_; (focus (intro g; exfalso; first | (simp at g; done) | (simp at g; omega) | (revert g; decide))); intro _; conv => whnf))
      exact ⟨(by (repeat' apply And.intro) <;> first | exact True.intro | (unfold rng; simp only; omega) | (simp only; omega) | (unfold rng; omega) | omega), fin_dropP (.inl ⟨rfl, rfl, rfl⟩)⟩
    rw [if_neg c1] at hQ
    subst hQ
    repeat (first | (refine And.intro ?_ ?_; rotate_left; (focus (intro g; exfalso; first | (simp at g; done) | (simp at g; omega) | (revert g; decide))); intro _; conv => whnf) | (refine And.intro ?_ ?_; (focus (intro g; exfalso; first | (simp at g; done) | (simp at g; omega) | (revert g; decide))); intro _; conv => whnf))
    refine ⟨(by (repeat' apply And.intro) <;> first | exact True.intro | (unfold rng; simp only; omega) | (simp only; omega) | (unfold rng; omega) | omega), .mk [rowH (.slice Bk k.length dk) k.length 3 1 (ints2 k), rowH (.slice Bm (W * H) dm) (W * H) 2 1 (ints l)] (fun w s => ?_) (.inr ⟨W, H, l, k, Bm, dm, Bk, dk, rfl, i3, o1, o2, o3, o4, ?_, rfl⟩)⟩
    · obtain ⟨h0, e0, s0⟩ := s
      obtain ⟨h', e', s'⟩ := sub_front (m := [_, _]) (sepL_pull 1 (sepL_pull 2 s0))
      rw [i2]
      exact ⟨h', e0.mono e', s'⟩
    · rw [i2]
      rfl

theorem sHeavy1 {R : HP} {q : OpA} {x : OpF} {g c : Nat} (hk : x.ok) (hs : OpS R q x) (hr : ∀ w, Sat R w → Sat (rowH (.slice (some ⟨g, 0, none⟩) 1 c) 1 30 14 (opCs q x).toList) w) :
    FnR Tryz.prog R 5 [.slice (some ⟨g, 0, none⟩) 1 c, .int .i64 1] [] fun r hs => ∃ b : Bool, r = .bool b ∧ hs = [] := by
  have hcell : ∀ w, Sat R w → ∀ (j : Nat) (v : Value), (opCs q x).toList[j]? = some v → w.cell? ⟨g, j, none⟩ = some v := fun w s j v h => row_at (hr w s) (by decide) h
  obtain ⟨sv, sb, sd, ⟨k1, k1'⟩, ⟨k2, k2'⟩, ⟨k3, k3'⟩⟩ := hs
  clear hr
  obtain ⟨⟨kind, x0, y0, x1, y1, ax, ay, bx, b_y, n, m⟩, vals, byts, bands⟩ := x
  have hkind := hk.kind
  obtain ⟨o1, o2, o3, o4, o5, o6, o7, o8, o9, o10⟩ := hk.o
  unfold I64 at *
  simp only at *
  clear sv sd hk
  have hld := fun R' (h : ∀ w, Sat R' w → Sat R w) => sLoad14 (R := R') (c := q.c2) (sb.mono h) rfl k2 (by simp only [maxLen] at k2'; omega)
  unfold opCs opC at hcell
  simp only at hcell
  generalize hv : vals.length = n1 at *
  generalize hb : byts.length = n2 at *
  generalize hd : bands.length = n3 at *
  refine fn_of_run0 false Tryz.func5 rfl hmix rfl fun w0 => ?_
  conv => whnf
  refine iff_f (by decide) ?_
  conv => whnf
  refine ⟨trivial, LoopAt.heap (α := Nat) [0] (fun i => [(5, .v (.int .i64 (i : Int)))]) (fun _ => []) (fun i => i ≤ 1) (fun i => 1 - i) 0 (by decide) rfl ⟨⟨rfl, rfl⟩, trivial⟩ ⟨⟨rfl, rfl⟩, trivial⟩ trivial (fun h s => sub_same s) ?_⟩
  intro i hi
  conv => whnf
  refine ⟨fun h => ?_, fun h => ?_⟩
  · obtain rfl : i = 0 := by simp at h; omega
    conv => whnf
    refine ⟨(by (repeat' apply And.intro) <;> first | exact True.intro | (unfold rng; omega) | omega), LoadAt.agg [.int .i64 kind, .int .i64 x0, .int .i64 y0, .int .i64 x1, .int .i64 y1, .int .i64 ax, .int .i64 ay, .int .i64 bx, .int .i64 b_y, .int .i64 n, .int .i64 m, .slice q.A1 n1 q.c1, .slice q.A2 n2 q.c2, .slice q.A3 n3 q.c3] rfl rfl rfl (fun w hw j v hj => ?_) ?_⟩
    · have := hcell w (sat_baseF hw) j v hj
      simpa using this
    conv => whnf
    by_cases c1 : 500 < n1
    · repeat (first | (refine And.intro ?_ ?_; rotate_left; (focus (intro g; exfalso; first | (simp at g; done) | (simp at g; omega) | (revert g; decide))); intro _; conv => whnf) | (refine And.intro ?_ ?_; (focus (intro g; exfalso; first | (simp at g; done) | (simp at g; omega) | (revert g; decide))); intro _; conv => whnf))
      exact ⟨(by (repeat' apply And.intro) <;> first | exact True.intro | (unfold rng; omega) | omega), fin_dropP ⟨true, rfl, rfl⟩⟩
    by_cases c2 : 2000 < n2
    · repeat (first | (refine And.intro ?_ ?_; rotate_left; (focus (intro g; exfalso; first | (simp at g; done) | (simp at g; omega) | (revert g; decide))); intro _; conv => whnf) | (refine And.intro ?_ ?_; (focus (intro g; exfalso; first | (simp at g; done) | (simp at g; omega) | (revert g; decide))); intro _; conv => whnf))
      exact ⟨(by (repeat' apply And.intro) <;> first | exact True.intro | (unfold rng; omega) | omega), fin_dropP ⟨true, rfl, rfl⟩⟩
    by_cases c3 : 40 < n3
    · repeat (first | (refine And.intro ?_ ?_; rotate_left; (focus (intro g; exfalso; first | (simp at g; done) | (simp at g; omega) | (revert g; decide))); intro _; conv => whnf) | (refine And.intro ?_ ?_; (focus (intro g; exfalso; first | (simp at g; done) | (simp at g; omega) | (revert g; decide))); intro _; conv => whnf))
      exact ⟨(by (repeat' apply And.intro) <;> first | exact True.intro | (unfold rng; omega) | omega), fin_dropP ⟨true, rfl, rfl⟩⟩
    by_cases d1 : kind = 1
    · by_cases d2 : 0 < n
      · by_cases d3 : 0 < m
        · by_cases d4 : n ≤ 1024
          · by_cases d5 : m ≤ 1024
            · have hmul : n * m ≤ 1024 * 1024 := Int.mul_le_mul d4 d5 (by omega) (by omega)
              have hmul0 : 0 ≤ n * m := Int.mul_nonneg (by omega) (by omega)
              repeat (first | (refine And.intro ?_ ?_; rotate_left; (focus (intro g; exfalso; first | (simp at g; done) | (simp at g; omega) | (revert g; decide))); intro _; conv => whnf) | (refine And.intro ?_ ?_; (focus (intro g; exfalso; first | (simp at g; done) | (simp at g; omega) | (revert g; decide))); intro _; conv => whnf))
              generalize n * m = z at *
              refine ⟨fun g => ?_, fun g => ?_⟩
              · conv => whnf
                exact ⟨(by (repeat' apply And.intro) <;> first | exact True.intro | (unfold rng; omega) | omega), fin_dropP ⟨true, rfl, rfl⟩⟩
              · conv => whnf
                repeat (first | (refine And.intro ?_ ?_; rotate_left; (focus (intro g; exfalso; first | (simp at g; done) | (simp at g; omega) | (revert g; decide))); intro _; conv => whnf) | (refine And.intro ?_ ?_; (focus (intro g; exfalso; first | (simp at g; done) | (simp at g; omega) | (revert g; decide))); intro _; conv => whnf))
                refine ⟨(by (repeat' apply And.intro) <;> first | exact True.intro | (unfold rng; omega) | omega), Next.heap 1 (by decide) (by decide) ⟨⟨rfl, rfl⟩, trivial⟩ ⟨⟨rfl, rfl⟩, trivial⟩ trivial rfl rfl fun h s => sub_nil s⟩
            · repeat (first | (refine And.intro ?_ ?_; rotate_left; (focus (intro g; exfalso; first | (simp at g; done) | (simp at g; omega) | (revert g; decide))); intro _; conv => whnf) | (refine And.intro ?_ ?_; (focus (intro g; exfalso; first | (simp at g; done) | (simp at g; omega) | (revert g; decide))); intro _; conv => whnf))
              refine ⟨(by (repeat' apply And.intro) <;> first | exact True.intro | (unfold rng; omega) | omega), Next.heap 1 (by decide) (by decide) ⟨⟨rfl, rfl⟩, trivial⟩ ⟨⟨rfl, rfl⟩, trivial⟩ trivial rfl rfl fun h s => sub_nil s⟩
          · repeat (first | (refine And.intro ?_ ?_; rotate_left; (focus (intro g; exfalso; first | (simp at g; done) | (simp at g; omega) | (revert g; decide))); intro _; conv => whnf) | (refine And.intro ?_ ?_; (focus (intro g; exfalso; first | (simp at g; done) | (simp at g; omega) | (revert g; decide))); intro _; conv => whnf))
            refine ⟨(by (repeat' apply And.intro) <;> first | exact True.intro | (unfold rng; omega) | omega), Next.heap 1 (by decide) (by decide) ⟨⟨rfl, rfl⟩, trivial⟩ ⟨⟨rfl, rfl⟩, trivial⟩ trivial rfl rfl fun h s => sub_nil s⟩
        · repeat (first | (refine And.intro ?_ ?_; rotate_left; (focus (intro g; exfalso; first | (simp at g; done) | (simp at g; omega) | (revert g; decide))); intro _; conv => whnf) | (refine And.intro ?_ ?_; (focus (intro g; exfalso; first | (simp at g; done) | (simp at g; omega) | (revert g; decide))); intro _; conv => whnf))
          refine ⟨(by (repeat' apply And.intro) <;> first | exact True.intro | (unfold rng; omega) | omega), Next.heap 1 (by decide) (by decide) ⟨⟨rfl, rfl⟩, trivial⟩ ⟨⟨rfl, rfl⟩, trivial⟩ trivial rfl rfl fun h s => sub_nil s⟩
      · repeat (first | (refine And.intro ?_ ?_; rotate_left; (focus (intro g; exfalso; first | (simp at g; done) | (simp at g; omega) | (revert g; decide))); intro _; conv => whnf) | (refine And.intro ?_ ?_; (focus (intro g; exfalso; first | (simp at g; done) | (simp at g; omega) | (revert g; decide))); intro _; conv => whnf))
        refine ⟨(by (repeat' apply And.intro) <;> first | exact True.intro | (unfold rng; omega) | omega), Next.heap 1 (by decide) (by decide) ⟨⟨rfl, rfl⟩, trivial⟩ ⟨⟨rfl, rfl⟩, trivial⟩ trivial rfl rfl fun h s => sub_nil s⟩
    by_cases d2 : kind = 24
    rotate_left
    · repeat (first | (refine And.intro ?_ ?_; rotate_left; (focus (intro g; exfalso; first | (simp at g; done) | (simp at g; omega) | (revert g; decide))); intro _; conv => whnf) | (refine And.intro ?_ ?_; (focus (intro g; exfalso; first | (simp at g; done) | (simp at g; omega) | (revert g; decide))); intro _; conv => whnf))
      refine ⟨(by (repeat' apply And.intro) <;> first | exact True.intro | (unfold rng; omega) | omega), Next.heap 1 (by decide) (by decide) ⟨⟨rfl, rfl⟩, trivial⟩ ⟨⟨rfl, rfl⟩, trivial⟩ trivial rfl rfl fun h s => sub_nil s⟩
    repeat (first | (refine And.intro ?_ ?_; rotate_left; (focus (intro g; exfalso; first | (simp at g; done) | (simp at g; omega) | (revert g; decide))); intro _; conv => whnf) | (refine And.intro ?_ ?_; (focus (intro g; exfalso; first | (simp at g; done) | (simp at g; omega) | (revert g; decide))); intro _; conv => whnf))
    refine ⟨(by (repeat' apply And.intro) <;> first | exact True.intro | (unfold rng; omega) | omega), CallAt.fn (pre := []) _ (fun h s => s) (fun R' hR' => hld R' (fun w s => sat_baseF (hR' w s)) (by omega)) ?_⟩
    rintro r hs (⟨_, rfl, rfl⟩ | ⟨W, H, l, k, B, d, B', d', _, _, w1, w2, w3, w4, rfl, rfl⟩)
    · conv => whnf
      repeat (first | (refine And.intro ?_ ?_; rotate_left; (focus (intro g; exfalso; first | (simp at g; done) | (simp at g; omega) | (revert g; decide))); intro _; conv => whnf) | (refine And.intro ?_ ?_; (focus (intro g; exfalso; first | (simp at g; done) | (simp at g; omega) | (revert g; decide))); intro _; conv => whnf))
      refine ⟨(by (repeat' apply And.intro) <;> first | exact True.intro | (unfold rng; omega) | omega), Next.heap 1 (by decide) (by decide) ⟨⟨rfl, rfl⟩, trivial⟩ ⟨⟨rfl, rfl⟩, trivial⟩ trivial rfl rfl fun h s => sub_nil s⟩
    · have hle : W * H ≤ 1048576 := Nat.mul_le_mul w2 w4
      have hm : (W : Int) * (H : Int) = ((W * H : Nat) : Int) := by simp
      have hm2 : 0 ≤ (W : Int) * (H : Int) ∧ (W : Int) * (H : Int) ≤ 1048576 := by rw [hm]; omega
      conv => whnf
      repeat (first | (refine And.intro ?_ ?_; rotate_left; (focus (intro g; exfalso; first | (simp at g; done) | (simp at g; omega) | (revert g; decide))); intro _; conv => whnf) | (refine And.intro ?_ ?_; (focus (intro g; exfalso; first | (simp at g; done) | (simp at g; omega) | (revert g; decide))); intro _; conv => whnf))
      generalize (W : Int) * (H : Int) = z at *
      refine ⟨fun g => ?_, fun g => ?_⟩
      · conv => whnf
        exact ⟨(by (repeat' apply And.intro) <;> first | exact True.intro | (unfold rng; omega) | omega), fin_dropP ⟨true, rfl, rfl⟩⟩
      · conv => whnf
        repeat (first | (refine And.intro ?_ ?_; rotate_left; (focus (intro g; exfalso; first | (simp at g; done) | (simp at g; omega) | (revert g; decide))); intro _; conv => whnf) | (refine And.intro ?_ ?_; (focus (intro g; exfalso; first | (simp at g; done) | (simp at g; omega) | (revert g; decide))); intro _; conv => whnf))
        refine ⟨(by (repeat' apply And.intro) <;> first | exact True.intro | (unfold rng; omega) | omega), Next.heap 1 (by decide) (by decide) ⟨⟨rfl, rfl⟩, trivial⟩ ⟨⟨rfl, rfl⟩, trivial⟩ trivial rfl rfl fun h s => sub_nil s⟩
  · obtain rfl : i = 1 := by simp at h; omega
    conv => whnf
    exact ⟨trivial, fin_dropP ⟨false, rfl, rfl⟩⟩
end Go.Proofs.YtgfiakgahmpfkaaGreatDoor
