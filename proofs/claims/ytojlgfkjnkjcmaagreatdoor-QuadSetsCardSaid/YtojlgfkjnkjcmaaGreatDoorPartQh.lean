/-
  Texts of the proofs, one behind the other: SyJoinE, QuadSa.
-/
import Derived.Test.YtojlgfkjnkjcmaaGreatDoorPartZ
import Derived.Test.YtojlgfkjnkjcmaaGreatDoorPartQg
/-
  Symbolic runs: a drawn region all of whose orders come to one state, but for what is chosen on the way.
-/
namespace Go.Proofs.YtojlgfkjnkjcmaaGreatDoor
open Go.RowKit
set_option linter.unusedVariables false
set_option linter.unusedSimpArgs false
set_option maxRecDepth 100000
set_option maxHeartbeats 4000000
namespace Sy
theorem RegAt.joinsE {G : Gl} {id : Nat} {l : List Oper} {st : St} {K : St → Prop} {α : Type} (gs : List (Tr × Nat)) (Kp : List Nat) (S : α → List (Nat × SV)) (O : α → List (Nat × TypeId × List SV)) (nn : Nat) (H : α → List HP) (hm : G.P.follows .mixedOrders = true) (hB : treesOk l gs = true)
    (h : treesG G l gs st fun st' => ∃ a, Le G st' ⟨S a ++ keepT st.t Kp, O a, nn, H a, True⟩) (k : ∀ a, forceL (S a ++ keepT st.t Kp) fun t => K ⟨t, O a, nn, H a, True⟩) (hax : axFree G.AX l = true := by rfl) : RegAt G id l.toArray st K := by
  obtain ⟨h⟩ := RegAt.trees (id := id) gs hm hB h hax
  refine .mk fun ρ a w m mm => ?_
  refine wp_mono (h ρ a w m mm) ?_
  rintro e a' w' (⟨rfl, st', ρ', ⟨x, hle⟩, m', mm'⟩ | hp)
  · obtain ⟨ρ2, m2, mm2⟩ := hle ρ' a' w' m' mm'
    exact .inl ⟨rfl, _, ρ2, forceL_eq (k x), m2, mm2⟩
  · exact .inr hp
end Sy
end Go.Proofs.YtojlgfkjnkjcmaaGreatDoor

/-
  SETS BY SQUARES, plain: sets of cells joined cell by cell.
-/
namespace Go.Proofs.YtojlgfkjnkjcmaaGreatDoor
open Go.RowKit
open Sy
set_option linter.unusedVariables false
set_option linter.unusedSimpArgs false
set_option maxRecDepth 100000
set_option maxHeartbeats 4000000

def zipL (f : Bool → Bool → Bool) (a b : List Bool) : List Bool := List.zipWith f a b
theorem zipL_len {f : Bool → Bool → Bool} {a b : List Bool} {N : Nat} (ha : a.length = N) (hb : b.length = N) : (zipL f a b).length = N := by simp [zipL, ha, hb]
theorem zipL_get {f : Bool → Bool → Bool} {a b : List Bool} {i : Nat} (ha : i < a.length) (hb : i < b.length) : (zipL f a b)[i]? = some (f a[i] b[i]) := by
  unfold zipL
  rw [List.getElem?_zipWith, List.getElem?_eq_getElem ha, List.getElem?_eq_getElem hb]
theorem zipL_take {f : Bool → Bool → Bool} {a b : List Bool} {i : Nat} (ha : i < a.length) (hb : i < b.length) : bls ((zipL f a b).take (i + 1)) = bls ((zipL f a b).take i) ++ [.bool (f a[i] b[i])] := by
  have hz : i < (zipL f a b).length := by simp [zipL]; omega
  have e : (zipL f a b)[i] = f a[i] b[i] := by
    have := zipL_get (f := f) ha hb
    rw [List.getElem?_eq_getElem hz] at this
    exact Option.some.inj this
  rw [List.take_succ_eq_append_getElem hz, bls_append, e]
  rfl
theorem zip_gS {W H : Nat} {f : Bool → Bool → Bool} {a b : List Bool} (ha : a.length = W * H) (hb : b.length = W * H) {u v : Int} (hu : 0 ≤ u) (hv : 0 ≤ v) : gS W H (zipL f a b) u v = (decide (u < W) && decide (v < H) && f (gS W H a u v) (gS W H b u v)) := by
  by_cases h : u < W ∧ v < H
  · obtain ⟨h1, h2⟩ := h
    obtain ⟨u, rfl⟩ : ∃ k : Nat, u = k := ⟨u.toNat, by omega⟩
    obtain ⟨v, rfl⟩ : ∃ k : Nat, v = k := ⟨v.toNat, by omega⟩
    have hi := ix_lt (W := W) (H := H) (u := u) (v := v) (by omega) (by omega)
    rw [gS_at (zipL_len ha hb) (by omega) (by omega), gS_at ha (by omega) (by omega), gS_at hb (by omega) (by omega), decide_eq_true h1, decide_eq_true h2, zipL_get (by omega) (by omega), List.getElem?_eq_getElem (by omega), List.getElem?_eq_getElem (by omega)]
    rfl
  · rw [gS_out (by omega)]
    by_cases h1 : u < W
    · rw [decide_eq_false (p := v < H) (by omega)]; simp
    · rw [decide_eq_false h1]; simp
/-- the four joins -/
theorem gs_and {W H n : Nat} {a b : List Bool} (ha : a.length = W * H) (hb : b.length = W * H) : canon (fun u v => gS W H a u v && gS W H b u v) n 0 0 = canon (gS W H (zipL (fun x y => x && y) a b)) n 0 0 := canon_congr fun u v i => by
  unfold InSq at i
  rw [zip_gS ha hb (by omega) (by omega)]
  by_cases h : u < W ∧ v < H
  · rw [decide_eq_true h.1, decide_eq_true h.2]; rfl
  · rw [gS_out (l := a) (by omega)]; simp
theorem gs_or {W H n : Nat} {a b : List Bool} (ha : a.length = W * H) (hb : b.length = W * H) : canon (outG W H fun u v => outG W H (gS W H a) u v && outG W H (gS W H b) u v) n 0 0 = canon (gS W H (zipL (fun x y => x || y) a b)) n 0 0 := canon_congr fun u v i => by
  unfold InSq at i
  rw [zip_gS ha hb (by omega) (by omega)]
  simp only [outG]
  by_cases h1 : u < W
  · by_cases h2 : v < H
    · rw [decide_eq_true h1, decide_eq_true h2]
      generalize gS W H a u v = x
      generalize gS W H b u v = y
      cases x <;> cases y <;> rfl
    · rw [decide_eq_false h2]; simp
  · rw [decide_eq_false h1]; simp
theorem gs_less {W H n : Nat} {a b : List Bool} (ha : a.length = W * H) (hb : b.length = W * H) : canon (fun u v => gS W H a u v && outG W H (gS W H b) u v) n 0 0 = canon (gS W H (zipL (fun x y => x && !y) a b)) n 0 0 := canon_congr fun u v i => by
  unfold InSq at i
  rw [zip_gS ha hb (by omega) (by omega)]
  simp only [outG]
  by_cases h : u < W ∧ v < H
  · rw [decide_eq_true h.1, decide_eq_true h.2]; rfl
  · rw [gS_out (l := a) (by omega)]; simp
theorem gs_not {W H n : Nat} {a b : List Bool} (ha : a.length = W * H) (hb : b.length = W * H) : canon (outG W H (gS W H a)) n 0 0 = canon (gS W H (zipL (fun x _ => !x) a b)) n 0 0 := canon_congr fun u v i => by
  unfold InSq at i
  rw [zip_gS ha hb (by omega) (by omega)]
  rfl
theorem gs_back {W H n : Nat} {a b : List Bool} (ha : a.length = W * H) (hb : b.length = W * H) : canon (outG W H (gS W H (zipL (fun x _ => !x) a b))) n 0 0 = canon (gS W H a) n 0 0 := canon_congr fun u v i => by
  unfold InSq at i
  simp only [outG]
  rw [zip_gS ha hb (by omega) (by omega)]
  by_cases h1 : u < W
  · by_cases h2 : v < H
    · rw [decide_eq_true h1, decide_eq_true h2]; simp
    · rw [decide_eq_false h2, gS_out (l := a) (by omega)]; simp
  · rw [decide_eq_false h1, gS_out (l := a) (by omega)]; simp
theorem QuadOf.canon {R : HP} {qb : Nat} {W H : Int} {n : Nat} {f g : Int → Int → Bool} (q : QuadOf R qb W H n f) (e : canon f n 0 0 = canon g n 0 0) : QuadOf R qb W H n g := fun w s => by
  have := q w s
  rwa [e] at this
/-- a set's cell -/
theorem row_cell {b N c i : Nat} {l : List Bool} {w : World} (h : Sat (rowH (.slice (some ⟨b, 0, none⟩) N c) N 4 1 (bls l)) w) (hl : l.length = N) (hi : i < l.length) : w.cell? ⟨b, i, none⟩ = some (.bool l[i]) := by
  obtain ⟨g, e, hc⟩ := rowH_at h (by omega)
  injection e with e
  injection e with e
  subst e
  exact hc i _ (bls_at hi)
/-- the texts' parts are let go -/
theorem sub_four {a b c d e f g i : HP} {l : List HP} {R : HP} {h : Hl} (s : sepL (a :: b :: c :: d :: e :: f :: g :: i :: l) R h) : ∃ h', (∀ i o, h' i = some o → h i = some o) ∧ sepL (a :: c :: e :: g :: l) R h' := by
  obtain ⟨h1, e1, s1⟩ := sub_tail (sepL_pull 7 s)
  obtain ⟨h2, e2, s2⟩ := sub_tail (sepL_pull 5 s1)
  obtain ⟨h3, e3, s3⟩ := sub_tail (sepL_pull 3 s2)
  obtain ⟨h4, e4, s4⟩ := sub_tail (sepL_pull 1 s3)
  exact ⟨h4, fun i o e => e1 i o (e2 i o (e3 i o (e4 i o e))), s4⟩
/-- two parts fewer -/
theorem sub_two {A B : HP} {l : List HP} {R : HP} {h : Hl} (s : sepL (A :: B :: l) R h) : ∃ h', (∀ i o, h' i = some o → h i = some o) ∧ sepL l R h' := by
  obtain ⟨h1, e1, s1⟩ := sub_tail s
  obtain ⟨h2, e2, s2⟩ := sub_tail s1
  exact ⟨h2, fun i o e => e1 i o (e2 i o e), s2⟩
/-- the document's set, found -/
theorem rOfAt {R : HP} {W H : Nat} {A : Option Addr} {c0 : Nat} {l : List Int} (t : Int) (ha : Vs R A (W * H) l) (hn : W * H ≤ 1048576) (h0 : 0 < W * H) :
    FnR Tryz.prog R 10 [.agg #[.int .i64 W, .int .i64 H, .slice A (W * H) c0], .int .i64 t] [] fun r hs => ∃ b c', r = .agg #[.int .i64 W, .int .i64 H, .slice (some ⟨b, 0, none⟩) (W * H) c'] ∧ hs = [rowH (.slice (some ⟨b, 0, none⟩) (W * H) c') (W * H) 4 1 (bls (ovl l t))] := by
  refine (rOfQ t ha hn).seen ?_
  rintro r hs ⟨A', c', rfl, rfl⟩ w s
  obtain ⟨b, rfl, _⟩ := rowH_at (s.in_ 0 rfl) h0
  exact ⟨_, ⟨b, c', rfl, rfl⟩, s⟩
end Go.Proofs.YtojlgfkjnkjcmaaGreatDoor

