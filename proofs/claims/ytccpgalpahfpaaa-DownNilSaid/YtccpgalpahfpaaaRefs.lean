/-
  The document's answers for lists of cells: Same, Range, Within, Values.
-/
import Derived.Test.YtccpgalpahfpaaaMade
import Derived.Test.YtccpgalpahfpaaaSyBox
namespace Go.Proofs.Ytccpgalpahfpaaa
open Go.RowKit
open Sy
set_option linter.unusedVariables false
set_option linter.unusedSimpArgs false
set_option maxRecDepth 100000
set_option maxHeartbeats 2000000

/-- whatever is apart from us shows these values -/
def Vs (R : HP) (A : Option Addr) (n : Nat) (l : List Int) : Prop := ∀ w, Sat R w → Reads w w.heap.size 1 A n (ints l)
theorem FnR.of_sat {P : Program} {R : HP} {f : FuncId} {args : List Value} {pre : List HP} {post : Value → List HP → Prop} (h : ∀ w, Sat (sepL pre R) w → FnR P R f args pre post) : FnR P R f args pre post := fun w hs => h w hs w hs
theorem PureR.of_sat {P : Program} {R : HP} {f : FuncId} {args : List Value} {v : Value} (h : ∀ w, Sat R w → PureR P R f args v) : PureR P R f args v := fun w hs => h w hs w hs
/-- where they are -/
def Spot (R : HP) (A : Option Addr) (n : Nat) (l : List Int) : Prop := n = 0 ∨ ∃ b off, A = some ⟨b, off, none⟩ ∧ ∀ w, Sat R w → ∀ (k : Nat) (hk : k < l.length), w.cell? ⟨b, off + k, none⟩ = some (.int .i64 l[k])
theorem ints_at (l : List Int) (k : Nat) (h : k < l.length) : (ints l)[k]? = some (.int .i64 l[k]) := by simp [ints, List.getElem?_eq_getElem h]
theorem Vs.spot {R : HP} {A : Option Addr} {n : Nat} {l : List Int} (h : Vs R A n l) {w : World} (s : Sat R w) : l.length = n ∧ Spot R A n l := by
  have hr := h w s
  have hl : l.length = n := by have := hr.1; simpa [ints] using this
  refine ⟨hl, ?_⟩
  rcases Nat.eq_zero_or_pos n with h0 | h0
  · exact .inl h0
  · right
    obtain ⟨ad, e, hb, hc⟩ := hr.2 h0
    obtain ⟨b, off, spot⟩ := ad
    have h1 := hc 0 _ (ints_at l 0 (by omega))
    have hs : spot = none := by simpa [Addr.add] using World.cell?_spot h1
    subst hs
    refine ⟨b, off, e, fun w' s' k hk => ?_⟩
    obtain ⟨ad', e', _, hc'⟩ := (h w' s').2 h0
    rw [e] at e'
    injection e' with e'
    subst e'
    have := hc' k _ (ints_at l k hk)
    rwa [add_plain] at this
theorem Vs.mono {R R' : HP} {A : Option Addr} {n : Nat} {l : List Int} (h : Vs R A n l) (hr : ∀ w, Sat R' w → Sat R w) : Vs R' A n l := fun w s => h w (hr w s)
theorem Vs.row {R : HP} {A : Option Addr} {n c : Nat} {l : List Int} (h : ∀ w, Sat R w → Sat (rowH (.slice A n c) n 2 1 (ints l)) w) : Vs R A n l := fun w s => rowH_reads rfl (h w s)

theorem sSame {R : HP} {A B : Option Addr} {n m c d : Nat} {l l' : List Int} (ha : Vs R A n l) (hb : Vs R B m l') (hn : n ≤ 9223372036854775807) : PureR Try.prog R 57 [.slice A n c, .slice B m d] (.bool (decide (l = l'))) := by
  refine PureR.of_sat fun w hs => ?_
  obtain ⟨h1, sa⟩ := ha.spot hs
  obtain ⟨h2, sb⟩ := hb.spot hs
  refine fn_of_run0 false Try.func57 rfl hmix rfl fun w0 => ?_
  conv => whnf
  refine ⟨fun h3 => ?_, fun h3 => ?_⟩
  · conv => whnf
    refine ⟨trivial, fin_pure rfl (congrArg Value.bool (decide_eq_false ?_).symm)⟩
    rintro rfl
    simp at h3
    omega
  · have h3' : n = m := by simp at h3; omega
    subst h3'
    conv => whnf
    refine ⟨trivial, LoopAt.keep (α := Nat) [0, 1] (fun k => [(5, .v (.int .i64 (k : Int)))]) (fun k => k ≤ n ∧ l.take k = l'.take k) (fun k => n - k) 0 ⟨Nat.zero_le _, by simp⟩ rfl ⟨⟨rfl, rfl⟩, trivial⟩ ⟨⟨rfl, rfl⟩, ⟨rfl, rfl⟩, trivial⟩ trivial ?_⟩
    rintro k ⟨hk, he⟩
    conv => whnf
    refine ⟨fun h4 => ?_, fun h4 => ?_⟩
    · have g4 : k < n := by simpa using h4
      rcases sa with sa | ⟨b, off, rfl, sa⟩
      · omega
      rcases sb with sb | ⟨b', off', rfl, sb⟩
      · omega
      conv => whnf
      refine ⟨trivial, RegAt.quiet hmix (by kernel_rfl) ?_⟩
      conv => whnf
      refine ⟨⟨trivial, by omega⟩, LoadAt.cell (.int .i64 l[k]) rfl rfl (fun w hw => sa w hw k (by omega)) ?_⟩
      conv => whnf
      refine ⟨⟨trivial, by omega⟩, LoadAt.cell (.int .i64 l'[k]) rfl rfl (fun w hw => sb w hw k (by omega)) ?_⟩
      conv => whnf
      refine ⟨trivial, ?_⟩
      conv => whnf
      refine ⟨fun h5 => ?_, fun h5 => ?_⟩
      · conv => whnf
        refine ⟨trivial, fin_pure rfl (congrArg Value.bool (decide_eq_false ?_).symm)⟩
        rintro rfl
        simp at h5
      · have h5' : l[k] = l'[k] := by simpa using h5
        conv => whnf
        refine ⟨⟨trivial, by unfold rng; omega⟩, Next.keep (k + 1) ⟨by omega, ?_⟩ (by omega) ⟨⟨rfl, rfl⟩, trivial⟩ ⟨⟨rfl, rfl⟩, ⟨rfl, rfl⟩, trivial⟩ trivial rfl rfl rfl⟩
        rw [List.take_succ_eq_append_getElem (by omega), List.take_succ_eq_append_getElem (by omega), he, h5']
    · have g4 : k = n := by simp at h4; omega
      subst g4
      conv => whnf
      refine ⟨trivial, fin_pure rfl (congrArg Value.bool (decide_eq_true ?_).symm)⟩
      rw [List.take_of_length_le (by omega), List.take_of_length_le (by omega)] at he
      exact he

theorem sRWithin (x0 y0 x1 y1 a b : Int) (R : HP) : PureR Try.prog R 20 [rectV x0 y0 x1 y1, .int .i64 a, .int .i64 b] (.int .i64 (withinZ x0 y0 x1 y1 a b)) := by
  have no3 : ¬ SizeOk a b → Value.int .i64 3 = .int .i64 (withinZ x0 y0 x1 y1 a b) := fun h => by unfold withinZ; rw [if_pos h]
  have no4 : SizeOk a b → ¬ InP x0 y0 x1 y1 a b → Value.int .i64 4 = .int .i64 (withinZ x0 y0 x1 y1 a b) := fun h h' => by unfold withinZ; rw [if_neg (fun c => c h), if_pos h']
  refine fn_of_run0 false Try.func20 rfl hmix rfl fun w0 => ?_
  conv => whnf
  refine ⟨fun h1 => ?_, fun h1 => ?_⟩
  rotate_left
  · conv => whnf
    exact ⟨trivial, fin_pure rfl (no3 (by unfold SizeOk; simp at h1; omega))⟩
  conv => whnf
  refine ⟨fun h2 => ?_, fun h2 => ?_⟩
  rotate_left
  · conv => whnf
    exact ⟨trivial, fin_pure rfl (no3 (by unfold SizeOk; simp at h2; omega))⟩
  conv => whnf
  refine ⟨fun h3 => ?_, fun h3 => ?_⟩
  rotate_left
  · conv => whnf
    exact ⟨trivial, fin_pure rfl (no3 (by unfold SizeOk; simp at h3; omega))⟩
  conv => whnf
  refine ⟨fun h4 => ?_, fun h4 => ?_⟩
  · conv => whnf
    exact ⟨trivial, fin_pure rfl (no3 (by unfold SizeOk; simp at h4; omega))⟩
  have hS : SizeOk a b := by unfold SizeOk; simp at h1 h2 h3 h4; omega
  conv => whnf
  refine ⟨fun h5 => ?_, fun h5 => ?_⟩
  rotate_left
  · conv => whnf
    exact ⟨trivial, fin_pure rfl (no4 hS (by unfold InP; simp at h5; omega))⟩
  conv => whnf
  refine ⟨fun h6 => ?_, fun h6 => ?_⟩
  rotate_left
  · conv => whnf
    exact ⟨trivial, fin_pure rfl (no4 hS (by unfold InP; simp at h6; omega))⟩
  conv => whnf
  refine ⟨fun h7 => ?_, fun h7 => ?_⟩
  rotate_left
  · conv => whnf
    exact ⟨trivial, fin_pure rfl (no4 hS (by unfold InP; simp at h7; omega))⟩
  conv => whnf
  refine ⟨fun h8 => ?_, fun h8 => ?_⟩
  rotate_left
  · conv => whnf
    exact ⟨trivial, fin_pure rfl (no4 hS (by unfold InP; simp at h8; omega))⟩
  conv => whnf
  refine ⟨fun h9 => ?_, fun h9 => ?_⟩
  rotate_left
  · conv => whnf
    exact ⟨trivial, fin_pure rfl (no4 hS (by unfold InP; simp at h9; omega))⟩
  conv => whnf
  refine ⟨fun h10 => ?_, fun h10 => ?_⟩
  rotate_left
  · conv => whnf
    exact ⟨trivial, fin_pure rfl (no4 hS (by unfold InP; simp at h10; omega))⟩
  conv => whnf
  refine ⟨fun h11 => ?_, fun h11 => ?_⟩
  rotate_left
  · conv => whnf
    exact ⟨trivial, fin_pure rfl (no4 hS (by unfold InP; simp at h11; omega))⟩
  conv => whnf
  refine ⟨fun h12 => ?_, fun h12 => ?_⟩
  · conv => whnf
    exact ⟨trivial, fin_pure rfl (no4 hS (by unfold InP; simp at h12; omega))⟩
  have hI : InP x0 y0 x1 y1 a b := by unfold InP; simp at h5 h6 h7 h8 h9 h10 h11 h12; omega
  conv => whnf
  refine ⟨fun h13 => ?_, fun h13 => ?_⟩
  rotate_left
  · conv => whnf
    exact ⟨trivial, fin_pure rfl (by unfold withinZ; rw [if_neg (fun c => c hS), if_neg (fun c => c hI), if_pos (by simp at h13; omega)]; rfl)⟩
  conv => whnf
  refine ⟨fun h14 => ?_, fun h14 => ?_⟩
  · conv => whnf
    exact ⟨trivial, fin_pure rfl (by unfold withinZ; rw [if_neg (fun c => c hS), if_neg (fun c => c hI), if_pos (by simp at h14; omega)]; rfl)⟩
  · conv => whnf
    exact ⟨trivial, fin_pure rfl (by unfold withinZ; rw [if_neg (fun c => c hS), if_neg (fun c => c hI), if_neg (by simp at h13 h14; omega)]; rfl)⟩
end Go.Proofs.Ytccpgalpahfpaaa
