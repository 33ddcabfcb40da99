/-
  ScriptNil: the law's own walk.
-/
import Derived.Test.YtonbjlkmcikbgaaGreatDoorScDoor
import Derived.Test.YtonbjlkmcikbgaaGreatDoorSyMore
namespace Go.Proofs.YtonbjlkmcikbgaaGreatDoor
open Go.RowKit
open Sy
set_option linter.unusedVariables false
set_option linter.unusedSimpArgs false
set_option maxRecDepth 100000
set_option maxHeartbeats 4000000

def err1 : List UInt8 := [101, 114, 114, 111, 114, 32, 49]
abbrev strR (g n c : Nat) (l : List (List UInt8)) : HP := rowH (.slice (some ⟨g, 0, none⟩) n c) n 9 1 (l.map fun z => .string (bs z))
theorem sPrint1 {R : HP} : PureR Tryz.prog R 13 [.int .i64 1] (.string (bs [49])) := PureR.of_below fun w _ => Cx.closed_says hmix (fuel := 1000) (n := 20) rfl rfl (by kernel_rfl) w
def reply1 : Value := .agg #[.int .i64 1, .int .i64 0, .bool false, .int .i64 0, .int .i64 0, .slice none 0 0, .slice none 0 0, .slice none 0 0, .slice none 0 0, .slice none 0 0]
theorem sAnswer1 {R : HP} : FnR Tryz.prog R 9 [.int .i64 0, reply1] [] fun r hs => ∃ g, r = .slice (some ⟨g, 0, none⟩) 1 1 ∧ hs = [strR g 1 1 [err1]] := by
  refine fn_of_run0 false Tryz.func9 rfl hmix rfl fun w0 => ?_
  conv => whnf
  refine iff_t (by decide) ?_
  conv => whnf
  refine ⟨trivial, CallAt.pure (fun R' hR' => sPrint1) ?_⟩
  conv => whnf
  refine ⟨⟨trivial, by decide⟩, OpAt.lit [.string (bs err1)] 1 rfl rfl rfl rfl rfl (by decide) rfl rfl rfl (by simp [Value.cells]) rfl (by decide) fun g => ?_⟩
  conv => whnf
  exact ⟨trivial, .mk _ (fun w s => s) ⟨g, rfl, rfl⟩⟩
theorem sDoNil {R : HP} (s : List UInt8) : FnR Tryz.prog R 6 [.pointer none, .string (bs s)] [] fun r hs => ∃ g, r = .slice (some ⟨g, 0, none⟩) 1 1 ∧ hs = [strR g 1 1 [err1]] := by
  refine fn_of_run0 false Tryz.func6 rfl hmix rfl fun w0 => ?_
  conv => whnf
  refine ⟨trivial, CallAt.fn (pre := []) _ (fun h s => s) (fun R' hR' => sAnswer1) ?_⟩
  rintro r hs ⟨g, rfl, rfl⟩
  conv => whnf
  exact ⟨trivial, .mk _ (fun w s => s) ⟨g, rfl, rfl⟩⟩
theorem sSameS {R : HP} {A B : Option Addr} {n c c' : Nat} (l : List (List UInt8)) (hl : l.length = n) (hn : n ≤ 1000000) (ha : Sl R A n 1 (l.map fun z => .string (bs z))) (hb : Sl R B n 1 (l.map fun z => .string (bs z))) : PureR Tryz.prog R 5 [.slice A n c, .slice B n c'] (.bool true) := by
  refine PureR.of_sat fun wS hS => ?_
  obtain ⟨_, sa⟩ := ha.spot (by omega) hS
  obtain ⟨_, sb⟩ := hb.spot (by omega) hS
  refine fn_of_run0 false Tryz.func5 rfl hmix rfl fun w0 => ?_
  conv => whnf
  refine iff_f (by simp) ?_
  conv => whnf
  refine ⟨trivial, LoopAt.keep (α := Nat) [0, 1] (fun i => [(5, .v (.int .i64 (i : Int)))]) (fun i => i ≤ n) (fun i => n - i) 0 (Nat.zero_le _) rfl ⟨⟨rfl, rfl⟩, trivial⟩ ⟨⟨rfl, rfl⟩, ⟨rfl, rfl⟩, trivial⟩ trivial ?_⟩
  intro i hi
  conv => whnf
  refine ⟨fun h => ?_, fun h => ?_⟩
  · have hi2 : i < n := by simpa using h
    rcases sa with sa | ⟨b, off, rfl, sa⟩
    · omega
    rcases sb with sb | ⟨b', off', rfl, sb⟩
    · omega
    have f1 : (l.map fun z => Value.string (bs z))[i]? = some (.string (bs (l[i]'(by omega)))) := by simp [hl, hi2]
    generalize l[i]'(by omega) = z at f1
    conv => whnf
    refine ⟨trivial, RegAt.quiet hmix (by kernel_rfl) ?_⟩
    conv => whnf
    refine ⟨⟨trivial, by omega⟩, LoadAt.cell (.string (bs z)) rfl rfl (fun w hw => ?_) ?_⟩
    · simp only [Int.toNat_natCast, Nat.mul_one]
      exact sa w (sat_base hw) _ _ f1
    conv => whnf
    refine ⟨⟨trivial, by omega⟩, LoadAt.cell (.string (bs z)) rfl rfl (fun w hw => ?_) ?_⟩
    · simp only [Int.toNat_natCast, Nat.mul_one]
      exact sb w (sat_base hw) _ _ f1
    refine ⟨trivial, ?_⟩
    conv => whnf
    refine iff_f (by simp) ?_
    conv => whnf
    refine ⟨(by (repeat' apply And.intro) <;> first | exact True.intro | (unfold rng; omega) | omega), .mk (i + 1) (by omega) (by omega) (Le.of (Nat.le_of_ble_eq_true rfl) (Nat.zero_le _) ⟨⟨rfl, rfl⟩, ⟨rfl, rfl⟩, ⟨rfl, rfl⟩, trivial⟩ trivial fun h s => sub_same s)⟩
  · conv => whnf
    exact ⟨trivial, fin_drop rfl⟩
theorem sRunNil {R : HP} {A : Option Addr} {n c : Nat} (l : List (List UInt8)) (hl : l.length = n) (hn : n ≤ 1000) (ha : Sl R A n 1 (l.map fun z => .string (bs z))) : FnR Tryz.prog R 7 [.pointer none, .slice A n c] [] fun r hs => ∃ A' c', r = .slice A' n c' ∧ hs = [rowH (.slice A' n c') n 9 1 (List.replicate n (.string (bs err1)))] := by
  refine FnR.of_sat fun wS hS => ?_
  obtain ⟨_, sa⟩ := ha.spot (by omega) (sat_base hS)
  refine fn_of_run0 false Tryz.func7 rfl hmix rfl fun w0 => ?_
  conv => whnf
  refine ⟨trivial, LoopAt.heap (α := Nat × Option Addr × Nat) [0, 8, 9] (fun a => [(5, .v (.slice a.2.1 a.1 a.2.2)), (10, .v (.int .i64 (a.1 : Int)))]) (fun a => [rowH (.slice a.2.1 a.1 a.2.2) a.1 9 1 (List.replicate a.1 (.string (bs err1)))]) (fun a => a.1 ≤ n) (fun a => n - a.1) (0, none, 0) (Nat.zero_le _) rfl ⟨⟨rfl, rfl⟩, ⟨rfl, rfl⟩, trivial⟩ ⟨⟨rfl, rfl⟩, ⟨rfl, rfl⟩, ⟨rfl, rfl⟩, trivial⟩ trivial (fun h s => sub_same (row_nil _ _ s)) ?_⟩
  rintro ⟨i, B, cb⟩ hi
  simp only at hi
  conv => whnf
  refine ⟨fun h => ?_, fun h => ?_⟩
  · have hi2 : i < n := by simpa using h
    rcases sa with sa | ⟨b, off, rfl, sa⟩
    · omega
    have f1 : (l.map fun z => Value.string (bs z))[i]? = some (.string (bs (l[i]'(by omega)))) := by simp [hl, hi2]
    generalize l[i]'(by omega) = z at f1
    conv => whnf
    refine ⟨⟨trivial, by omega⟩, LoadAt.cell (.string (bs z)) rfl rfl (fun w hw => ?_) ?_⟩
    · simp only [Int.toNat_natCast, Nat.mul_one]
      exact sa w (sat_base hw) _ _ f1
    conv => whnf
    refine ⟨trivial, CallAt.fn (pre := []) _ (fun h s => s) (fun R' hR' => sDoNil z) ?_⟩
    rintro r hs ⟨g, rfl, rfl⟩
    conv => whnf
    refine ⟨trivial, OpAt.append (.slice B i cb) i 1 16 (List.replicate i (.string (bs err1))) [.string (bs err1)] (some ⟨g, 0, none⟩) 1 1 _ rfl (fun h s => sepL_pull 1 s) rfl rfl rfl rfl rfl rfl rfl rfl rfl (by decide) (fun w hw => rowH_reads rfl (Sat.left hw)) (by simp [Value.oneCell']) (by simp only [maxLen]; omega) (by omega) fun A' c' => ?_⟩
    conv => whnf
    refine ⟨(by (repeat' apply And.intro) <;> first | exact True.intro | (unfold rng; omega) | omega), Next.heap (i + 1, A', c') (by simp only; omega) (by simp only; omega) ⟨⟨rfl, rfl⟩, ⟨rfl, rfl⟩, trivial⟩ ⟨⟨rfl, rfl⟩, ⟨rfl, rfl⟩, ⟨rfl, rfl⟩, trivial⟩ trivial rfl rfl fun h s => ?_⟩
    obtain ⟨h', e, s'⟩ := sub_drop1 s
    refine ⟨h', e, ?_⟩
    show sepL [rowH (.slice A' (i + 1) c') (i + 1) 9 1 (List.replicate (i + 1) (.string (bs err1)))] R h'
    rw [List.replicate_succ']
    exact s'
  · have hi3 : i = n := by simp at h; omega
    subst hi3
    conv => whnf
    exact ⟨trivial, .mk _ (fun w s => s) ⟨_, _, rfl, rfl⟩⟩
theorem sScriptNil {R : HP} (hW : ∀ w, Sat R w → ScrW w) (s : List UInt8) (hl : s.length ≤ 9223372036854775807) : PureR Tryz.prog R 3 [.string (bs s)] (.bool true) := by
  refine fn_of_run0 false Tryz.func3 rfl hmix rfl fun w0 => ?_
  conv => whnf
  refine ⟨trivial, CallAt.pure (fun R' hR' => sAwake37 fun w hw => hW w (sat_base (hR' w hw))) ?_⟩
  conv => whnf
  refine iff_f rfl ?_
  conv => whnf
  refine ⟨fun h => ?_, fun h => ?_⟩
  · conv => whnf
    exact ⟨trivial, fin_drop rfl⟩
  conv => whnf
  refine ⟨trivial, OpAt.lit [.string (bs err1)] 1 rfl rfl rfl rfl rfl (by decide) rfl rfl rfl (by simp [Value.cells]) rfl (by decide) fun g1 => ?_⟩
  conv => whnf
  refine ⟨trivial, CallAt.fn (pre := []) _ (fun h s => s) (fun R' hR' => sDoNil s) ?_⟩
  rintro r hs ⟨g2, rfl, rfl⟩
  conv => whnf
  refine ⟨trivial, CallAt.pure (fun R' hR' => sSameS [err1] rfl (by decide) (Sl.row fun w s => (hR' w s).in_ 0 rfl) (Sl.row fun w s => (hR' w s).in_ 1 rfl)) ?_⟩
  conv => whnf
  repeat (refine ⟨fun _ => ?_, fun h => absurd h (by decide)⟩; conv => whnf)
  refine ⟨trivial, OpAt.lit [.string (bs s), .string (bs s)] 1 rfl rfl rfl rfl rfl (by decide) rfl rfl rfl (by simp [Value.cells]) rfl (by decide) fun g3 => ?_⟩
  conv => whnf
  repeat (refine ⟨fun _ => ?_, fun h => absurd h (by decide)⟩; conv => whnf)
  refine ⟨trivial, CallAt.fn (pre := []) _ (fun h s => s) (fun R' hR' => sRunNil [s, s] rfl (by decide) (Sl.row fun w s => (hR' w s).in_ 0 rfl)) ?_⟩
  rintro r hs ⟨A3, c3, rfl, rfl⟩
  conv => whnf
  repeat (refine ⟨fun _ => ?_, fun h => absurd h (by decide)⟩; conv => whnf)
  refine ⟨trivial, OpAt.lit [.string (bs err1), .string (bs err1)] 1 rfl rfl rfl rfl rfl (by decide) rfl rfl rfl (by simp [Value.cells]) rfl (by decide) fun g4 => ?_⟩
  conv => whnf
  repeat (refine ⟨fun _ => ?_, fun h => absurd h (by decide)⟩; conv => whnf)
  refine ⟨trivial, CallAt.pure (fun R' hR' => sSameS [err1, err1] rfl (by decide) (Sl.row fun w s => (hR' w s).in_ 1 rfl) (Sl.row fun w s => (hR' w s).in_ 0 rfl)) ?_⟩
  conv => whnf
  repeat (refine ⟨fun _ => ?_, fun h => absurd h (by decide)⟩; conv => whnf)
  refine ⟨trivial, CallAt.fn (pre := []) _ (fun h s => s) (fun R' hR' => sRunNil [] rfl (by decide) (Sl.nil _ _ _)) ?_⟩
  rintro r hs ⟨A5, c5, rfl, rfl⟩
  conv => whnf
  repeat (refine ⟨fun _ => ?_, fun h => absurd h (by decide)⟩; conv => whnf)
  exact ⟨trivial, fin_drop rfl⟩
theorem ScriptNil_walk (s : List UInt8) (w : World) (hW : ScrW w) (hl : s.length ≤ maxLen) :
    Calls Tryz.prog 3 #[.string (bs s)] w fun e w' => e = .returned (.bool true) ∧ Below w.heap.size w w' :=
  PureR.below (args := [.string (bs s)]) (sScriptNil (R := was w) (fun w' h => scrW_was hW h) s (by simp only [maxLen] at hl; omega))
end Go.Proofs.YtonbjlkmcikbgaaGreatDoor
