/-
  (*Slab).rough: cells that may be written one by one.
-/
import Derived.Test.YtccpgalpahfpaaaRepeat
namespace Go.Proofs.Ytccpgalpahfpaaa
open Go.RowKit
set_option linter.unusedVariables false
set_option linter.unusedSimpArgs false

theorem ta_flat_rough (z : Int) (W : World) : (Instr.typeAssert (.iface 128 (.int .i32 z)) 131 135 true).run Try.prog W = .ok (.tuple #[.slice none 0 0, .bool false]) W := by kernel_rfl
theorem ta_rough_rough (A : Option Addr) (n c : Nat) (W : World) : (Instr.typeAssert (.iface 135 (.slice A n c)) 131 135 true).run Try.prog W = .ok (.tuple #[.slice A n c, .bool true]) W := by kernel_rfl
theorem ta_flat (z : Int) (W : World) : (Instr.typeAssert (.iface 128 (.int .i32 z)) 131 128 false).run Try.prog W = .ok (.int .i32 z) W := by kernel_rfl
theorem ta_flat_flat (z : Int) (W : World) : (Instr.typeAssert (.iface 128 (.int .i32 z)) 131 128 true).run Try.prog W = .ok (.tuple #[.int .i32 z, .bool true]) W := by kernel_rfl
theorem ta_rough_flat (A : Option Addr) (n c : Nat) (W : World) : (Instr.typeAssert (.iface 135 (.slice A n c)) 131 128 true).run Try.prog W = .ok (.tuple #[.int .i32 0, .bool false]) W := by kernel_rfl

/-- it hands out the row of a slab, that it may have made -/
def GivesRough (w : World) (b sw sh : Nat) (f : Nat → Int) (q : Option Nat) (e : Ending) (w' : World) : Prop :=
  ∃ g, e = .returned (.slice (some ⟨g, 0, none⟩) (sw * sh) (sw * sh)) ∧ SlabIs w' b sw sh f (some g) ∧ Touch (fun i => i = b) w w' ∧ (q = some g ∨ w.heap.size ≤ g)

set_option maxHeartbeats 2000000 in
set_option maxRecDepth 100000 in
theorem srough_some (b sw sh g : Nat) (f : Nat → Int) (w : World) (hS : SlabIs w b sw sh f (some g)) : Calls Try.prog 80 #[.pointer (some ⟨b, 0, none⟩)] w (GivesRough w b sw sh f (some g)) := by
  obtain ⟨v, hb, hv, hq⟩ := hS.body
  subst hv
  obtain ⟨n, hn⟩ : ∃ n, sw * sh = n := ⟨_, rfl⟩
  rw [hn] at hb
  have c2 := hb.cell 2
  simp at c2
  have HS := Lib.hid hS
  have HN := Lib.hid hn
  clear hS hb hq hn
  have ta := ta_rough_rough
  go_enter Try.func80, Try.ntmps80
  go_wp2_with fail
  go_ret
  exact ⟨g, by rw [HN.out]; rfl, HS.out, Touch.refl _ _, .inl rfl⟩

set_option maxHeartbeats 2000000 in
set_option maxRecDepth 100000 in
theorem srough_none (b sw sh : Nat) (f : Nat → Int) (w : World) (hS : SlabIs w b sw sh f none) : Calls Try.prog 80 #[.pointer (some ⟨b, 0, none⟩)] w (GivesRough w b sw sh f none) := by
  obtain ⟨v, hb, z, hv, hf⟩ := hS.body
  subst hv
  obtain ⟨n, hn⟩ : ∃ n, sw * sh = n := ⟨_, rfl⟩
  have D : Box3 w b (.int .i64 sw) (.int .i64 sh) (.iface 128 (.int .i32 z)) := ⟨hb.cell 0, hb.cell 1, hb.cell 2⟩
  have fz := hb.frozen 2
  have hlt := hb.lt
  have h1 : 1 ≤ n := by rw [← hn]; exact Nat.mul_pos hS.w1 hS.h1
  have h2 : n ≤ 256 := by rw [← hn]; exact Nat.mul_le_mul hS.w2 hS.h2
  have W1 : IntKind.i64.wrap ((sw : Int) * (sh : Int)) = (n : Int) := by
    rw [show (sw : Int) * (sh : Int) = ((sw * sh : Nat) : Int) by simp, hn]
    exact IntWalk.i64_in _ (by omega)
  have HS := Lib.hid hS
  have HF := Lib.hid hf
  have HBK := Lib.hid hb
  have HN := Lib.hid hn
  have D' := D
  obtain ⟨d0, d1, d2⟩ := D'
  clear hS hb hf hn
  have ta := ta_flat_rough
  have tb := ta_flat
  go_enter Try.func80, Try.ntmps80
  go_wp2_with fail
  have HX := Below.refl w.heap.size w
  have hc1 : ((w.alloc (.cells #[.int .i32 z] 21)).drew).cell? ⟨w.heap.size, 0, none⟩ = some (.int .i32 z) := by simp
  have hs1 : w.heap.size ≤ ((w.alloc (.cells #[.int .i32 z] 21)).drew).heap.size := by simp
  have DX : Box3 ((w.alloc (.cells #[.int .i32 z] 21)).drew) b (.int .i64 sw) (.int .i64 sh) (.iface 128 (.int .i32 z)) := D.bel (new_bel w (.cells #[.int .i32 z] 21)).drew hlt
  go_region_held3 (fun W => W.cell? ⟨b, 0, none⟩ = some (.int .i64 sw) ∧ W.cell? ⟨b, 1, none⟩ = some (.int .i64 sh) ∧ W.cell? ⟨b, 2, none⟩ = some (.iface 128 (.int .i32 z)))
    (first | exact D | exact DX | exact D.bel HX hlt)
    ((go_at_call 93; refine (Repeat_ok w.heap.size 1 n z _ hc1 h1 h2).mono ?_; rintro e w2 ⟨g, rfl, hg, hgb, hb2⟩; replace HX := (new_bel w (.cells #[.int .i32 z] 21)).drew.trans (hb2.mono hs1)))
  obtain ⟨e0, e1, e2⟩ := D.bel HX hlt
  have fz2 := bel_froz HX _ hlt fz
  have hgb' : w.heap.size ≤ g := by simp at hg; omega
  clear d0 d1 d2 fz
  go_wp2_with fail
  go_ret
  have hne : g ≠ b := by omega
  refine ⟨g, by rw [HN.out]; rfl, ⟨HS.out.w1, HS.out.w2, HS.out.h1, HS.out.h2, HS.out.may, _, (HBK.out.below HX hlt).set_ 2 _, ?_, ?_⟩, (Touch.of_kept (S := fun i => i = b) HX).setCell (p := ⟨b, 2, none⟩) (.inl rfl) _, .inr hgb'⟩
  · rw [HN.out]
  · have h := hgb.far (p := ⟨b, 2, none⟩) hne (.iface 135 (.slice (some ⟨g, 0, none⟩) n n))
    rw [HN.out, rowA_congr (h := fun _ => z) (fun k hk => HF.out k (by rw [HN.out]; exact hk))]
    exact h

theorem srough_ok {w : World} {b sw sh : Nat} {f : Nat → Int} {q : Option Nat} (hS : SlabIs w b sw sh f q) : Calls Try.prog 80 #[.pointer (some ⟨b, 0, none⟩)] w (GivesRough w b sw sh f q) := by
  rcases q with _ | q
  · exact srough_none b sw sh f w hS
  · exact srough_some b sw sh q f w hS
end Go.Proofs.Ytccpgalpahfpaaa
