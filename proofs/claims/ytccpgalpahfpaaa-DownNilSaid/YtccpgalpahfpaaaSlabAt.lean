/-
  slab.At: a cell's value.
-/
import Derived.Test.YtccpgalpahfpaaaSlab
namespace Go.Proofs.Ytccpgalpahfpaaa
open Go.RowKit
set_option linter.unusedVariables false
set_option linter.unusedSimpArgs false

theorem i64_may (v : Int) (h : MayV v) : IntKind.i64.wrap v = v := by unfold MayV at h; exact IntWalk.i64_in _ (by omega)

theorem flat_at (z i : Int) (w : World) (h : MayV z) : Calls Try.prog 115 #[.int .i32 z, .int .i64 i] w fun e w' => e = .returned (.int .i64 z) ∧ w = w' := by
  have W1 := i64_may z h
  go_enter Try.func115, Try.ntmps115
  go_wp2_with fail
  go_ret
  exact ⟨rfl, rfl⟩

theorem rough_at (q n : Nat) (f : Nat → Int) (i : Nat) (w : World) (hb : Blk w q 21 (rowA n f)) (hi : i < n) (h : MayV (f i)) :
    Calls Try.prog 116 #[.slice (some ⟨q, 0, none⟩) n n, .int .i64 i] w fun e w' => e = .returned (.int .i64 (f i)) ∧ w = w' := by
  have W1 := i64_may (f i) h
  have hc : w.cell? ⟨q, i, none⟩ = some (.int .i32 (f i)) := (hb.cell i).trans (rowA_get n f i hi)
  clear hb
  go_enter Try.func116, Try.ntmps116
  go_wp2_with fail
  go_ret
  exact ⟨rfl, rfl⟩

set_option maxHeartbeats 2000000 in
set_option maxRecDepth 100000 in
theorem sAt_flat (b sw sh x y m : Nat) (v : Value) (z : Int) (w : World) (hb : Blk w b 133 #[.int .i64 sw, .int .i64 sh, v]) (h2 : sw ≤ 16) (h4 : sh ≤ 16) (hx : x < sw) (hy : y < sh) (hm : y * sw + x = m)
    (zz : Int) (hv : v = .iface 128 (.int .i32 zz))
    (HC : Hid (∀ W, Below w.heap.size w W → Calls Try.prog 115 #[.int .i32 zz, .int .i64 m] W fun e w' => e = .returned (.int .i64 z) ∧ W = w')) :
    Calls Try.prog 63 #[.pointer (some ⟨b, 0, none⟩), cellV x y] w (Ret (.tuple #[.int .i64 z, .int .i64 0]) w) := by
  subst hv
  have hs := fun W hbW => scheck_any b sw sh (.iface 128 (.int .i32 zz)) x y x y W hbW h2 h4
  rw [show withinZ x y x y sw sh = 0 from within_of ⟨by omega, by omega, by omega, by omega⟩ (by omega) (by omega) (by omega) (by omega) (by omega) (by omega)] at hs
  have HS := Lib.hid hs
  have hlt := hb.lt
  have HBK := Lib.hid hb
  have HM := Lib.hid hm
  clear hs hm hb
  have hmeth : ∀ (W : World), (method 270 128 (.int .i32 zz) "hachure/slab.at").run Try.prog W = .ok (115, .int .i32 zz) W := fun _ => by kernel_rfl
  go_enter Try.func63, Try.ntmps63
  go_wp2_with fail
  refine (sspot_any x y _).mono ?_
  rintro e w1 ⟨rfl, hb1⟩
  go_wp2_with fail
  refine (HS.out _ ((HBK.out.alloc _).kept hb1)).mono ?_
  rintro e w2 ⟨rfl, hb2⟩
  have HB2 : Below (w.heap.size + 1) (w.alloc (.cells #[.int .i64 x, .int .i64 y] 24)) w2 := by
    have := bel_trans hb1 hb2 (Nat.le_refl _)
    simpa using this
  have C := (box2_new w (.int .i64 x) (.int .i64 y) 24).bel HB2 (by omega)
  have D : Box3 w2 b (.int .i64 sw) (.int .i64 sh) (.iface 128 (.int .i32 zz)) := by
    have := (HBK.out.alloc (.cells #[.int .i64 x, .int .i64 y] 24)).below HB2 (by omega)
    exact ⟨this.cell 0, this.cell 1, this.cell 2⟩
  have HB : Below w.heap.size w w2 := (new_bel w _).trans (HB2.mono (by omega))
  clear hb1 hb2 HS HB2
  go_wp2_with fail
  have n1 : y * sw ≤ 256 := by have := Nat.mul_le_mul (show y ≤ 16 by omega) h2; omega
  have W1 : IntKind.i64.wrap ((y : Int) * (sw : Int)) = (y : Int) * (sw : Int) := IntWalk.i64_in _ (by rw [show (y : Int) * (sw : Int) = ((y * sw : Nat) : Int) by simp]; omega)
  have W2 : IntKind.i64.wrap ((y : Int) * (sw : Int) + (x : Int)) = (m : Int) := by
    rw [← HM.out, show (y : Int) * (sw : Int) + (x : Int) = ((y * sw + x : Nat) : Int) by simp]
    exact IntWalk.i64_in _ (by omega)
  go_region_held3 (fun W => (W.cell? ⟨w.heap.size, 0, none⟩ = some (.int .i64 x) ∧ W.cell? ⟨w.heap.size, 1, none⟩ = some (.int .i64 y)) ∧ W.cell? ⟨b, 0, none⟩ = some (.int .i64 sw) ∧ W.cell? ⟨b, 1, none⟩ = some (.int .i64 sh) ∧ W.cell? ⟨b, 2, none⟩ = some (.iface 128 (.int .i32 zz)))
    (first | exact ⟨C, D⟩)
    ((go_at_call 115; refine (HC.out _ ?_).mono ?_; exact HB.drew; rintro e w3 ⟨rfl, rfl⟩))
  go_wp2_with fail
  go_ret2
  exact ⟨rfl, HB.drew⟩
set_option maxHeartbeats 2000000 in
set_option maxRecDepth 100000 in
theorem sAt_rough (b sw sh x y m : Nat) (v : Value) (z : Int) (w : World) (hb : Blk w b 133 #[.int .i64 sw, .int .i64 sh, v]) (h2 : sw ≤ 16) (h4 : sh ≤ 16) (hx : x < sw) (hy : y < sh) (hm : y * sw + x = m)
    (A : Option Addr) (n c : Nat) (hv : v = .iface 135 (.slice A n c))
    (HC : Hid (∀ W, Below w.heap.size w W → Calls Try.prog 116 #[.slice A n c, .int .i64 m] W fun e w' => e = .returned (.int .i64 z) ∧ W = w')) :
    Calls Try.prog 63 #[.pointer (some ⟨b, 0, none⟩), cellV x y] w (Ret (.tuple #[.int .i64 z, .int .i64 0]) w) := by
  subst hv
  have hs := fun W hbW => scheck_any b sw sh (.iface 135 (.slice A n c)) x y x y W hbW h2 h4
  rw [show withinZ x y x y sw sh = 0 from within_of ⟨by omega, by omega, by omega, by omega⟩ (by omega) (by omega) (by omega) (by omega) (by omega) (by omega)] at hs
  have HS := Lib.hid hs
  have hlt := hb.lt
  have HBK := Lib.hid hb
  have HM := Lib.hid hm
  clear hs hm hb
  have hmeth : ∀ (W : World), (method 270 135 (.slice A n c) "hachure/slab.at").run Try.prog W = .ok (116, .slice A n c) W := fun _ => by kernel_rfl
  go_enter Try.func63, Try.ntmps63
  go_wp2_with fail
  refine (sspot_any x y _).mono ?_
  rintro e w1 ⟨rfl, hb1⟩
  go_wp2_with fail
  refine (HS.out _ ((HBK.out.alloc _).kept hb1)).mono ?_
  rintro e w2 ⟨rfl, hb2⟩
  have HB2 : Below (w.heap.size + 1) (w.alloc (.cells #[.int .i64 x, .int .i64 y] 24)) w2 := by
    have := bel_trans hb1 hb2 (Nat.le_refl _)
    simpa using this
  have C := (box2_new w (.int .i64 x) (.int .i64 y) 24).bel HB2 (by omega)
  have D : Box3 w2 b (.int .i64 sw) (.int .i64 sh) (.iface 135 (.slice A n c)) := by
    have := (HBK.out.alloc (.cells #[.int .i64 x, .int .i64 y] 24)).below HB2 (by omega)
    exact ⟨this.cell 0, this.cell 1, this.cell 2⟩
  have HB : Below w.heap.size w w2 := (new_bel w _).trans (HB2.mono (by omega))
  clear hb1 hb2 HS HB2
  go_wp2_with fail
  have n1 : y * sw ≤ 256 := by have := Nat.mul_le_mul (show y ≤ 16 by omega) h2; omega
  have W1 : IntKind.i64.wrap ((y : Int) * (sw : Int)) = (y : Int) * (sw : Int) := IntWalk.i64_in _ (by rw [show (y : Int) * (sw : Int) = ((y * sw : Nat) : Int) by simp]; omega)
  have W2 : IntKind.i64.wrap ((y : Int) * (sw : Int) + (x : Int)) = (m : Int) := by
    rw [← HM.out, show (y : Int) * (sw : Int) + (x : Int) = ((y * sw + x : Nat) : Int) by simp]
    exact IntWalk.i64_in _ (by omega)
  go_region_held3 (fun W => (W.cell? ⟨w.heap.size, 0, none⟩ = some (.int .i64 x) ∧ W.cell? ⟨w.heap.size, 1, none⟩ = some (.int .i64 y)) ∧ W.cell? ⟨b, 0, none⟩ = some (.int .i64 sw) ∧ W.cell? ⟨b, 1, none⟩ = some (.int .i64 sh) ∧ W.cell? ⟨b, 2, none⟩ = some (.iface 135 (.slice A n c)))
    (first | exact ⟨C, D⟩)
    ((go_at_call 116; refine (HC.out _ ?_).mono ?_; exact HB.drew; rintro e w3 ⟨rfl, rfl⟩))
  go_wp2_with fail
  go_ret2
  exact ⟨rfl, HB.drew⟩

theorem cell_lt {sw sh x y : Nat} (hx : x < sw) (hy : y < sh) : y * sw + x < sw * sh := by
  have : (y + 1) * sw ≤ sh * sw := Nat.mul_le_mul_right _ hy
  rw [Nat.succ_mul] at this
  rw [Nat.mul_comm sw sh]
  omega
theorem sAt_ok {b sw sh : Nat} {f : Nat → Int} {q : Option Nat} {w : World} (hS : SlabIs w b sw sh f q) (x y : Nat) (hx : x < sw) (hy : y < sh) :
    Calls Try.prog 63 #[.pointer (some ⟨b, 0, none⟩), cellV x y] w (Ret (.tuple #[.int .i64 (f (y * sw + x)), .int .i64 0]) w) := by
  obtain ⟨v, hb, hl⟩ := hS.body
  have hlt := cell_lt hx hy
  have hmay := hS.may _ hlt
  rcases q with _ | q
  · obtain ⟨z, hv, hf⟩ := hl
    have e := hf _ hlt
    rw [e] at hmay ⊢
    exact sAt_flat b sw sh x y _ v z w hb hS.w2 hS.h2 hx hy rfl z hv (Lib.hid fun W _ => flat_at z _ W hmay)
  · obtain ⟨hv, hq⟩ := hl
    exact sAt_rough b sw sh x y _ v _ w hb hS.w2 hS.h2 hx hy rfl _ _ _ hv (Lib.hid fun W hW => rough_at q _ f _ W (hq.kept hW) hlt hmay)
end Go.Proofs.Ytccpgalpahfpaaa
