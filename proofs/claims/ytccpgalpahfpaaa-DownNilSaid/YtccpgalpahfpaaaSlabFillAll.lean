/-
  (*Slab).Fill: a rectangle of a slab gets one value, whatever the slab is.
-/
import Derived.Test.YtccpgalpahfpaaaSlabPartT
import Derived.Test.YtccpgalpahfpaaaSlabPartF
namespace Go.Proofs.Ytccpgalpahfpaaa
open Go.RowKit
set_option linter.unusedVariables false
set_option linter.unusedSimpArgs false

theorem filled_flat {w w1 : World} {b sw sh x0 y0 x1 y1 : Nat} {f : Nat → Int} {q : Option Nat} {v : Int} {V : Value} (hS : SlabIs w b sw sh f q) (hb : Blk w b 133 #[.int .i64 sw, .int .i64 sh, V]) (hv : MayV v) (hall : ∀ k, k < sw * sh → fillK sw x0 y0 x1 y1 v f k = v)
    (h1 : Below w.heap.size w w1) : GivesFilled w b sw sh (fillK sw x0 y0 x1 y1 v f) q (.returned (.int .i64 0)) (w1.setCell ⟨b, 2, none⟩ (.iface 128 (.int .i32 v))) := by
  refine ⟨none, rfl, slab_flat rfl hS.w1 hS.w2 hS.h1 hS.h2 (fun k hk => ?_) hall ((hb.kept h1).set_ 2 _), (Touch.of_kept (S := fun i => i = b ∨ some i = q) h1).setCell (p := ⟨b, 2, none⟩) (.inl (.inl rfl)) _, (fun _ h => by cases h)⟩
  rw [hall k hk]; exact hv

theorem area_cast {x0 y0 x1 y1 : Nat} (hx : x0 ≤ x1) (hy : y0 ≤ y1) : ((x1 : Int) - x0 + 1) * ((y1 : Int) - y0 + 1) = (((x1 - x0 + 1) * (y1 - y0 + 1) : Nat) : Int) := by
  rw [Int.natCast_mul]
  congr 1 <;> omega

theorem sFill_ok {w : World} {b sw sh : Nat} {f : Nat → Int} {q : Option Nat} (hS : SlabIs w b sw sh f q) (x0 y0 x1 y1 : Nat) (v : Int) (hx : x0 ≤ x1) (hx' : x1 < sw) (hy : y0 ≤ y1) (hy' : y1 < sh) (hv : MayV v) :
    Calls Try.prog 49 #[.pointer (some ⟨b, 0, none⟩), rectV x0 y0 x1 y1, .int .i64 v] w (GivesFilled w b sw sh (fillK sw x0 y0 x1 y1 v f) q) := by
  obtain ⟨V, hb, hl⟩ := hS.body
  have HR := Lib.hid fun W (hW : Below w.heap.size w W) => srough_ok (hS.kept hW)
  have hwhole : (((x1 : Int) - x0 + 1) * ((y1 : Int) - y0 + 1) == ((sw * sh : Nat) : Int)) = true → ∀ k, k < sw * sh → fillK sw x0 y0 x1 y1 v f k = v := by
    intro he k hk
    rw [beq_iff_eq, area_cast hx hy] at he
    obtain ⟨e1, e2, e3, e4⟩ := whole_all hx hx' hy hy' (by omega)
    have d1 := Nat.mod_lt k (show 0 < sw by omega)
    have d2 : k / sw < sh := Nat.div_lt_of_lt_mul hk
    unfold fillK
    generalize k % sw = a at *
    generalize k / sw = c at *
    rw [if_pos ⟨by omega, by omega, by omega, by omega⟩]
  rcases q with _ | g
  · obtain ⟨z, rfl, hf⟩ := hl
    by_cases hz : z = v
    · refine (sFill_same b sw sh x0 y0 x1 y1 _ v z _ w hb hS.w1 hS.w2 hS.h1 hS.h2 rfl hx hx' hy hy' hv (fun W => ta_flat_flat z W) (by rw [beq_iff_eq]; exact hz)).mono ?_
      rintro e w' ⟨rfl, w1, h1, rfl⟩
      refine filled_flat hS hb hv (fun k hk => ?_) h1
      unfold fillK
      split
      · rfl
      · rw [hf k hk, hz]
    · have hone : (z == v) = false := by rw [beq_eq_false_iff_ne]; exact hz
      rcases hA : (((x1 : Int) - x0 + 1) * ((y1 : Int) - y0 + 1) == ((sw * sh : Nat) : Int)) with _ | _
      · exact sFill_part_t b sw sh x0 y0 x1 y1 _ v z _ f none w hb hS.w1 hS.w2 hS.h1 hS.h2 rfl hx hx' hy hy' hv (fun W => ta_flat_flat z W) hone hA HR
      · refine (sFill_whole_t b sw sh x0 y0 x1 y1 _ v z _ w hb hS.w1 hS.w2 hS.h1 hS.h2 rfl hx hx' hy hy' hv (fun W => ta_flat_flat z W) hone hA).mono ?_
        rintro e w' ⟨rfl, w1, h1, rfl⟩
        exact filled_flat hS hb hv (hwhole hA) h1
  · obtain ⟨rfl, hg⟩ := hl
    rcases hA : (((x1 : Int) - x0 + 1) * ((y1 : Int) - y0 + 1) == ((sw * sh : Nat) : Int)) with _ | _
    · exact sFill_part_f b sw sh x0 y0 x1 y1 _ v 0 _ f (some g) w hb hS.w1 hS.w2 hS.h1 hS.h2 rfl hx hx' hy hy' hv (fun W => ta_rough_flat _ _ _ W) hA HR
    · refine (sFill_whole_f b sw sh x0 y0 x1 y1 _ v 0 _ w hb hS.w1 hS.w2 hS.h1 hS.h2 rfl hx hx' hy hy' hv (fun W => ta_rough_flat _ _ _ W) hA).mono ?_
      rintro e w' ⟨rfl, w1, h1, rfl⟩
      exact filled_flat hS hb hv (hwhole hA) h1
end Go.Proofs.Ytccpgalpahfpaaa
