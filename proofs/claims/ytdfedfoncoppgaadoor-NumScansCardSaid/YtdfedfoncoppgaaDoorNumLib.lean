/-
  The library's contracts that the numbers need, in the words of symbolic runs.
-/
import Derived.Test.YtdfedfoncoppgaaDoorNumD
import Derived.Test.YtdfedfoncoppgaaDoorNumShelf
import Derived.Lib.AppendIntMem
namespace Go.Proofs.YtdfedfoncoppgaaDoor
open Go.RowKit
open Sy
set_option linter.unusedVariables false
set_option linter.unusedSimpArgs false
set_option maxRecDepth 100000
set_option maxHeartbeats 4000000

/-- the tables and the errors that the library reads -/
def NumW (w : World) : Prop := Lib.TabIs Tryd.prog w "internal/strconv.uint64pow10" .u64 Lib.pow10Tab ∧ (∃ tp p, w.var? Tryd.prog "strconv.ErrRange" = some #[.iface tp p]) ∧ ∃ tp p, w.var? Tryd.prog "strconv.ErrSyntax" = some #[.iface tp p]
theorem sat_base {l : List HP} {R : HP} {w : World} (s : Sat (sepL l R) w) : Sat R w := by
  obtain ⟨h, h1, s⟩ := s
  obtain ⟨h', e, s'⟩ := sub_nil s
  exact ⟨h', h1.mono e, s'⟩
theorem sFormat {R : HP} (hN : ∀ w, Sat R w → NumW w) (n : Int) (h0 : -9223372036854775808 ≤ n) (h1 : n ≤ 9223372036854775807) : PureR Tryd.prog R 16 [.int .i64 n, .int .i64 10] (.string (bs (Lib.itoa n))) := by
  refine PureR.of_below fun w hw => (strconv_FormatInt_10 n h0 h1 w (hN w hw).1).mono ?_
  rintro e w' ⟨rfl, k, os, rfl⟩
  exact ⟨rfl, Lib.below_grow _ w (Nat.le_refl _) k os⟩
theorem sTrim {R : HP} (l p : List UInt8) : PureR Tryd.prog R 13 [.string (bs l), .string (bs p)] (.string (bs (Lib.trimPrefix l p))) := by
  refine PureR.of_below fun w hw => (strings_TrimPrefix (bs l) (bs p) w).mono ?_
  rintro e w' ⟨rfl, rfl⟩
  exact ⟨by simp only [bs_toList]; rfl, Below.refl _ _⟩
theorem sParse {R : HP} (l : List UInt8) (hl : l.length ≤ 9223372036854775806) {v : Int} (h : Lib.parseIntB 64 l = .ok v) : PureR Tryd.prog R 15 [.string (bs l), .int .i64 10, .int .i64 64] (.tuple #[.int .i64 v, .nilIface]) := by
  refine PureR.of_below fun w hw => (strconv_ParseInt_10_at64_ok (bs l) (by simpa using hl) v (by simpa using h) w).mono ?_
  rintro e w' ⟨rfl, hw'⟩
  refine ⟨rfl, ?_⟩
  rcases hw' with rfl | ⟨t, rfl⟩
  · exact Below.refl _ _
  · exact Lib.bytesWorld_below _ _ _
theorem sParseBad {R : HP} (hN : ∀ w, Sat R w → NumW w) (l : List UInt8) (hl : l.length ≤ 281474976710656) (h : ∀ v, Lib.parseIntB 64 l ≠ .ok v) : FnR Tryd.prog R 15 [.string (bs l), .int .i64 10, .int .i64 64] [] fun r hs => ∃ z N, r = .tuple #[.int .i64 z, .iface 47 (.pointer (some ⟨N, 0, none⟩))] ∧ hs = [] := by
  rintro w ⟨g, g1, g2⟩
  have key : Calls Tryd.prog 15 #[.string (bs l), .int .i64 10, .int .i64 64] w fun e w' => ∃ z N, e = .returned (.tuple #[.int .i64 z, .iface 47 (.pointer (some ⟨N, 0, none⟩))]) ∧ Below w.heap.size w w' := by
    obtain ⟨_, ⟨tp, p, e1⟩, tp', p', e2⟩ := hN w ⟨g, g1, g2⟩
    cases c : Lib.parseIntB 64 l with
    | ok v => exact absurd c (h v)
    | range =>
      refine (strconv_ParseInt_10_at64_range_var (bs l) (by simpa using hl) (by simpa using c) tp p w e1).mono ?_
      rintro e w' ⟨N, rfl, _, _, hb⟩
      exact ⟨_, N, rfl, hb⟩
    | _ =>
      refine (strconv_ParseInt_10_at64_syntax_var (bs l) (by simpa using hl) (by simpa using c) tp' p' w e2).mono ?_
      rintro e w' ⟨N, rfl, _, _, hb⟩
      exact ⟨_, N, rfl, hb⟩
  refine key.mono ?_
  rintro e w' ⟨z, N, rfl, hb⟩
  exact ⟨_, [], rfl, ⟨z, N, rfl, rfl⟩, ⟨g, g1.below hb, g2⟩, .of_below hb⟩
end Go.Proofs.YtdfedfoncoppgaaDoor
