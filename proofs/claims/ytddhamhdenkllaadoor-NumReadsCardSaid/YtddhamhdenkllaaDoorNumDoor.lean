/-
  What the rows' condition on the listed variables gives.
-/
import Derived.Test.YtddhamhdenkllaaDoorNumScans
import Derived.ProofKit
import Derived.OpenShut
import Derived.Lib.SmallJoins
import Derived.LaidMore
import Derived.Stop.Joined
import Derived.Stop.LaidErr
import Derived.Lib.LaidTab
import Derived.SevenTiedAt
import Derived.Test.YtddhamhdenkllaaDoorCards
namespace Go.Proofs.YtddhamhdenkllaaDoor
open Go.ChangeShapes Go.WideShapes Go.ChangeAt Go.RowKit Go.Joins Sy
set_option linter.unusedVariables false
set_option linter.unusedSimpArgs false
set_option maxRecDepth 100000
set_option maxHeartbeats 4000000

abbrev L5 : List (String × DataW Unit) := [("math/bits.deBruijn32tab", Rows.laid_math_bits_deBruijn32tab), ("math/bits.deBruijn64tab", Rows.laid_math_bits_deBruijn64tab), ("internal/strconv.uint64pow10", Rows.laid_internal_strconv_uint64pow10), ("strconv.ErrRange", Rows.laid_strconv_ErrRange), ("strconv.ErrSyntax", Rows.laid_strconv_ErrSyntax)]
theorem starN : "*" ++ "errors.errorString" = "*errors.errorString" := by decide
theorem rowN (u : TypeId) (h : Tryd.prog.typeName? 3 u = some "*errors.errorString") : u = 69 :=
  typeName_ptr_named (nm := "errors.errorString") (by rw [starN]; kernel_rfl) (by kernel_rfl) (by decide) u (by rw [starN]; exact h)
theorem numW_of {W : World} (h : laidMet Tryd.prog L5 W) : NumW W := by
  have h3 := h.tail.tail
  have h4 := h3.tail
  have h5 := h4.tail
  refine ⟨?_, ?_, ?_⟩
  · exact Lib.tabIs_of_head (n := 20) (e := 38) (t := 63) (g := 2) (by kernel_rfl) (by kernel_rfl) Tryd.underlying63 Tryd.underlying38 (by kernel_rfl) (by kernel_rfl) h3
  · obtain ⟨a0, s0, hv0, -, -, -⟩ := laid_sentinel (g := 1) (ti := 35) h4 (by kernel_rfl) (by kernel_rfl) Tryd.underlying35 rowN Tryd.underlying69 Tryd.underlying71 rfl rfl Tryd.underlying9 (by kernel_rfl) (by kernel_rfl)
    exact ⟨_, _, hv0⟩
  · obtain ⟨a0, s0, hv0, -, -, -⟩ := laid_sentinel (g := 0) (ti := 35) h5 (by kernel_rfl) (by kernel_rfl) Tryd.underlying35 rowN Tryd.underlying69 Tryd.underlying71 rfl rfl Tryd.underlying9 (by kernel_rfl) (by kernel_rfl)
    exact ⟨_, _, hv0⟩
theorem num_of_laid {W : World} (h : laidMetH Tryd.prog L5 W) : NumW W := by
  rw [MakeChecks.laidMetH_plain _ _ _ (by kernel_rfl)] at h
  exact numW_of h
theorem num_door (os : Os) (args : Array Value) : laidMetH Tryd.prog L5 ((World.doorLaid Tryd.prog 400 os).forCall (fun _ _ => 0) ⟨#[], args, []⟩).memory :=
  laidMetH_of_parts3 (fuel := 8) (laidMet_of_run' 8 (by kernel_rfl) (by kernel_rfl)) (by kernel_rfl) (by kernel_rfl)
/-- in every later world -/
theorem numW_was {W w : World} (h : NumW W) (s : Sat (was W) w) : NumW w := by
  have key : ∀ n cs, W.var? Tryd.prog n = some cs → w.var? Tryd.prog n = some cs := fun n cs e => by
    unfold World.var? at e ⊢
    obtain ⟨g, hg, e⟩ := Option.bind_eq_some_iff.1 e
    rw [hg]
    simp only [Option.bind_some]
    split at e
    · rename_i cs' _ _ hh
      rw [was_ext s hh]
      exact e
    · cases e
  exact ⟨key _ _ h.1, h.2.1.imp fun _ => Exists.imp fun _ => key _ _, h.2.2.imp fun _ => Exists.imp fun _ => key _ _⟩
theorem NumScans_walk (l : List UInt8) (at' : Int) (W : World) (h : NumW W) (hl : l.length ≤ maxLen) (h0 : -9223372036854775808 ≤ at') (h1 : at' ≤ 9223372036854775807) :
    Calls Tryd.prog 3 #[.string (bs l), .int .i64 at'] W fun e W' => e = .returned (.bool true) ∧ Below W.heap.size W W' :=
  (sNumScans (R := was W) (fun w hw => numW_was h hw) l at' (by simp only [maxLen] at hl; omega)).below
end Go.Proofs.YtddhamhdenkllaaDoor
