/-
  What the scripts' rows give: the numbers' tables; the library's own number; the verbs.
-/
import Derived.Test.YtonbjlkmcikbgaaGreatDoorScA
import Derived.ProofKit
import Derived.OpenShut
import Derived.Lib.SmallJoins
import Derived.LaidMore
import Derived.Stop.Joined
import Derived.Stop.LaidErr
import Derived.Lib.LaidTab
import Derived.SevenTiedAt
import Derived.Shelf.Vars
import Derived.Lay
import Derived.Test.YtonbjlkmcikbgaaGreatDoorCards
namespace Go.Proofs.YtonbjlkmcikbgaaGreatDoor
open Go.ChangeShapes Go.WideShapes Go.ChangeAt Go.RowKit Go.Joins Sy
set_option linter.unusedVariables false
set_option linter.unusedSimpArgs false
set_option maxRecDepth 100000
set_option maxHeartbeats 4000000

abbrev L9 : List (String × DataW Unit) := [("math/bits.deBruijn32tab", Rows.laid_math_bits_deBruijn32tab), ("math/bits.deBruijn64tab", Rows.laid_math_bits_deBruijn64tab), ("internal/strconv.uint64pow10", Rows.laid_internal_strconv_uint64pow10), ("unicode/utf8.acceptRanges", Rows.laid_unicode_utf8_acceptRanges), ("strconv.ErrRange", Rows.laid_strconv_ErrRange), ("strconv.ErrSyntax", Rows.laid_strconv_ErrSyntax), ("hachure/crc.halves", Rows.laid_hachure_crc_halves), ("hachure/script.verbs", Rows.laid_hachure_script_verbs), ("unicode/utf8.first", Rows.laid_unicode_utf8_first)]
theorem starE : "*" ++ "errors.errorString" = "*errors.errorString" := by decide
theorem rowE (u : TypeId) (h : Tryz.prog.typeName? 3 u = some "*errors.errorString") : u = 484 :=
  typeName_ptr_named (nm := "errors.errorString") (by rw [starE]; kernel_rfl) (by kernel_rfl) (by decide) u (by rw [starE]; exact h)
theorem numW_of9 {W : World} (h : laidMet Tryz.prog L9 W) : NumW W := by
  have h3 := h.tail.tail
  have h4 := h3.tail.tail
  have h5 := h4.tail
  refine ⟨?_, ?_, ?_⟩
  · exact Lib.tabIs_of_head (n := 20) (e := 175) (t := 299) (g := 1) (by kernel_rfl) (by kernel_rfl) Tryz.underlying299 Tryz.underlying175 (by kernel_rfl) (by kernel_rfl) h3
  · obtain ⟨a0, s0, hv0, -, -, -⟩ := laid_sentinel (g := 9) (ti := 101) h4 (by kernel_rfl) (by kernel_rfl) Tryz.underlying101 rowE Tryz.underlying484 Tryz.underlying486 rfl rfl Tryz.underlying9 (by kernel_rfl) (by kernel_rfl)
    exact ⟨_, _, hv0⟩
  · obtain ⟨a0, s0, hv0, -, -, -⟩ := laid_sentinel (g := 8) (ti := 101) h5 (by kernel_rfl) (by kernel_rfl) Tryz.underlying101 rowE Tryz.underlying484 Tryz.underlying486 rfl rfl Tryz.underlying9 (by kernel_rfl) (by kernel_rfl)
    exact ⟨_, _, hv0⟩
theorem maxW_of {W : World} (h : W.ShapedOpen Tryz.prog) : ∃ m, W.cell? ⟨2, 0, none⟩ = some (.int .i64 m) :=
  cell_of_shapedOpen_int (t := 3) (zero := #[.int .i64 0]) h (of_decide_eq_true (by kernel_rfl)) (by kernel_rfl) rfl (by kernel_rfl) (by kernel_rfl) Tryz.underlying3
/-- an array of strings that reads as these -/
theorem cells_of_strs {H : Type} {enc : TypeId × Value → H} {P : Program} {w : World} {base : Nat} {sp : Nat → Bool} {held : Bool} {fuel : Nat} {t e : TypeId} {n : Nat} {cs : List Value} {zs : List (List UInt8)} {p : List MemPlace}
    (ht : P.underlying t = some (.array n e)) (he : P.underlying e = some .string) (hce : P.cellsOf e = 1) (hct : P.cellsOf t = n)
    (h : DataW.trod enc P w base sp held fuel t cs = some (.agg (zs.map fun z => .lit (.string z)), p)) : cs = zs.map fun z => Value.string (bs z) := by
  cases fuel with
  | zero => simp [DataW.trod] at h
  | succ fuel =>
    simp only [DataW.trod, ht, hce, hct, Nat.mul_one] at h
    split at h
    · rename_i hl
      obtain ⟨xs, hm, hx⟩ := Option.map_eq_some_iff.1 h
      have hxs : xs.map (·.1) = zs.map fun z => (DataW.lit (.string z) : DataW H) := by
        have := congrArg Prod.fst hx
        simpa using this
      have hxl : xs.length = n := by simpa using Lib.mapM_length hm
      have hzl : zs.length = n := by
        have := congrArg List.length hxs
        simp at this
        omega
      apply List.ext_getElem?
      intro i
      by_cases hi : i < n
      · obtain ⟨b, hb, hf⟩ := Lib.mapM_at hm i i (by simp [hi])
        obtain ⟨z, hc, rfl, _⟩ := DataW.trod_string he hf
        have h1 : cs[i]? = some (.string z) := by
          have := congrArg (·[0]?) hc
          simpa [List.getElem?_take, List.getElem?_drop] using this
        have h2 : (xs.map (·.1))[i]? = some (DataW.lit (.string z.data.toList) : DataW H) := by simp [hb]
        rw [hxs] at h2
        simp only [List.getElem?_map, Option.map_eq_some_iff, DataW.lit.injEq, Lit.string.injEq] at h2
        obtain ⟨z', hz', e⟩ := h2
        simp [h1, hz', e, bs_data]
      · rw [List.getElem?_eq_none (by omega), List.getElem?_eq_none (by simp; omega)]
    · cases h
def verbsL : List (List UInt8) := [[], [99, 114, 101, 97, 116, 101], [115, 101, 116], [102, 105, 108, 108], [112, 97, 115, 116, 101], [97, 100, 100], [103, 101, 116], [115, 117, 109], [109, 105, 110], [109, 97, 120], [111, 118, 101, 114], [114, 97, 110, 107], [115, 105, 103, 104, 116], [118, 105, 101, 119], [114, 101, 103, 105, 111, 110, 115], [115, 105, 110, 107], [114, 111, 117, 116, 101], [108, 101, 118, 101, 108], [102, 114, 101, 101, 122, 101], [116, 104, 97, 119], [111, 108, 100, 115, 117, 109], [111, 108, 100, 109, 105, 110], [111, 108, 100, 109, 97, 120], [115, 97, 118, 101], [108, 111, 97, 100], [117, 110, 100, 111], [114, 101, 100, 111], [100, 114, 97, 119]]
theorem verbs_is : Rows.laid_hachure_script_verbs (H := Unit) = .agg (verbsL.map fun z => .lit (.string z)) := rfl
/-- the variable's block -/
def VerbsW (w : World) : Prop := w.heap[0]? = some (.cells (verbsL.map fun z => Value.string (bs z)).toArray 109 (0, 0))
def MaxB (w : World) (m : Int) : Prop := w.heap[2]? = some (.cells #[.int .i64 m] 3 (0, 0))
theorem verbsW_of {W : World} (h : laidMet Tryz.prog L9 W) (hs : W.ShapedOpen Tryz.prog) : VerbsW W := by
  have h8 := h.tail.tail.tail.tail.tail.tail.tail
  obtain ⟨ps, ⟨g', t', cs, fuel, p, q, hg', ht', hvar, hd, _, _⟩, _⟩ := h8
  obtain rfl := Option.some.inj ((show Tryz.prog.globalNamed "hachure/script.verbs" = some 0 by kernel_rfl).symm.trans hg')
  obtain rfl := Option.some.inj ((show (Tryz.prog.globals[0]?).map (·.type) = some 109 by kernel_rfl).symm.trans ht')
  rw [verbs_is] at hd
  have hcs := cells_of_strs (n := 28) (e := 9) Tryz.underlying109 Tryz.underlying9 (by kernel_rfl) (by kernel_rfl) hd
  obtain ⟨cs', hh, _, _⟩ := hs.1 0 (verbsL.map fun _ => Value.string .empty).toArray 109 (of_decide_eq_true (by kernel_rfl)) (by kernel_rfl)
  unfold World.var? at hvar
  rw [show Tryz.prog.globalNamed "hachure/script.verbs" = some 0 by kernel_rfl] at hvar
  simp only [Option.bind_some, hh, Option.some.injEq] at hvar
  unfold VerbsW
  rw [hh, hvar, ← hcs]
theorem maxB_of {W : World} (hs : W.ShapedOpen Tryz.prog) : ∃ m, MaxB W m := by
  obtain ⟨cs, hh, hsz, _⟩ := hs.1 2 #[.int .i64 0] 3 (of_decide_eq_true (by kernel_rfl)) (by kernel_rfl)
  obtain ⟨m, hm⟩ := maxW_of hs
  refine ⟨m, ?_⟩
  unfold MaxB
  rw [hh]
  have h1 : cs.size = 1 := hsz
  have h2 : cs[0]? = some (.int .i64 m) := by simpa [World.cell?, hh] using hm
  have : cs = #[.int .i64 m] := by
    apply Array.ext
    · simp [h1]
    · intro i hi _
      have : i = 0 := by omega
      subst this
      simpa [hi] using h2
  rw [this]
/-- what the walks lean on -/
structure ScrW (w : World) : Prop where
  num : NumW w
  max : ∃ m, MaxB w m
  verbs : VerbsW w
theorem scrW_of {W : World} (h : laidMetH Tryz.prog L9 W) (hs : W.ShapedOpen Tryz.prog) : ScrW W := by
  rw [MakeChecks.laidMetH_plain _ _ _ (by kernel_rfl)] at h
  exact ⟨numW_of9 h, maxB_of hs, verbsW_of h hs⟩
theorem scr_door (os : Os) (args : Array Value) : laidMetH Tryz.prog L9 ((World.laidAll Tryz.prog os L9).forCall (fun _ _ => 0) ⟨#[], args, []⟩).memory := by
  rw [MakeChecks.laidMetH_plain _ _ _ (by kernel_rfl)]
  exact laidMet_laidAll _ (by kernel_rfl) (by kernel_rfl)
theorem verbsV_is : Cx.verbsV = verbsL.map fun z => Value.string (bs z) := rfl
theorem laid_scr {w : World} {m : Int} (h : VerbsW w) (hm : MaxB w m) : Cx.LaidT (Cx.maxS m :: Cx.tabS) w := by
  intro g o hg
  unfold Cx.lkT at hg
  split at hg
  · rename_i hx
    have hg := Option.some.inj hg
    rw [← hg, hx]
    exact hm
  · unfold Cx.tabS Cx.lkT at hg
    split at hg
    · rename_i hx
      have hg := Option.some.inj hg
      rw [← hg, hx]
      show w.heap[0]? = some (.cells Cx.verbsV.toArray 109 (0, 0))
      rw [verbsV_is]
      exact h
    · cases hg
/-- the law's awake -/
theorem sAwake37 {R : HP} (hW : ∀ w, Sat R w → ScrW w) : PureR Tryz.prog R 4 [] (.bool true) := PureR.of_below fun w hw => by
  obtain ⟨_, ⟨m, hm⟩, hv⟩ := hW w hw
  exact Cx.closed_saysM hmix Cx.orcS_ok (Cx.tabS_small m) rfl rfl (Cx.awake_runs m) (laid_scr hv hm)
/-- in every later world -/
theorem scrW_was {W w : World} (h : ScrW W) (s : Sat (was W) w) : ScrW w := by
  have key : ∀ n cs, W.var? Tryz.prog n = some cs → w.var? Tryz.prog n = some cs := fun n cs e => by
    unfold World.var? at e ⊢
    obtain ⟨g, hg, e⟩ := Option.bind_eq_some_iff.1 e
    rw [hg]
    simp only [Option.bind_some]
    split at e
    · rename_i cs' _ _ hh
      rw [was_ext s hh]
      exact e
    · cases e
  obtain ⟨h1, ⟨m, h2⟩, h3⟩ := h
  exact ⟨⟨key _ _ h1.1, h1.2.1.imp fun _ => Exists.imp fun _ => key _ _, h1.2.2.imp fun _ => Exists.imp fun _ => key _ _⟩, ⟨m, was_ext s h2⟩, was_ext s h3⟩
/-- the row's frame, with the world's shape handed on -/
theorem handed_shaped {H : Type} {enc : TypeId × Value → H} {a : Assume} {C : Checked} {os : Os} {f : FuncId} {fn : Func} {s : ChangeSpec} {conds : List PathCond} {apart fresh handsOn again : Bool} {X : World → Array Value → Prop}
    (hX : ∀ (w w' : World) (args : Array Value), w.heap = w'.heap → X w args → X w' args)
    (own : ownKnob C.prog.godebug = none) (started : os.Started) (noInit : C.prog.inits.idxOf? f = none) (hfn : C.prog.funcs[f]? = some fn)
    (witness : ∃ (w : World) (tape : Tape) (i : Input), w.os = os ∧ (w.forCall tape i).Shaped C.prog ∧ i.vars = [] ∧ Input.okWide C.prog (w.forCall tape i) .any w.heap.size f i ∧
      ((s.pre enc C.prog fn conds apart (w.forCall tape i).memory i.args ∧ X (w.forCall tape i).memory i.args) ∧ sizedMet enc C.prog fn (OpenSpec.ofChange s) apart (w.forCall tape i).memory i.args) ∧ a.holds C.prog (lone (Frame.enter C.prog f i.args .normal) [] (w.forCall tape i)))
    (contract : ∀ (W : World) (base : Nat) (args : Array Value) (ds gs : List (DataW H)) (before : List MemPlace),
      (∀ (j : Nat) t v, fn.params[j]? = some t → args[j]? = some v → Value.okWide C.prog W .any base t v) →
      DataW.Whole enc C.prog fn.params.toList s.vars apart W args.toList ds gs before → X W args → W.ShapedOpen C.prog →
      Calls C.prog f args W fun e W' => ∃ v, e = .returned v ∧ s.post enc C.prog fn apart fresh handsOn again W args v W') :
    ReturnsInHanded a C os f .any (fun w args => (s.pre enc C.prog fn conds apart w args ∧ X w args) ∧ sizedMet enc C.prog fn (OpenSpec.ofChange s) apart w args) (s.post enc C.prog fn apart fresh handsOn again) := by
  refine returnsInHanded_of_calls own started noInit witness ?_
  intro w tape i _ hsh _ hok hpre _
  obtain ⟨_, _, _, fn', hfn', _, _, _, _, hval⟩ := hok
  obtain rfl : fn' = fn := Option.some.inj (hfn'.symm.trans hfn)
  obtain ⟨⟨⟨ds, gs, before, hw, _⟩, hx⟩, _⟩ := hpre
  refine (contract (w.forCall tape i) w.heap.size i.args ds gs before hval (DataW.Whole.of_heap (w' := w.forCall tape i) (by rfl) hw) (hX _ _ _ (by rfl) hx) hsh).mono fun e W' ⟨v, he, hp⟩ => ?_
  subst he
  exact ChangeSpec.post_blind hp
end Go.Proofs.YtonbjlkmcikbgaaGreatDoor
