/-
  Texts of the proofs, one behind the other: ScDoor, ScAo, ScAs.
-/
import Derived.Test.YteplckkoiffnnaaGreatDoorSaB
import Derived.ProofKit
import Derived.OpenShut
import Derived.Lib.SmallJoins
import Derived.LaidMore
import Derived.Stop.Joined
import Derived.Stop.LaidErr
import Derived.Lib.LaidTab
import Derived.SevenTiedAt
import Derived.Shelf.Vars
import Derived.Lay
import Derived.Test.YteplckkoiffnnaaGreatDoorCards
import Derived.Test.YteplckkoiffnnaaGreatDoorSyPick
/-
  What the scripts' rows give: the numbers' tables; the library's own number; the verbs.
-/
namespace Go.Proofs.YteplckkoiffnnaaGreatDoor
open Go.ChangeShapes Go.WideShapes Go.ChangeAt Go.RowKit Go.Joins Sy
set_option linter.unusedVariables false
set_option linter.unusedSimpArgs false
set_option maxRecDepth 100000
set_option maxHeartbeats 4000000

abbrev L9 : List (String × DataW Unit) := [("math/bits.deBruijn32tab", Rows.laid_math_bits_deBruijn32tab), ("math/bits.deBruijn64tab", Rows.laid_math_bits_deBruijn64tab), ("internal/strconv.uint64pow10", Rows.laid_internal_strconv_uint64pow10), ("unicode/utf8.acceptRanges", Rows.laid_unicode_utf8_acceptRanges), ("strconv.ErrRange", Rows.laid_strconv_ErrRange), ("strconv.ErrSyntax", Rows.laid_strconv_ErrSyntax), ("hachure/crc.halves", Rows.laid_hachure_crc_halves), ("hachure/script.verbs", Rows.laid_hachure_script_verbs), ("unicode/utf8.first", Rows.laid_unicode_utf8_first)]
theorem starE : "*" ++ "errors.errorString" = "*errors.errorString" := by decide
theorem rowE (u : TypeId) (h : Tryz.prog.typeName? 3 u = some "*errors.errorString") : u = 467 :=
  typeName_ptr_named (nm := "errors.errorString") (by rw [starE]; kernel_rfl) (by kernel_rfl) (by decide) u (by rw [starE]; exact h)
theorem numW_of9 {W : World} (h : laidMet Tryz.prog L9 W) : NumW W := by
  have h3 := h.tail.tail
  have h4 := h3.tail.tail
  have h5 := h4.tail
  refine ⟨?_, ?_, ?_⟩
  · exact Lib.tabIs_of_head (n := 20) (e := 85) (t := 138) (g := 1) (by kernel_rfl) (by kernel_rfl) Tryz.underlying138 Tryz.underlying85 (by kernel_rfl) (by kernel_rfl) h3
  · obtain ⟨a0, s0, hv0, -, -, -⟩ := laid_sentinel (g := 8) (ti := 78) h4 (by kernel_rfl) (by kernel_rfl) Tryz.underlying78 rowE Tryz.underlying467 Tryz.underlying469 rfl rfl Tryz.underlying9 (by kernel_rfl) (by kernel_rfl)
    exact ⟨_, _, hv0⟩
  · obtain ⟨a0, s0, hv0, -, -, -⟩ := laid_sentinel (g := 7) (ti := 78) h5 (by kernel_rfl) (by kernel_rfl) Tryz.underlying78 rowE Tryz.underlying467 Tryz.underlying469 rfl rfl Tryz.underlying9 (by kernel_rfl) (by kernel_rfl)
    exact ⟨_, _, hv0⟩
theorem maxW_of {W : World} (h : W.ShapedOpen Tryz.prog) : ∃ m, W.cell? ⟨2, 0, none⟩ = some (.int .i64 m) :=
  cell_of_shapedOpen_int (t := 3) (zero := #[.int .i64 0]) h (of_decide_eq_true (by kernel_rfl)) (by kernel_rfl) rfl (by kernel_rfl) (by kernel_rfl) Tryz.underlying3
/-- an array of strings that reads as these -/
theorem cells_of_strs {H : Type} {enc : TypeId × Value → H} {P : Program} {w : World} {base : Nat} {sp : Nat → Bool} {held : Bool} {fuel : Nat} {t e : TypeId} {n : Nat} {cs : List Value} {zs : List (List UInt8)} {p : List MemPlace}
    (ht : P.underlying t = some (.array n e)) (he : P.underlying e = some .string) (hce : P.cellsOf e = 1) (hct : P.cellsOf t = n)
    (h : DataW.trod enc P w base sp held fuel t cs = some (.agg (zs.map fun z => .lit (.string z)), p)) : cs = zs.map fun z => Value.string (bs z) := by
  cases fuel with
  | zero => simp [DataW.trod] at h
  | succ fuel =>
    simp only [DataW.trod, ht, hce, hct, Nat.mul_one] at h
    split at h
    · rename_i hl
      obtain ⟨xs, hm, hx⟩ := Option.map_eq_some_iff.1 h
      have hxs : xs.map (·.1) = zs.map fun z => (DataW.lit (.string z) : DataW H) := by
        have := congrArg Prod.fst hx
        simpa using this
      have hxl : xs.length = n := by simpa using Lib.mapM_length hm
      have hzl : zs.length = n := by
        have := congrArg List.length hxs
        simp at this
        omega
      apply List.ext_getElem?
      intro i
      by_cases hi : i < n
      · obtain ⟨b, hb, hf⟩ := Lib.mapM_at hm i i (by simp [hi])
        obtain ⟨z, hc, rfl, _⟩ := DataW.trod_string he hf
        have h1 : cs[i]? = some (.string z) := by
          have := congrArg (·[0]?) hc
          simpa [List.getElem?_take, List.getElem?_drop] using this
        have h2 : (xs.map (·.1))[i]? = some (DataW.lit (.string z.data.toList) : DataW H) := by simp [hb]
        rw [hxs] at h2
        simp only [List.getElem?_map, Option.map_eq_some_iff, DataW.lit.injEq, Lit.string.injEq] at h2
        obtain ⟨z', hz', e⟩ := h2
        simp [h1, hz', e, bs_data]
      · rw [List.getElem?_eq_none (by omega), List.getElem?_eq_none (by simp; omega)]
    · cases h
def verbsL : List (List UInt8) := [[], [99, 114, 101, 97, 116, 101], [115, 101, 116], [102, 105, 108, 108], [112, 97, 115, 116, 101], [97, 100, 100], [103, 101, 116], [115, 117, 109], [109, 105, 110], [109, 97, 120], [111, 118, 101, 114], [114, 97, 110, 107], [115, 105, 103, 104, 116], [118, 105, 101, 119], [114, 101, 103, 105, 111, 110, 115], [115, 105, 110, 107], [114, 111, 117, 116, 101], [108, 101, 118, 101, 108], [102, 114, 101, 101, 122, 101], [116, 104, 97, 119], [111, 108, 100, 115, 117, 109], [111, 108, 100, 109, 105, 110], [111, 108, 100, 109, 97, 120], [115, 97, 118, 101], [108, 111, 97, 100], [117, 110, 100, 111], [114, 101, 100, 111], [100, 114, 97, 119]]
theorem verbs_is : Rows.laid_hachure_script_verbs (H := Unit) = .agg (verbsL.map fun z => .lit (.string z)) := rfl
/-- the variable's block -/
def VerbsW (w : World) : Prop := w.heap[0]? = some (.cells (verbsL.map fun z => Value.string (bs z)).toArray 133 (0, 0))
def MaxB (w : World) (m : Int) : Prop := w.heap[2]? = some (.cells #[.int .i64 m] 3 (0, 0))
theorem verbsW_of {W : World} (h : laidMet Tryz.prog L9 W) (hs : W.ShapedOpen Tryz.prog) : VerbsW W := by
  have h8 := h.tail.tail.tail.tail.tail.tail.tail
  obtain ⟨ps, ⟨g', t', cs, fuel, p, q, hg', ht', hvar, hd, _, _⟩, _⟩ := h8
  obtain rfl := Option.some.inj ((show Tryz.prog.globalNamed "hachure/script.verbs" = some 0 by kernel_rfl).symm.trans hg')
  obtain rfl := Option.some.inj ((show (Tryz.prog.globals[0]?).map (·.type) = some 133 by kernel_rfl).symm.trans ht')
  rw [verbs_is] at hd
  have hcs := cells_of_strs (n := 28) (e := 9) Tryz.underlying133 Tryz.underlying9 (by kernel_rfl) (by kernel_rfl) hd
  obtain ⟨cs', hh, _, _⟩ := hs.1 0 (verbsL.map fun _ => Value.string .empty).toArray 133 (of_decide_eq_true (by kernel_rfl)) (by kernel_rfl)
  unfold World.var? at hvar
  rw [show Tryz.prog.globalNamed "hachure/script.verbs" = some 0 by kernel_rfl] at hvar
  simp only [Option.bind_some, hh, Option.some.injEq] at hvar
  unfold VerbsW
  rw [hh, hvar, ← hcs]
theorem maxB_of {W : World} (hs : W.ShapedOpen Tryz.prog) : ∃ m, MaxB W m := by
  obtain ⟨cs, hh, hsz, _⟩ := hs.1 2 #[.int .i64 0] 3 (of_decide_eq_true (by kernel_rfl)) (by kernel_rfl)
  obtain ⟨m, hm⟩ := maxW_of hs
  refine ⟨m, ?_⟩
  unfold MaxB
  rw [hh]
  have h1 : cs.size = 1 := hsz
  have h2 : cs[0]? = some (.int .i64 m) := by simpa [World.cell?, hh] using hm
  have : cs = #[.int .i64 m] := by
    apply Array.ext
    · simp [h1]
    · intro i hi _
      have : i = 0 := by omega
      subst this
      simpa [hi] using h2
  rw [this]
/-- what the walks lean on -/
structure ScrW (w : World) : Prop where
  num : NumW w
  max : ∃ m, MaxB w m
  verbs : VerbsW w
theorem scrW_of {W : World} (h : laidMetH Tryz.prog L9 W) (hs : W.ShapedOpen Tryz.prog) : ScrW W := by
  rw [MakeChecks.laidMetH_plain _ _ _ (by kernel_rfl)] at h
  exact ⟨numW_of9 h, maxB_of hs, verbsW_of h hs⟩
theorem scr_door (os : Os) (args : Array Value) : laidMetH Tryz.prog L9 ((World.laidAll Tryz.prog os L9).forCall (fun _ _ => 0) ⟨#[], args, []⟩).memory := by
  rw [MakeChecks.laidMetH_plain _ _ _ (by kernel_rfl)]
  exact laidMet_laidAll _ (by kernel_rfl) (by kernel_rfl)
theorem verbsV_is : Cx.verbsV = verbsL.map fun z => Value.string (bs z) := rfl
theorem laid_scr {w : World} {m : Int} (h : VerbsW w) (hm : MaxB w m) : Cx.LaidT (Cx.maxS m :: Cx.tabS) w := by
  intro g o hg
  unfold Cx.lkT at hg
  split at hg
  · rename_i hx
    have hg := Option.some.inj hg
    rw [← hg, hx]
    exact hm
  · unfold Cx.tabS Cx.lkT at hg
    split at hg
    · rename_i hx
      have hg := Option.some.inj hg
      rw [← hg, hx]
      show w.heap[0]? = some (.cells Cx.verbsV.toArray 133 (0, 0))
      rw [verbsV_is]
      exact h
    · cases hg
/-- the law's awake -/
theorem sAwake37 {R : HP} (hW : ∀ w, Sat R w → ScrW w) : PureR Tryz.prog R 4 [] (.bool true) := PureR.of_below fun w hw => by
  obtain ⟨_, ⟨m, hm⟩, hv⟩ := hW w hw
  exact Cx.closed_saysM hmix Cx.orcS_ok (Cx.tabS_small m) rfl rfl (Cx.awake_runs m) (laid_scr hv hm)
/-- in every later world -/
theorem scrW_was {W w : World} (h : ScrW W) (s : Sat (was W) w) : ScrW w := by
  have key : ∀ n cs, W.var? Tryz.prog n = some cs → w.var? Tryz.prog n = some cs := fun n cs e => by
    unfold World.var? at e ⊢
    obtain ⟨g, hg, e⟩ := Option.bind_eq_some_iff.1 e
    rw [hg]
    simp only [Option.bind_some]
    split at e
    · rename_i cs' _ _ hh
      rw [was_ext s hh]
      exact e
    · cases e
  obtain ⟨h1, ⟨m, h2⟩, h3⟩ := h
  exact ⟨⟨key _ _ h1.1, h1.2.1.imp fun _ => Exists.imp fun _ => key _ _, h1.2.2.imp fun _ => Exists.imp fun _ => key _ _⟩, ⟨m, was_ext s h2⟩, was_ext s h3⟩
/-- the row's frame, with the world's shape handed on -/
theorem handed_shaped {H : Type} {enc : TypeId × Value → H} {a : Assume} {C : Checked} {os : Os} {f : FuncId} {fn : Func} {s : ChangeSpec} {conds : List PathCond} {apart fresh handsOn again : Bool} {X : World → Array Value → Prop}
    (hX : ∀ (w w' : World) (args : Array Value), w.heap = w'.heap → X w args → X w' args)
    (own : ownKnob C.prog.godebug = none) (started : os.Started) (noInit : C.prog.inits.idxOf? f = none) (hfn : C.prog.funcs[f]? = some fn)
    (witness : ∃ (w : World) (tape : Tape) (i : Input), w.os = os ∧ (w.forCall tape i).Shaped C.prog ∧ i.vars = [] ∧ Input.okWide C.prog (w.forCall tape i) .any w.heap.size f i ∧
      ((s.pre enc C.prog fn conds apart (w.forCall tape i).memory i.args ∧ X (w.forCall tape i).memory i.args) ∧ sizedMet enc C.prog fn (OpenSpec.ofChange s) apart (w.forCall tape i).memory i.args) ∧ a.holds C.prog (lone (Frame.enter C.prog f i.args .normal) [] (w.forCall tape i)))
    (contract : ∀ (W : World) (base : Nat) (args : Array Value) (ds gs : List (DataW H)) (before : List MemPlace),
      (∀ (j : Nat) t v, fn.params[j]? = some t → args[j]? = some v → Value.okWide C.prog W .any base t v) →
      DataW.Whole enc C.prog fn.params.toList s.vars apart W args.toList ds gs before → X W args → W.ShapedOpen C.prog →
      Calls C.prog f args W fun e W' => ∃ v, e = .returned v ∧ s.post enc C.prog fn apart fresh handsOn again W args v W') :
    ReturnsInHanded a C os f .any (fun w args => (s.pre enc C.prog fn conds apart w args ∧ X w args) ∧ sizedMet enc C.prog fn (OpenSpec.ofChange s) apart w args) (s.post enc C.prog fn apart fresh handsOn again) := by
  refine returnsInHanded_of_calls own started noInit witness ?_
  intro w tape i _ hsh _ hok hpre _
  obtain ⟨_, _, _, fn', hfn', _, _, _, _, hval⟩ := hok
  obtain rfl : fn' = fn := Option.some.inj (hfn'.symm.trans hfn)
  obtain ⟨⟨⟨ds, gs, before, hw, _⟩, hx⟩, _⟩ := hpre
  refine (contract (w.forCall tape i) w.heap.size i.args ds gs before hval (DataW.Whole.of_heap (w' := w.forCall tape i) (by rfl) hw) (hX _ _ _ (by rfl) hx) hsh).mono fun e W' ⟨v, he, hp⟩ => ?_
  subst he
  exact ChangeSpec.post_blind hp
end Go.Proofs.YteplckkoiffnnaaGreatDoor

/-
  script.Answer: Min, Max, Sight, Level, Save.
-/
namespace Go.Proofs.YteplckkoiffnnaaGreatDoor
open Go.RowKit
open Sy
set_option linter.unusedVariables false
set_option linter.unusedSimpArgs false
set_option maxRecDepth 100000
set_option maxHeartbeats 4000000

theorem sCellO {R : HP} {lb b : Nat} {tb : TypeId} {cs : Array Value} (hN : ∀ w, Sat R w → NumW w) (ws : List (List UInt8)) (k : Nat) (x y : Int) (hw : ws.length ≤ 100000) (hx : cs[k]? = some (.int .i64 x)) (hy : cs[k + 1]? = some (.int .i64 y)) (bx : I64 x) (by' : I64 y) :
    FnR Tryz.prog R 13 [.pointer (some ⟨lb, 0, none⟩), .pointer (some ⟨b, k, none⟩)] [lnH lb ws, blkH b tb cs] fun r hs => ∃ A c rest, hs = lnP lb (ws ++ [Lib.itoa x, Lib.itoa y]) (A, c) ++ rest ∧ r = .tuple #[] ∧ rest = [blkH b tb cs] :=
  FnR.openLn (sCell hN ws k x y hw hx hy bx by') (q := fun r rest => r = .tuple #[] ∧ rest = [blkH b tb cs]) fun v hs ⟨h1, h2⟩ => ⟨_, h2, h1, rfl⟩
theorem sWordO {R : HP} {lb : Nat} {ws : List (List UInt8)} (s : List UInt8) (hl : ws.length ≤ 1000000) : FnR Tryz.prog R 14 [.pointer (some ⟨lb, 0, none⟩), .string (bs s)] [lnH lb ws] fun r hs => ∃ A c rest, hs = lnP lb (ws ++ [s]) (A, c) ++ rest ∧ r = .string (bs s) ∧ rest = [] :=
  FnR.openLn (sWord s hl) (q := fun r rest => r = .string (bs s) ∧ rest = []) fun v hs ⟨h1, h2⟩ => ⟨_, h2, h1, rfl⟩
theorem sListO {R : HP} {lb b : Nat} {tb : TypeId} {cs : Array Value} {A : Option Addr} {n c : Nat} (hN : ∀ w, Sat R w → NumW w) (hM : ∀ w, Sat R w → MaxW w) (ws : List (List UInt8)) (k : Nat) (l : List Int) (hw : ws.length ≤ 100000) (hk : cs[k]? = some (.slice A n c)) (hl : l.length = n) (hn : n ≤ 40000) (hi : ∀ x ∈ l, I64 x) (ha : Sl R A n 1 (l.flatMap numL)) :
    FnR Tryz.prog R 18 [.pointer (some ⟨lb, 0, none⟩), .pointer (some ⟨b, k, none⟩)] [lnH lb ws, blkH b tb cs] fun r hs => ∃ A c rest, hs = lnP lb (ws ++ [listW l]) (A, c) ++ rest ∧ r = .tuple #[] ∧ ∃ v, rest = [blkH b tb (putC cs k v)] :=
  FnR.openLn (sList hN hM ws k l hw hk hl hn hi ha) (q := fun r rest => r = .tuple #[] ∧ ∃ v, rest = [blkH b tb (putC cs k v)]) fun v hs ⟨h1, u, h2⟩ => ⟨_, h2, h1, u, rfl⟩
theorem sAnswer2 {R : HP} {q : RepA} {x : Rep} (hN : ∀ w, Sat R w → NumW w) (kind : Int) (ok : x.ok) (few : x.few) (hc : x.code = 0) (hs : RepS R q x) (hk : kind = 8 ∨ kind = 9) :
    FnR Tryz.prog R 7 [.int .i64 kind, repV q x] [] fun r hs => ∃ A c, r = .slice A (ans kind x).length c ∧ hs = [rowH (.slice A (ans kind x).length c) (ans kind x).length 9 1 (strV (ans kind x))] := by
  have hjl := ansJ_len ok few kind
  have hW : ansW kind x = [Lib.itoa x.n, Lib.itoa x.ax, Lib.itoa x.ay] := by unfold ansW; rw [if_neg (by omega), if_pos (by omega)]
  have hans : ans kind x = [jn 32 (okT :: [Lib.itoa x.n, Lib.itoa x.ax, Lib.itoa x.ay])] := by
    unfold ans
    rw [if_neg (by simp [hc]), hW]
    unfold ansM
    rw [if_neg (by omega), if_neg (by omega)]
  rw [hW] at hjl
  rw [hans]
  unfold repV
  rw [hc]
  clear hans hW
  rcases hk with rfl | rfl
  all_goals
    refine fn_of_run0 false Tryz.func7 rfl hmix rfl fun w0 => ?_
    conv => whnf
    repeat (first | (refine ⟨fun _ => ?_, fun h => absurd h (by decide)⟩; conv => whnf) | (refine ⟨fun h => absurd h (by decide), fun _ => ?_⟩; conv => whnf))
    refine ⟨trivial, OpAt.lit [.string (bs okT)] 1 rfl rfl rfl rfl rfl (by decide) rfl rfl rfl (by simp [Value.cells]) rfl (by decide) fun g => ?_⟩
    conv => whnf
    repeat (first | (refine ⟨fun _ => ?_, fun h => absurd h (by decide)⟩; conv => whnf) | (refine ⟨fun h => absurd h (by decide), fun _ => ?_⟩; conv => whnf))
    refine ⟨trivial, (OpMk.expose 0 ?_).at⟩
    conv => whnf
    intro rb _
    refine OpMk.lit (ptrV rb [(1, x.n)]) 1 rfl rfl rfl rfl rfl (by decide) rfl rfl rfl (by simp [Value.cells]) rfl (by decide) fun g2 => ?_
    conv => whnf
    intro lb _
    conv => whnf
    refine ⟨trivial, CallAt.fn (pre := [lnH lb [okT], blkH rb 31 _]) _ (fun h s => sepL_perm ((List.Perm.swap _ _ _).cons _) (ln_new (ws := [okT]) (sepL_perm (List.Perm.swap _ _ _) (sepL_pull 3 s)))) (fun R' hR' => sNumbers (fun w s => hN w (Sat.rest (hR' w s))) [okT] [(1, x.n)] rfl (by decide) (by decide) (Sl.row fun w s => (hR' w s).in_ 0 rfl) (fun p hp => by simp at hp; subst hp; exact ⟨rfl, ok.n⟩)) ?_⟩
    rintro r hs ⟨rfl, rfl⟩
    conv => whnf
    refine ⟨trivial, CallAt.fn (pre := [lnH lb [okT, Lib.itoa x.n], blkH rb 31 _]) _ (fun h s => s) (fun R' hR' => sCellO (fun w s => hN w (Sat.rest (hR' w s))) [okT, Lib.itoa x.n] 3 x.ax x.ay (by simp) rfl rfl ok.ax ok.ay) ?_⟩
    rintro r hs ⟨A, c, rest, rfl, rfl, rfl⟩
    conv => whnf
    refine ⟨trivial, LoadAt.cell (.slice A [okT, Lib.itoa x.n, Lib.itoa x.ax, Lib.itoa x.ay].length c) rfl rfl (fun w hw => blk_cell (hw.in_ 0 rfl) rfl) ?_⟩
    conv => whnf
    refine ⟨trivial, CallAt.pure (fun R' hR' => sJoinR 32 [okT, Lib.itoa x.n, Lib.itoa x.ax, Lib.itoa x.ay] (fun w s => (hR' w s).in_ 1 rfl) (by simp) hjl (by simp)) ?_⟩
    conv => whnf
    refine ⟨trivial, OpAt.lit [.string (bs (jn 32 [okT, Lib.itoa x.n, Lib.itoa x.ax, Lib.itoa x.ay]))] 1 rfl rfl rfl rfl rfl (by decide) rfl rfl rfl (by simp [Value.cells]) rfl (by decide) fun g9 => ?_⟩
    conv => whnf
    refine ⟨trivial, OpAt.append (.slice (some ⟨g9, 0, none⟩) 1 1) 1 1 16 [.string (bs (jn 32 [okT, Lib.itoa x.n, Lib.itoa x.ax, Lib.itoa x.ay]))] [] none 0 0 _ rfl (fun h s => s) rfl rfl rfl rfl rfl rfl rfl rfl rfl (by decide) (fun w hw => Reads.empty) (by simp) (by decide) (by decide) fun A9 c9 => ?_⟩
    conv => whnf
    exact ⟨trivial, .mk [rowH (.slice A9 1 c9) 1 9 1 (strV [jn 32 [okT, Lib.itoa x.n, Lib.itoa x.ax, Lib.itoa x.ay]])] (fun w ⟨h, hs, s⟩ => by obtain ⟨h', e, s2⟩ := sub_head s; exact ⟨h', hs.mono e, s2⟩) ⟨A9, c9, rfl, rfl⟩⟩
theorem sAnswer3 {R : HP} {q : RepA} {x : Rep} (hN : ∀ w, Sat R w → NumW w) (kind : Int) (ok : x.ok) (few : x.few) (hc : x.code = 0) (hs : RepS R q x) (hk : kind = 12 ∧ x.yes = true) :
    FnR Tryz.prog R 7 [.int .i64 kind, repV q x] [] fun r hs => ∃ A c, r = .slice A (ans kind x).length c ∧ hs = [rowH (.slice A (ans kind x).length c) (ans kind x).length 9 1 (strV (ans kind x))] := by
  have hjl := ansJ_len ok few kind
  have hW : ansW kind x = [yesT] := by unfold ansW; rw [if_neg (by omega), if_neg (by omega), if_pos (by omega), if_pos hk.2]
  have hans : ans kind x = [jn 32 (okT :: [yesT])] := by
    unfold ans
    rw [if_neg (by simp [hc]), hW]
    unfold ansM
    rw [if_neg (by omega), if_neg (by omega)]
  rw [hW] at hjl
  rw [hans]
  unfold repV
  rw [hc]
  clear hans hW
  obtain ⟨rfl, hy⟩ := hk
  rw [hy]
  refine fn_of_run0 false Tryz.func7 rfl hmix rfl fun w0 => ?_
  conv => whnf
  repeat (first | (refine ⟨fun _ => ?_, fun h => absurd h (by decide)⟩; conv => whnf) | (refine ⟨fun h => absurd h (by decide), fun _ => ?_⟩; conv => whnf))
  refine ⟨trivial, OpAt.lit [.string (bs okT)] 1 rfl rfl rfl rfl rfl (by decide) rfl rfl rfl (by simp [Value.cells]) rfl (by decide) fun g => ?_⟩
  conv => whnf
  repeat (first | (refine ⟨fun _ => ?_, fun h => absurd h (by decide)⟩; conv => whnf) | (refine ⟨fun h => absurd h (by decide), fun _ => ?_⟩; conv => whnf))
  intro lb _
  conv => whnf
  refine ⟨trivial, CallAt.fn (pre := [lnH lb [okT]]) _ (fun h s => ln_new (ws := [okT]) s) (fun R' hR' => sWordO yesT (by simp)) ?_⟩
  rintro r hs ⟨A, c, rest, rfl, rfl, rfl⟩
  conv => whnf
  refine ⟨trivial, LoadAt.cell (.slice A [okT, yesT].length c) rfl rfl (fun w hw => blk_cell (hw.in_ 0 rfl) rfl) ?_⟩
  conv => whnf
  refine ⟨trivial, CallAt.pure (fun R' hR' => sJoinR 32 [okT, yesT] (fun w s => (hR' w s).in_ 1 rfl) (by simp) hjl (by simp)) ?_⟩
  conv => whnf
  refine ⟨trivial, OpAt.lit [.string (bs (jn 32 [okT, yesT]))] 1 rfl rfl rfl rfl rfl (by decide) rfl rfl rfl (by simp [Value.cells]) rfl (by decide) fun g9 => ?_⟩
  conv => whnf
  refine ⟨trivial, OpAt.append (.slice (some ⟨g9, 0, none⟩) 1 1) 1 1 16 [.string (bs (jn 32 [okT, yesT]))] [] none 0 0 _ rfl (fun h s => s) rfl rfl rfl rfl rfl rfl rfl rfl rfl (by decide) (fun w hw => Reads.empty) (by simp) (by decide) (by decide) fun A9 c9 => ?_⟩
  conv => whnf
  exact ⟨trivial, .mk [rowH (.slice A9 1 c9) 1 9 1 (strV [jn 32 [okT, yesT]])] (fun w ⟨h, hs, s⟩ => by obtain ⟨h', e, s2⟩ := sub_head s; exact ⟨h', hs.mono e, s2⟩) ⟨A9, c9, rfl, rfl⟩⟩
theorem sAnswer4 {R : HP} {q : RepA} {x : Rep} (hN : ∀ w, Sat R w → NumW w) (kind : Int) (ok : x.ok) (few : x.few) (hc : x.code = 0) (hs : RepS R q x) (hk : kind = 12 ∧ x.yes = false) :
    FnR Tryz.prog R 7 [.int .i64 kind, repV q x] [] fun r hs => ∃ A c, r = .slice A (ans kind x).length c ∧ hs = [rowH (.slice A (ans kind x).length c) (ans kind x).length 9 1 (strV (ans kind x))] := by
  have hjl := ansJ_len ok few kind
  have hW : ansW kind x = [noT, Lib.itoa x.ax, Lib.itoa x.ay] := by unfold ansW; rw [if_neg (by omega), if_neg (by omega), if_pos (by omega), if_neg (by simp [hk.2])]
  have hans : ans kind x = [jn 32 (okT :: [noT, Lib.itoa x.ax, Lib.itoa x.ay])] := by
    unfold ans
    rw [if_neg (by simp [hc]), hW]
    unfold ansM
    rw [if_neg (by omega), if_neg (by omega)]
  rw [hW] at hjl
  rw [hans]
  unfold repV
  rw [hc]
  clear hans hW
  obtain ⟨rfl, hy⟩ := hk
  rw [hy]
  refine fn_of_run0 false Tryz.func7 rfl hmix rfl fun w0 => ?_
  conv => whnf
  repeat (first | (refine ⟨fun _ => ?_, fun h => absurd h (by decide)⟩; conv => whnf) | (refine ⟨fun h => absurd h (by decide), fun _ => ?_⟩; conv => whnf))
  refine ⟨trivial, OpAt.lit [.string (bs okT)] 1 rfl rfl rfl rfl rfl (by decide) rfl rfl rfl (by simp [Value.cells]) rfl (by decide) fun g => ?_⟩
  conv => whnf
  repeat (first | (refine ⟨fun _ => ?_, fun h => absurd h (by decide)⟩; conv => whnf) | (refine ⟨fun h => absurd h (by decide), fun _ => ?_⟩; conv => whnf))
  intro lb _
  conv => whnf
  refine ⟨trivial, CallAt.fn (pre := [lnH lb [okT]]) _ (fun h s => ln_new (ws := [okT]) s) (fun R' hR' => sWord noT (by simp)) ?_⟩
  rintro r hs ⟨rfl, rfl⟩
  conv => whnf
  intro rb _
  conv => whnf
  refine ⟨trivial, CallAt.fn (pre := [lnH lb [okT, noT], blkH rb 31 _]) _ (fun h s => sepL_perm (List.Perm.swap _ _ _) s) (fun R' hR' => sCellO (fun w s => hN w (Sat.rest (hR' w s))) [okT, noT] 3 x.ax x.ay (by simp) rfl rfl ok.ax ok.ay) ?_⟩
  rintro r hs ⟨A, c, rest, rfl, rfl, rfl⟩
  conv => whnf
  refine ⟨trivial, LoadAt.cell (.slice A [okT, noT, Lib.itoa x.ax, Lib.itoa x.ay].length c) rfl rfl (fun w hw => blk_cell (hw.in_ 0 rfl) rfl) ?_⟩
  conv => whnf
  refine ⟨trivial, CallAt.pure (fun R' hR' => sJoinR 32 [okT, noT, Lib.itoa x.ax, Lib.itoa x.ay] (fun w s => (hR' w s).in_ 1 rfl) (by simp) hjl (by simp)) ?_⟩
  conv => whnf
  refine ⟨trivial, OpAt.lit [.string (bs (jn 32 [okT, noT, Lib.itoa x.ax, Lib.itoa x.ay]))] 1 rfl rfl rfl rfl rfl (by decide) rfl rfl rfl (by simp [Value.cells]) rfl (by decide) fun g9 => ?_⟩
  conv => whnf
  refine ⟨trivial, OpAt.append (.slice (some ⟨g9, 0, none⟩) 1 1) 1 1 16 [.string (bs (jn 32 [okT, noT, Lib.itoa x.ax, Lib.itoa x.ay]))] [] none 0 0 _ rfl (fun h s => s) rfl rfl rfl rfl rfl rfl rfl rfl rfl (by decide) (fun w hw => Reads.empty) (by simp) (by decide) (by decide) fun A9 c9 => ?_⟩
  conv => whnf
  exact ⟨trivial, .mk [rowH (.slice A9 1 c9) 1 9 1 (strV [jn 32 [okT, noT, Lib.itoa x.ax, Lib.itoa x.ay]])] (fun w ⟨h, hs, s⟩ => by obtain ⟨h', e, s2⟩ := sub_head s; exact ⟨h', hs.mono e, s2⟩) ⟨A9, c9, rfl, rfl⟩⟩
theorem sAnswer5 {R : HP} {q : RepA} {x : Rep} (hN : ∀ w, Sat R w → NumW w) (hM : ∀ w, Sat R w → MaxW w) (kind : Int) (ok : x.ok) (few : x.few) (hc : x.code = 0) (hs : RepS R q x) (hk : kind = 17) :
    FnR Tryz.prog R 7 [.int .i64 kind, repV q x] [] fun r hs => ∃ A c, r = .slice A (ans kind x).length c ∧ hs = [rowH (.slice A (ans kind x).length c) (ans kind x).length 9 1 (strV (ans kind x))] := by
  have hjl := ansJ_len ok few kind
  have hW : ansW kind x = [Lib.itoa x.ax, Lib.itoa x.ay, listW x.vals] := by unfold ansW; rw [if_neg (by omega), if_neg (by omega), if_neg (by omega), if_neg (by omega), if_neg (by omega), if_neg (by omega), if_pos (by omega)]
  have hans : ans kind x = [jn 32 (okT :: [Lib.itoa x.ax, Lib.itoa x.ay, listW x.vals])] := by
    unfold ans
    rw [if_neg (by simp [hc]), hW]
    unfold ansM
    rw [if_neg (by omega), if_neg (by omega)]
  rw [hW] at hjl
  rw [hans]
  unfold repV
  rw [hc]
  clear hans hW
  subst hk
  refine fn_of_run0 false Tryz.func7 rfl hmix rfl fun w0 => ?_
  conv => whnf
  repeat (first | (refine ⟨fun _ => ?_, fun h => absurd h (by decide)⟩; conv => whnf) | (refine ⟨fun h => absurd h (by decide), fun _ => ?_⟩; conv => whnf))
  refine ⟨trivial, OpAt.lit [.string (bs okT)] 1 rfl rfl rfl rfl rfl (by decide) rfl rfl rfl (by simp [Value.cells]) rfl (by decide) fun g => ?_⟩
  conv => whnf
  repeat (first | (refine ⟨fun _ => ?_, fun h => absurd h (by decide)⟩; conv => whnf) | (refine ⟨fun h => absurd h (by decide), fun _ => ?_⟩; conv => whnf))
  intro lb _
  conv => whnf
  intro rb _
  conv => whnf
  refine ⟨trivial, CallAt.fn (pre := [lnH lb [okT], blkH rb 31 _]) _ (fun h s => ln_new (ws := [okT]) (sepL_perm ((List.Perm.swap _ _ _).cons _) (sepL_pull 1 s))) (fun R' hR' => sCell (fun w s => hN w (Sat.rest (hR' w s))) [okT] 3 x.ax x.ay (by simp) rfl rfl ok.ax ok.ay) ?_⟩
  rintro r hs ⟨rfl, rfl⟩
  conv => whnf
  have hv := few.vals
  refine ⟨trivial, CallAt.fn (pre := [lnH lb [okT, Lib.itoa x.ax, Lib.itoa x.ay], blkH rb 31 _]) _ (fun h s => s) (fun R' hR' => sListO (fun w s => hN w (Sat.rest (hR' w s))) (fun w s => hM w (Sat.rest (hR' w s))) [okT, Lib.itoa x.ax, Lib.itoa x.ay] 6 x.vals (by simp) rfl rfl (by omega) ok.vals (hs.vals.mono fun w s => Sat.rest (hR' w s))) ?_⟩
  rintro r hs ⟨A, c, rest, rfl, rfl, v, rfl⟩
  conv => whnf
  refine ⟨trivial, LoadAt.cell (.slice A [okT, Lib.itoa x.ax, Lib.itoa x.ay, listW x.vals].length c) rfl rfl (fun w hw => blk_cell (hw.in_ 0 rfl) rfl) ?_⟩
  conv => whnf
  refine ⟨trivial, CallAt.pure (fun R' hR' => sJoinR 32 [okT, Lib.itoa x.ax, Lib.itoa x.ay, listW x.vals] (fun w s => (hR' w s).in_ 1 rfl) (by simp) hjl (by simp)) ?_⟩
  conv => whnf
  refine ⟨trivial, OpAt.lit [.string (bs (jn 32 [okT, Lib.itoa x.ax, Lib.itoa x.ay, listW x.vals]))] 1 rfl rfl rfl rfl rfl (by decide) rfl rfl rfl (by simp [Value.cells]) rfl (by decide) fun g9 => ?_⟩
  conv => whnf
  refine ⟨trivial, OpAt.append (.slice (some ⟨g9, 0, none⟩) 1 1) 1 1 16 [.string (bs (jn 32 [okT, Lib.itoa x.ax, Lib.itoa x.ay, listW x.vals]))] [] none 0 0 _ rfl (fun h s => s) rfl rfl rfl rfl rfl rfl rfl rfl rfl (by decide) (fun w hw => Reads.empty) (by simp) (by decide) (by decide) fun A9 c9 => ?_⟩
  conv => whnf
  exact ⟨trivial, .mk [rowH (.slice A9 1 c9) 1 9 1 (strV [jn 32 [okT, Lib.itoa x.ax, Lib.itoa x.ay, listW x.vals]])] (fun w ⟨h, hs, s⟩ => by obtain ⟨h', e, s2⟩ := sub_head s; exact ⟨h', hs.mono e, s2⟩) ⟨A9, c9, rfl, rfl⟩⟩
theorem sAnswer6 {R : HP} {q : RepA} {x : Rep} (hN : ∀ w, Sat R w → NumW w) (kind : Int) (ok : x.ok) (few : x.few) (hc : x.code = 0) (hs : RepS R q x) (hk : kind = 23) :
    FnR Tryz.prog R 7 [.int .i64 kind, repV q x] [] fun r hs => ∃ A c, r = .slice A (ans kind x).length c ∧ hs = [rowH (.slice A (ans kind x).length c) (ans kind x).length 9 1 (strV (ans kind x))] := by
  have hjl := ansJ_len ok few kind
  have hW : ansW kind x = [hexW x.byts] := by unfold ansW; rw [if_neg (by omega), if_neg (by omega), if_neg (by omega), if_neg (by omega), if_neg (by omega), if_neg (by omega), if_neg (by omega), if_pos (by omega)]
  have hans : ans kind x = [jn 32 (okT :: [hexW x.byts])] := by
    unfold ans
    rw [if_neg (by simp [hc]), hW]
    unfold ansM
    rw [if_neg (by omega), if_neg (by omega)]
  rw [hW] at hjl
  rw [hans]
  unfold repV
  rw [hc]
  clear hans hW
  subst hk
  have hv := few.byts
  refine fn_of_run0 false Tryz.func7 rfl hmix rfl fun w0 => ?_
  conv => whnf
  repeat (first | (refine ⟨fun _ => ?_, fun h => absurd h (by decide)⟩; conv => whnf) | (refine ⟨fun h => absurd h (by decide), fun _ => ?_⟩; conv => whnf))
  refine ⟨trivial, OpAt.lit [.string (bs okT)] 1 rfl rfl rfl rfl rfl (by decide) rfl rfl rfl (by simp [Value.cells]) rfl (by decide) fun g => ?_⟩
  conv => whnf
  repeat (first | (refine ⟨fun _ => ?_, fun h => absurd h (by decide)⟩; conv => whnf) | (refine ⟨fun h => absurd h (by decide), fun _ => ?_⟩; conv => whnf))
  refine ⟨trivial, CallAt.pure (fun R' hR' => sHex x.byts rfl (by omega) (hs.byts.mono fun w s => Sat.rest (hR' w s))) ?_⟩
  conv => whnf
  intro lb _
  conv => whnf
  refine ⟨trivial, CallAt.fn (pre := [lnH lb [okT]]) _ (fun h s => ln_new (ws := [okT]) s) (fun R' hR' => sWordO (hexW x.byts) (by simp)) ?_⟩
  rintro r hs ⟨A, c, rest, rfl, rfl, rfl⟩
  conv => whnf
  refine ⟨trivial, LoadAt.cell (.slice A [okT, hexW x.byts].length c) rfl rfl (fun w hw => blk_cell (hw.in_ 0 rfl) rfl) ?_⟩
  conv => whnf
  refine ⟨trivial, CallAt.pure (fun R' hR' => sJoinR 32 [okT, hexW x.byts] (fun w s => (hR' w s).in_ 1 rfl) (by simp) hjl (by simp)) ?_⟩
  conv => whnf
  refine ⟨trivial, OpAt.lit [.string (bs (jn 32 [okT, hexW x.byts]))] 1 rfl rfl rfl rfl rfl (by decide) rfl rfl rfl (by simp [Value.cells]) rfl (by decide) fun g9 => ?_⟩
  conv => whnf
  refine ⟨trivial, OpAt.append (.slice (some ⟨g9, 0, none⟩) 1 1) 1 1 16 [.string (bs (jn 32 [okT, hexW x.byts]))] [] none 0 0 _ rfl (fun h s => s) rfl rfl rfl rfl rfl rfl rfl rfl rfl (by decide) (fun w hw => Reads.empty) (by simp) (by decide) (by decide) fun A9 c9 => ?_⟩
  conv => whnf
  exact ⟨trivial, .mk [rowH (.slice A9 1 c9) 1 9 1 (strV [jn 32 [okT, hexW x.byts]])] (fun w ⟨h, hs, s⟩ => by obtain ⟨h', e, s2⟩ := sub_head s; exact ⟨h', hs.mono e, s2⟩) ⟨A9, c9, rfl, rfl⟩⟩
end Go.Proofs.YteplckkoiffnnaaGreatDoor

/-
  script.Answer: Sink, View, Route.
-/
namespace Go.Proofs.YteplckkoiffnnaaGreatDoor
open Go.RowKit
open Sy
set_option linter.unusedVariables false
set_option linter.unusedSimpArgs false
set_option maxRecDepth 100000
set_option maxHeartbeats 4000000

theorem sAnswer11 {R : HP} {q : RepA} {x : Rep} (hN : ∀ w, Sat R w → NumW w) (kind : Int) (ok : x.ok) (few : x.few) (hc : x.code = 0) (hs : RepS R q x) (hk : kind = 13) :
    FnR Tryz.prog R 7 [.int .i64 kind, repV q x] [] fun r hs => ∃ A c, r = .slice A (ans kind x).length c ∧ hs = [rowH (.slice A (ans kind x).length c) (ans kind x).length 9 1 (strV (ans kind x))] := by
  have hjl := ansJ_len ok few kind
  have hW : ansW kind x = Lib.itoa x.n :: x.cells.map celW := by unfold ansW; rw [if_neg (by omega), if_neg (by omega), if_neg (by omega), if_pos (by omega)]
  have hans : ans kind x = jn 32 (okT :: Lib.itoa x.n :: x.cells.map celW) :: [] := by
    unfold ans
    rw [if_neg (by simp [hc]), hW]
    unfold ansM
    rw [if_neg (by omega), if_neg (by omega)]
  rw [hW] at hjl
  rw [hans]
  unfold repV
  rw [hc]
  clear hans hW
  have hv := few.cells
  have hcl := fun R' (h : ∀ w, Sat R' w → Sat R w) => sCells (R := R') (c := q.c1) (fun w s => hN w (h w s)) x.cells rfl (by omega) ok.cells (hs.cells.mono h)
  have hlen : (x.cells.map celW).length = x.cells.length := List.length_map _
  generalize x.cells.map celW = us at *
  generalize x.cells.length = m at *
  have e : 2 + m = (okT :: Lib.itoa x.n :: us).length := by simp; omega
  subst hk
  · skip
    refine fn_of_run0 false Tryz.func7 rfl hmix rfl fun w0 => ?_
    conv => whnf
    repeat (first | (refine ⟨fun _ => ?_, fun h => absurd h (by decide)⟩; conv => whnf) | (refine ⟨fun h => absurd h (by decide), fun _ => ?_⟩; conv => whnf))
    refine ⟨trivial, OpAt.lit [.string (bs okT)] 1 rfl rfl rfl rfl rfl (by decide) rfl rfl rfl (by simp [Value.cells]) rfl (by decide) fun g => ?_⟩
    conv => whnf
    repeat (first | (refine ⟨fun _ => ?_, fun h => absurd h (by decide)⟩; conv => whnf) | (refine ⟨fun h => absurd h (by decide), fun _ => ?_⟩; conv => whnf))
    refine ⟨trivial, (OpMk.expose 0 ?_).at⟩
    conv => whnf
    intro rb _
    refine OpMk.lit (ptrV rb [(1, x.n)]) 1 rfl rfl rfl rfl rfl (by decide) rfl rfl rfl (by simp [Value.cells]) rfl (by decide) fun g2 => ?_
    conv => whnf
    intro lb _
    conv => whnf
    refine ⟨trivial, CallAt.fn (pre := [lnH lb [okT], blkH rb 31 _]) _ (fun h s => sepL_perm ((List.Perm.swap _ _ _).cons _) (ln_new (ws := [okT]) (sepL_perm (List.Perm.swap _ _ _) (sepL_pull 3 s)))) (fun R' hR' => sNumbersO (fun w s => hN w (Sat.rest (hR' w s))) [okT] [(1, x.n)] rfl (by decide) (by decide) (Sl.row fun w s => (hR' w s).in_ 0 rfl) (fun p hp => by simp at hp; subst hp; exact ⟨rfl, ok.n⟩)) ?_⟩
    rintro r hs ⟨A, c, rest, rfl, rfl, rfl⟩
    conv => whnf
    refine ⟨trivial, RegAt.trees0 [((Tr.T 0 (Tr.T 1 (Tr.T 2 (Tr.T 3 (Tr.T 5 (Tr.C 4 (Tr.H 6 (Tr.H 7 (Tr.H 8 Tr.E))) 6 (Tr.C 4 (Tr.H 7 (Tr.H 8 Tr.E)) 7 (Tr.H 4 (Tr.H 8 Tr.E))))))))), 9), ((Tr.T 9 Tr.E), 10), ((Tr.T 10 Tr.E), 11), ((Tr.H 11 Tr.E), 12)] hmix (by kernel_rfl) ?_⟩
    conv => whnf
    refine ⟨?_, ?_⟩
    · refine ⟨trivial, LoadAt.cell (.slice A 2 c) rfl rfl (fun w hw => blk_cell (hw.in_ 0 rfl) rfl) ?_⟩
      conv => whnf
      refine ⟨trivial, ⟨⟨rfl, rfl⟩, fun h s => sub_nil s⟩, ?_⟩
      conv => whnf
      refine ⟨trivial, LoadAt.cell (.slice q.A1 m q.c1) rfl rfl (fun w hw => blk_cell (hw.in_ 2 rfl) rfl) ?_⟩
      conv => whnf
      refine ⟨trivial, ⟨⟨rfl, rfl⟩, fun h s => sub_nil s⟩, ?_⟩
      conv => whnf
      refine ⟨trivial, CallAt.fn (pre := []) _ (fun h s => s) (fun R' hR' => hcl R' fun w s => Sat.rest (hR' w s)) ?_⟩
      rintro r hs' ⟨A1, c1, rfl, rfl⟩
      conv => whnf
      refine ⟨trivial, ⟨⟨rfl, rfl⟩, fun h s => sub_nil s⟩, ?_⟩
      conv => whnf
      refine ⟨trivial, OpAt.append (.slice A 2 c) 2 1 16 (strV [okT, Lib.itoa x.n]) (strV us) A1 m c1 _ rfl (fun h s => sepL_pull 2 s) rfl rfl rfl rfl rfl rfl rfl rfl rfl (by decide) (fun w hw => rowH_reads rfl (hw.in_ 0 rfl)) (by simp [Value.oneCell']) (by simp only [maxLen]; omega) (by omega) fun A2 c2 => ?_⟩
      conv => whnf
      refine ⟨trivial, ⟨⟨rfl, rfl⟩, fun h s => sub_nil s⟩, ?_⟩
      conv => whnf
      refine ⟨trivial, OpAt.store lb 0 (.slice A2 (2 + m) c2) _ rfl (fun h s => sepL_pull 2 s) rfl rfl rfl rfl rfl (by simp [Value.cells, Value.oneCell']) (fun h r => blk_put (by show 0 + 1 ≤ 2; omega) r) ?_⟩
      conv => whnf
      refine ⟨trivial, ?_⟩
      conv => whnf
      refine ⟨trivial, ?_⟩
      conv => whnf
      rw [e]
      refine ⟨trivial, LoadAt.cell (.slice A2 (okT :: Lib.itoa x.n :: us).length c2) rfl rfl (fun w hw => blk_cell (hw.in_ 0 rfl) rfl) ?_⟩
      conv => whnf
      refine ⟨trivial, CallAt.pure (fun R' hR' => sJoinR 32 (okT :: Lib.itoa x.n :: us) (fun w s => (hR' w s).in_ 1 rfl) (by simp) hjl (by simp; omega)) ?_⟩
      conv => whnf
      refine ⟨trivial, OpAt.lit [.string (bs (jn 32 (okT :: Lib.itoa x.n :: us)))] 1 rfl rfl rfl rfl rfl (by decide) rfl rfl rfl (by simp [Value.cells]) rfl (by decide) fun g9 => ?_⟩
      conv => whnf
      refine ⟨trivial, OpAt.append (.slice (some ⟨g9, 0, none⟩) 1 1) 1 1 16 [.string (bs (jn 32 (okT :: Lib.itoa x.n :: us)))] [] none 0 0 _ rfl (fun h s => s) rfl rfl rfl rfl rfl rfl rfl rfl rfl (by decide) (fun w hw => Reads.empty) (by simp) (by decide) (by decide) fun A9 c9 => ?_⟩
      conv => whnf
      exact ⟨trivial, .mk [rowH (.slice A9 1 c9) 1 9 1 (strV [jn 32 (okT :: Lib.itoa x.n :: us)])] (fun w ⟨h, hs, s⟩ => by obtain ⟨h', e, s2⟩ := sub_head s; exact ⟨h', hs.mono e, s2⟩) ⟨A9, c9, rfl, rfl⟩⟩
    · refine ⟨trivial, LoadAt.cell (.slice q.A1 m q.c1) rfl rfl (fun w hw => blk_cell (hw.in_ 2 rfl) rfl) ?_⟩
      conv => whnf
      refine ⟨trivial, ⟨⟨rfl, rfl⟩, fun h s => sub_nil s⟩, ?_⟩
      conv => whnf
      refine ⟨?_, ?_⟩
      · refine ⟨trivial, LoadAt.cell (.slice A 2 c) rfl rfl (fun w hw => blk_cell (hw.in_ 0 rfl) rfl) ?_⟩
        conv => whnf
        refine ⟨trivial, ⟨⟨rfl, rfl⟩, fun h s => sub_nil s⟩, ?_⟩
        conv => whnf
        refine ⟨trivial, CallAt.fn (pre := []) _ (fun h s => s) (fun R' hR' => hcl R' fun w s => Sat.rest (hR' w s)) ?_⟩
        rintro r hs' ⟨A1, c1, rfl, rfl⟩
        conv => whnf
        refine ⟨trivial, ⟨⟨rfl, rfl⟩, fun h s => sub_nil s⟩, ?_⟩
        conv => whnf
        refine ⟨trivial, OpAt.append (.slice A 2 c) 2 1 16 (strV [okT, Lib.itoa x.n]) (strV us) A1 m c1 _ rfl (fun h s => sepL_pull 2 s) rfl rfl rfl rfl rfl rfl rfl rfl rfl (by decide) (fun w hw => rowH_reads rfl (hw.in_ 0 rfl)) (by simp [Value.oneCell']) (by simp only [maxLen]; omega) (by omega) fun A2 c2 => ?_⟩
        conv => whnf
        refine ⟨trivial, ⟨⟨rfl, rfl⟩, fun h s => sub_nil s⟩, ?_⟩
        conv => whnf
        refine ⟨trivial, OpAt.store lb 0 (.slice A2 (2 + m) c2) _ rfl (fun h s => sepL_pull 2 s) rfl rfl rfl rfl rfl (by simp [Value.cells, Value.oneCell']) (fun h r => blk_put (by show 0 + 1 ≤ 2; omega) r) ?_⟩
        conv => whnf
        refine ⟨trivial, ?_⟩
        conv => whnf
        refine ⟨trivial, ?_⟩
        conv => whnf
        rw [e]
        refine ⟨trivial, LoadAt.cell (.slice A2 (okT :: Lib.itoa x.n :: us).length c2) rfl rfl (fun w hw => blk_cell (hw.in_ 0 rfl) rfl) ?_⟩
        conv => whnf
        refine ⟨trivial, CallAt.pure (fun R' hR' => sJoinR 32 (okT :: Lib.itoa x.n :: us) (fun w s => (hR' w s).in_ 1 rfl) (by simp) hjl (by simp; omega)) ?_⟩
        conv => whnf
        refine ⟨trivial, OpAt.lit [.string (bs (jn 32 (okT :: Lib.itoa x.n :: us)))] 1 rfl rfl rfl rfl rfl (by decide) rfl rfl rfl (by simp [Value.cells]) rfl (by decide) fun g9 => ?_⟩
        conv => whnf
        refine ⟨trivial, OpAt.append (.slice (some ⟨g9, 0, none⟩) 1 1) 1 1 16 [.string (bs (jn 32 (okT :: Lib.itoa x.n :: us)))] [] none 0 0 _ rfl (fun h s => s) rfl rfl rfl rfl rfl rfl rfl rfl rfl (by decide) (fun w hw => Reads.empty) (by simp) (by decide) (by decide) fun A9 c9 => ?_⟩
        conv => whnf
        exact ⟨trivial, .mk [rowH (.slice A9 1 c9) 1 9 1 (strV [jn 32 (okT :: Lib.itoa x.n :: us)])] (fun w ⟨h, hs, s⟩ => by obtain ⟨h', e, s2⟩ := sub_head s; exact ⟨h', hs.mono e, s2⟩) ⟨A9, c9, rfl, rfl⟩⟩
      · refine ⟨trivial, CallAt.fn (pre := []) _ (fun h s => s) (fun R' hR' => hcl R' fun w s => Sat.rest (hR' w s)) ?_⟩
        rintro r hs' ⟨A1, c1, rfl, rfl⟩
        conv => whnf
        refine ⟨trivial, ⟨⟨rfl, rfl⟩, fun h s => sub_nil s⟩, ?_⟩
        conv => whnf
        refine ⟨trivial, LoadAt.cell (.slice A 2 c) rfl rfl (fun w hw => blk_cell (hw.in_ 1 rfl) rfl) ?_⟩
        conv => whnf
        refine ⟨trivial, ⟨⟨rfl, rfl⟩, fun h s => sub_nil s⟩, ?_⟩
        conv => whnf
        refine ⟨trivial, OpAt.append (.slice A 2 c) 2 1 16 (strV [okT, Lib.itoa x.n]) (strV us) A1 m c1 _ rfl (fun h s => sepL_pull 2 s) rfl rfl rfl rfl rfl rfl rfl rfl rfl (by decide) (fun w hw => rowH_reads rfl (hw.in_ 0 rfl)) (by simp [Value.oneCell']) (by simp only [maxLen]; omega) (by omega) fun A2 c2 => ?_⟩
        conv => whnf
        refine ⟨trivial, ⟨⟨rfl, rfl⟩, fun h s => sub_nil s⟩, ?_⟩
        conv => whnf
        refine ⟨trivial, OpAt.store lb 0 (.slice A2 (2 + m) c2) _ rfl (fun h s => sepL_pull 2 s) rfl rfl rfl rfl rfl (by simp [Value.cells, Value.oneCell']) (fun h r => blk_put (by show 0 + 1 ≤ 2; omega) r) ?_⟩
        conv => whnf
        refine ⟨trivial, ?_⟩
        conv => whnf
        refine ⟨trivial, ?_⟩
        conv => whnf
        rw [e]
        refine ⟨trivial, LoadAt.cell (.slice A2 (okT :: Lib.itoa x.n :: us).length c2) rfl rfl (fun w hw => blk_cell (hw.in_ 0 rfl) rfl) ?_⟩
        conv => whnf
        refine ⟨trivial, CallAt.pure (fun R' hR' => sJoinR 32 (okT :: Lib.itoa x.n :: us) (fun w s => (hR' w s).in_ 1 rfl) (by simp) hjl (by simp; omega)) ?_⟩
        conv => whnf
        refine ⟨trivial, OpAt.lit [.string (bs (jn 32 (okT :: Lib.itoa x.n :: us)))] 1 rfl rfl rfl rfl rfl (by decide) rfl rfl rfl (by simp [Value.cells]) rfl (by decide) fun g9 => ?_⟩
        conv => whnf
        refine ⟨trivial, OpAt.append (.slice (some ⟨g9, 0, none⟩) 1 1) 1 1 16 [.string (bs (jn 32 (okT :: Lib.itoa x.n :: us)))] [] none 0 0 _ rfl (fun h s => s) rfl rfl rfl rfl rfl rfl rfl rfl rfl (by decide) (fun w hw => Reads.empty) (by simp) (by decide) (by decide) fun A9 c9 => ?_⟩
        conv => whnf
        exact ⟨trivial, .mk [rowH (.slice A9 1 c9) 1 9 1 (strV [jn 32 (okT :: Lib.itoa x.n :: us)])] (fun w ⟨h, hs, s⟩ => by obtain ⟨h', e, s2⟩ := sub_head s; exact ⟨h', hs.mono e, s2⟩) ⟨A9, c9, rfl, rfl⟩⟩
end Go.Proofs.YteplckkoiffnnaaGreatDoor

