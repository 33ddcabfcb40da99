/-
  No cell of these rows narrows 'for every input' (looked for: loops, veiled, ifaces, maps, wideKeys, modest, calm, conditions, laid).
  DERIVED. THE GIVEN ROWS OF THIS SEAT. 7 by the template 'for every input the law returns true; each argument reads behind the call as it read before'; 0 by the template 'total and deterministic' (their statements: YtgelgkgmgjhmnaaTotals.lean).
  GIVEN WITH THE SEED: the statements are not yours to turn. If you find one false, say at which input.
  Laid BY PROGRAM, IN A SANDBOX (cutbox-rows.mjs): the forced cells as the released guide's own fill.sh prints them over the translation 42be3d9591a7c0c0… (all of the seat's roots in one cut). By AI agents, Wed Nov 11 2026. No macro, syntax, notation, axiom, sorry.
-/
import Derived.Test.YtgelgkgmgjhmnaaChecked
import GoSem.Claim
import GoSem.ClaimJoined
import GoSem.ClaimMapViews
import Derived.JoinedTies
import Derived.KernelRfl
namespace Go.Proofs.Ytgelgkgmgjhmnaa
/- THE CELL 'sum', in the pinned program and in every row, IS THE sha256 OF THE DUMP (.gsa) THAT YtgelgkgmgjhmnaaProg.lean LOADS. Nothing in Lean hashes anything: it is a label: what it is worth is what the hold of that sum in a sandbox is worth. -/
noncomputable def Try.pinned : Pinned := { name := "ytgelgkgmgjhmnaa", sum := "42be3d9591a7c0c0414c46e1d761eda05cbf19ee2333f45a68c3de73a76f4690", checked := Try.checked }
namespace Rows
def none {H : Type} : Left H := { results := [], args := [] }

/-- 'hachurelaw02.LebApart': WHATEVER THE INPUT: true; the input reads as it did. -/
def lebApartSpec : ChangeSpec := { name := "lebApart", fn := fun _ => fun
  | [d1, d2] => { results := [.lit (.bool true)], args := [d1, d2] }
  | _ => none }
def lebApartRow : OpenClaim := { program := "ytgelgkgmgjhmnaa", sum := "42be3d9591a7c0c0414c46e1d761eda05cbf19ee2333f45a68c3de73a76f4690", func := "hachure/hachurelaw02.LebApart", spec := "lebApart", apart := false }
def LebApartSaid : Prop := lebApartRow.holds Try.pinned (OpenSpec.ofChange lebApartSpec)

/-- ITS FALSE NEIGHBOUR: 'it returns false'. Refute it at one input. -/
def lebApartWrong : ChangeSpec := { name := "lebApart", fn := fun _ => fun
  | [d1, d2] => { results := [.lit (.bool false)], args := [d1, d2] }
  | _ => none }
def LebApartWrongFalsely : Prop := lebApartRow.holds Try.pinned (OpenSpec.ofChange lebApartWrong)

/-- 'hachurelaw02.LebFolds': WHATEVER THE INPUT: true; the input reads as it did. -/
def lebFoldsSpec : ChangeSpec := { name := "lebFolds", fn := fun _ => fun
  | [d1, d2] => { results := [.lit (.bool true)], args := [d1, d2] }
  | _ => none }
def lebFoldsRow : OpenClaim := { program := "ytgelgkgmgjhmnaa", sum := "42be3d9591a7c0c0414c46e1d761eda05cbf19ee2333f45a68c3de73a76f4690", func := "hachure/hachurelaw02.LebFolds", spec := "lebFolds", apart := false }
def LebFoldsSaid : Prop := lebFoldsRow.holds Try.pinned (OpenSpec.ofChange lebFoldsSpec)

/-- ITS FALSE NEIGHBOUR: 'it returns false'. Refute it at one input. -/
def lebFoldsWrong : ChangeSpec := { name := "lebFolds", fn := fun _ => fun
  | [d1, d2] => { results := [.lit (.bool false)], args := [d1, d2] }
  | _ => none }
def LebFoldsWrongFalsely : Prop := lebFoldsRow.holds Try.pinned (OpenSpec.ofChange lebFoldsWrong)

/-- 'hachurelaw02.LebGets': WHATEVER THE INPUT: true; the input reads as it did. -/
def lebGetsSpec : ChangeSpec := { name := "lebGets", fn := fun _ => fun
  | [d1, d2] => { results := [.lit (.bool true)], args := [d1, d2] }
  | _ => none }
def lebGetsRow : OpenClaim := { program := "ytgelgkgmgjhmnaa", sum := "42be3d9591a7c0c0414c46e1d761eda05cbf19ee2333f45a68c3de73a76f4690", func := "hachure/hachurelaw02.LebGets", spec := "lebGets", apart := false }
def LebGetsSaid : Prop := lebGetsRow.holds Try.pinned (OpenSpec.ofChange lebGetsSpec)

/-- ITS FALSE NEIGHBOUR: 'it returns false'. Refute it at one input. -/
def lebGetsWrong : ChangeSpec := { name := "lebGets", fn := fun _ => fun
  | [d1, d2] => { results := [.lit (.bool false)], args := [d1, d2] }
  | _ => none }
def LebGetsWrongFalsely : Prop := lebGetsRow.holds Try.pinned (OpenSpec.ofChange lebGetsWrong)

/-- 'hachurelaw02.LebPuts': WHATEVER THE INPUT: true; the input reads as it did. -/
def lebPutsSpec : ChangeSpec := { name := "lebPuts", fn := fun _ => fun
  | [d1, d2, d3] => { results := [.lit (.bool true)], args := [d1, d2, d3] }
  | _ => none }
def lebPutsRow : OpenClaim := { program := "ytgelgkgmgjhmnaa", sum := "42be3d9591a7c0c0414c46e1d761eda05cbf19ee2333f45a68c3de73a76f4690", func := "hachure/hachurelaw02.LebPuts", spec := "lebPuts", apart := false }
def LebPutsSaid : Prop := lebPutsRow.holds Try.pinned (OpenSpec.ofChange lebPutsSpec)

/-- ITS FALSE NEIGHBOUR: 'it returns false'. Refute it at one input. -/
def lebPutsWrong : ChangeSpec := { name := "lebPuts", fn := fun _ => fun
  | [d1, d2, d3] => { results := [.lit (.bool false)], args := [d1, d2, d3] }
  | _ => none }
def LebPutsWrongFalsely : Prop := lebPutsRow.holds Try.pinned (OpenSpec.ofChange lebPutsWrong)

/-- 'hachurelaw15.TierSizes': WHATEVER THE INPUT: true; the input reads as it did. -/
def tierSizesSpec : ChangeSpec := { name := "tierSizes", fn := fun _ => fun
  | [d1, d2, d3] => { results := [.lit (.bool true)], args := [d1, d2, d3] }
  | _ => none }
def tierSizesRow : OpenClaim := { program := "ytgelgkgmgjhmnaa", sum := "42be3d9591a7c0c0414c46e1d761eda05cbf19ee2333f45a68c3de73a76f4690", func := "hachure/hachurelaw15.TierSizes", spec := "tierSizes", apart := false }
def TierSizesSaid : Prop := tierSizesRow.holds Try.pinned (OpenSpec.ofChange tierSizesSpec)

/-- ITS FALSE NEIGHBOUR: 'it returns false'. Refute it at one input. -/
def tierSizesWrong : ChangeSpec := { name := "tierSizes", fn := fun _ => fun
  | [d1, d2, d3] => { results := [.lit (.bool false)], args := [d1, d2, d3] }
  | _ => none }
def TierSizesWrongFalsely : Prop := tierSizesRow.holds Try.pinned (OpenSpec.ofChange tierSizesWrong)

/-- 'hachurelaw15.TierKids': WHATEVER THE INPUT: true; the input reads as it did. -/
def tierKidsSpec : ChangeSpec := { name := "tierKids", fn := fun _ => fun
  | [d1, d2, d3, d4] => { results := [.lit (.bool true)], args := [d1, d2, d3, d4] }
  | _ => none }
def tierKidsRow : OpenClaim := { program := "ytgelgkgmgjhmnaa", sum := "42be3d9591a7c0c0414c46e1d761eda05cbf19ee2333f45a68c3de73a76f4690", func := "hachure/hachurelaw15.TierKids", spec := "tierKids", apart := false }
def TierKidsSaid : Prop := tierKidsRow.holds Try.pinned (OpenSpec.ofChange tierKidsSpec)

/-- ITS FALSE NEIGHBOUR: 'it returns false'. Refute it at one input. -/
def tierKidsWrong : ChangeSpec := { name := "tierKids", fn := fun _ => fun
  | [d1, d2, d3, d4] => { results := [.lit (.bool false)], args := [d1, d2, d3, d4] }
  | _ => none }
def TierKidsWrongFalsely : Prop := tierKidsRow.holds Try.pinned (OpenSpec.ofChange tierKidsWrong)

/-- 'hachurelaw15.TierSpans': WHATEVER THE INPUT: true; the input reads as it did. -/
def tierSpansSpec : ChangeSpec := { name := "tierSpans", fn := fun _ => fun
  | [d1, d2, d3, d4, d5] => { results := [.lit (.bool true)], args := [d1, d2, d3, d4, d5] }
  | _ => none }
def tierSpansRow : OpenClaim := { program := "ytgelgkgmgjhmnaa", sum := "42be3d9591a7c0c0414c46e1d761eda05cbf19ee2333f45a68c3de73a76f4690", func := "hachure/hachurelaw15.TierSpans", spec := "tierSpans", apart := false }
def TierSpansSaid : Prop := tierSpansRow.holds Try.pinned (OpenSpec.ofChange tierSpansSpec)

/-- ITS FALSE NEIGHBOUR: 'it returns false'. Refute it at one input. -/
def tierSpansWrong : ChangeSpec := { name := "tierSpans", fn := fun _ => fun
  | [d1, d2, d3, d4, d5] => { results := [.lit (.bool false)], args := [d1, d2, d3, d4, d5] }
  | _ => none }
def TierSpansWrongFalsely : Prop := tierSpansRow.holds Try.pinned (OpenSpec.ofChange tierSpansWrong)

/- THE SECOND FORM. 'bulk': how many values and letters a reading holds, each counted each time it is reached (what is shared counts as often as it is met; a slice's spare places count too). A statement '..UptoSaid' is the law's where the arguments, and the package variables that the reading takes, are together of bulk at most 1048576: NARROWER than '..Said'. Prove '..Said' where nothing that the law and all that it calls make is longer than what came in: it says more and counts as full. Else prove '..UptoSaid'. A law counts once. -/
mutual
def uptoBulk {H : Type} : DataW H → Nat
  | .lit (.string bytes) => bytes.length + 1
  | .lit _ => 1
  | .nil => 1
  | .ptr d => uptoBulk d + 1
  | .slice elems spare => uptoBulkAll elems + uptoBulkAll spare + 1
  | .agg parts => uptoBulkAll parts + 1
  | .iface _ d => uptoBulk d + 1
  | .map entries => uptoBulkEntries entries + 1
  | .held _ => 1
def uptoBulkAll {H : Type} : List (DataW H) → Nat
  | [] => 0
  | d :: r => uptoBulk d + uptoBulkAll r
def uptoBulkEntries {H : Type} : List (Lit × DataW H) → Nat
  | [] => 0
  | x :: r => uptoBulkEntry x + uptoBulkEntries r
def uptoBulkEntry {H : Type} : Lit × DataW H → Nat
  | (.string bytes, d) => bytes.length + uptoBulk d + 1
  | (_, d) => uptoBulk d + 1
 end
def uptoSmall : (H : Type) → List (DataW H) → Bool := fun _ ds => decide (uptoBulkAll ds ≤ 1048576)
def OpenSpec.upto (s : _root_.Go.ChangeSpec) : _root_.Go.OpenSpec := { _root_.Go.OpenSpec.ofChange s with cond := some uptoSmall }

/-- 'hachurelaw02.LebApart', WHERE WHAT IT READS IS OF BULK AT MOST 1048576: true; the input reads as it did. -/
def lebApartUptoRow : OpenClaim := { program := "ytgelgkgmgjhmnaa", sum := "42be3d9591a7c0c0414c46e1d761eda05cbf19ee2333f45a68c3de73a76f4690", func := "hachure/hachurelaw02.LebApart", spec := "lebApart", apart := false, narrowed := true }
def LebApartUptoSaid : Prop := lebApartUptoRow.holds Try.pinned (OpenSpec.upto lebApartSpec)

/-- 'hachurelaw02.LebFolds', WHERE WHAT IT READS IS OF BULK AT MOST 1048576: true; the input reads as it did. -/
def lebFoldsUptoRow : OpenClaim := { program := "ytgelgkgmgjhmnaa", sum := "42be3d9591a7c0c0414c46e1d761eda05cbf19ee2333f45a68c3de73a76f4690", func := "hachure/hachurelaw02.LebFolds", spec := "lebFolds", apart := false, narrowed := true }
def LebFoldsUptoSaid : Prop := lebFoldsUptoRow.holds Try.pinned (OpenSpec.upto lebFoldsSpec)

/-- 'hachurelaw02.LebGets', WHERE WHAT IT READS IS OF BULK AT MOST 1048576: true; the input reads as it did. -/
def lebGetsUptoRow : OpenClaim := { program := "ytgelgkgmgjhmnaa", sum := "42be3d9591a7c0c0414c46e1d761eda05cbf19ee2333f45a68c3de73a76f4690", func := "hachure/hachurelaw02.LebGets", spec := "lebGets", apart := false, narrowed := true }
def LebGetsUptoSaid : Prop := lebGetsUptoRow.holds Try.pinned (OpenSpec.upto lebGetsSpec)

/-- 'hachurelaw02.LebPuts', WHERE WHAT IT READS IS OF BULK AT MOST 1048576: true; the input reads as it did. -/
def lebPutsUptoRow : OpenClaim := { program := "ytgelgkgmgjhmnaa", sum := "42be3d9591a7c0c0414c46e1d761eda05cbf19ee2333f45a68c3de73a76f4690", func := "hachure/hachurelaw02.LebPuts", spec := "lebPuts", apart := false, narrowed := true }
def LebPutsUptoSaid : Prop := lebPutsUptoRow.holds Try.pinned (OpenSpec.upto lebPutsSpec)

/-- 'hachurelaw15.TierSizes', WHERE WHAT IT READS IS OF BULK AT MOST 1048576: true; the input reads as it did. -/
def tierSizesUptoRow : OpenClaim := { program := "ytgelgkgmgjhmnaa", sum := "42be3d9591a7c0c0414c46e1d761eda05cbf19ee2333f45a68c3de73a76f4690", func := "hachure/hachurelaw15.TierSizes", spec := "tierSizes", apart := false, narrowed := true }
def TierSizesUptoSaid : Prop := tierSizesUptoRow.holds Try.pinned (OpenSpec.upto tierSizesSpec)

/-- 'hachurelaw15.TierKids', WHERE WHAT IT READS IS OF BULK AT MOST 1048576: true; the input reads as it did. -/
def tierKidsUptoRow : OpenClaim := { program := "ytgelgkgmgjhmnaa", sum := "42be3d9591a7c0c0414c46e1d761eda05cbf19ee2333f45a68c3de73a76f4690", func := "hachure/hachurelaw15.TierKids", spec := "tierKids", apart := false, narrowed := true }
def TierKidsUptoSaid : Prop := tierKidsUptoRow.holds Try.pinned (OpenSpec.upto tierKidsSpec)

/-- 'hachurelaw15.TierSpans', WHERE WHAT IT READS IS OF BULK AT MOST 1048576: true; the input reads as it did. -/
def tierSpansUptoRow : OpenClaim := { program := "ytgelgkgmgjhmnaa", sum := "42be3d9591a7c0c0414c46e1d761eda05cbf19ee2333f45a68c3de73a76f4690", func := "hachure/hachurelaw15.TierSpans", spec := "tierSpans", apart := false, narrowed := true }
def TierSpansUptoSaid : Prop := tierSpansUptoRow.holds Try.pinned (OpenSpec.upto tierSpansSpec)

end Rows
end Go.Proofs.Ytgelgkgmgjhmnaa
