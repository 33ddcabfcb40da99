/-
  No cell of these rows narrows 'for every input' (looked for: loops, veiled, ifaces, maps, wideKeys, modest, calm, conditions, laid).
  DERIVED. THE GIVEN ROWS OF THIS SEAT. 8 by the template 'for every input the law returns true; each argument reads behind the call as it read before'; 0 by the template 'total and deterministic' (their statements: YtccpgalpahfpaaaTotals.lean).
  GIVEN WITH THE SEED: the statements are not yours to turn. If you find one false, say at which input.
  Laid BY PROGRAM, IN A SANDBOX (cutbox-rows.mjs): the forced cells as the released guide's own fill.sh prints them over the translation da286b98798a4742… (all of the seat's roots in one cut). By AI agents, Wed Nov 11 2026. No macro, syntax, notation, axiom, sorry.
-/
import Derived.Test.YtccpgalpahfpaaaChecked
import GoSem.Claim
import GoSem.ClaimJoined
import GoSem.ClaimMapViews
import Derived.JoinedTies
import Derived.KernelRfl
namespace Go.Proofs.Ytccpgalpahfpaaa
/- THE CELL 'sum', in the pinned program and in every row, IS THE sha256 OF THE DUMP (.gsa) THAT YtccpgalpahfpaaaProg.lean LOADS. Nothing in Lean hashes anything: it is a label: what it is worth is what the hold of that sum in a sandbox is worth. -/
noncomputable def Try.pinned : Pinned := { name := "ytccpgalpahfpaaa", sum := "da286b98798a474252d858fd6d7be4ba69603e1e226b5c78cc4dfda176192c4d", checked := Try.checked }
namespace Rows
def none {H : Type} : Left H := { results := [], args := [] }

/-- 'hachurelaw16.PyrBuilds': WHATEVER THE INPUT: true; the input reads as it did. -/
def pyrBuildsSpec : ChangeSpec := { name := "pyrBuilds", fn := fun _ => fun
  | [d1, d2, d3, d4, d5] => { results := [.lit (.bool true)], args := [d1, d2, d3, d4, d5] }
  | _ => none }
def pyrBuildsRow : OpenClaim := { program := "ytccpgalpahfpaaa", sum := "da286b98798a474252d858fd6d7be4ba69603e1e226b5c78cc4dfda176192c4d", func := "hachure/hachurelaw16.PyrBuilds", spec := "pyrBuilds", unfollowed := true, recurses := true, apart := false }
def PyrBuildsSaid : Prop := pyrBuildsRow.holds Try.pinned (OpenSpec.ofChange pyrBuildsSpec)

/-- ITS FALSE NEIGHBOUR: 'it returns false'. Refute it at one input. -/
def pyrBuildsWrong : ChangeSpec := { name := "pyrBuilds", fn := fun _ => fun
  | [d1, d2, d3, d4, d5] => { results := [.lit (.bool false)], args := [d1, d2, d3, d4, d5] }
  | _ => none }
def PyrBuildsWrongFalsely : Prop := pyrBuildsRow.holds Try.pinned (OpenSpec.ofChange pyrBuildsWrong)

/-- 'hachurelaw16.PyrParts': WHATEVER THE INPUT: true; the input reads as it did. -/
def pyrPartsSpec : ChangeSpec := { name := "pyrParts", fn := fun _ => fun
  | [d1, d2, d3, d4, d5] => { results := [.lit (.bool true)], args := [d1, d2, d3, d4, d5] }
  | _ => none }
def pyrPartsRow : OpenClaim := { program := "ytccpgalpahfpaaa", sum := "da286b98798a474252d858fd6d7be4ba69603e1e226b5c78cc4dfda176192c4d", func := "hachure/hachurelaw16.PyrParts", spec := "pyrParts", unfollowed := true, recurses := true, apart := false }
def PyrPartsSaid : Prop := pyrPartsRow.holds Try.pinned (OpenSpec.ofChange pyrPartsSpec)

/-- ITS FALSE NEIGHBOUR: 'it returns false'. Refute it at one input. -/
def pyrPartsWrong : ChangeSpec := { name := "pyrParts", fn := fun _ => fun
  | [d1, d2, d3, d4, d5] => { results := [.lit (.bool false)], args := [d1, d2, d3, d4, d5] }
  | _ => none }
def PyrPartsWrongFalsely : Prop := pyrPartsRow.holds Try.pinned (OpenSpec.ofChange pyrPartsWrong)

/-- 'hachurelaw18.DownLevels': WHATEVER THE INPUT: true; the input reads as it did. -/
def downLevelsSpec : ChangeSpec := { name := "downLevels", fn := fun _ => fun
  | [d1, d2, d3, d4, d5] => { results := [.lit (.bool true)], args := [d1, d2, d3, d4, d5] }
  | _ => none }
def downLevelsRow : OpenClaim := { program := "ytccpgalpahfpaaa", sum := "da286b98798a474252d858fd6d7be4ba69603e1e226b5c78cc4dfda176192c4d", func := "hachure/hachurelaw18.DownLevels", spec := "downLevels", unfollowed := true, recurses := true, apart := false }
def DownLevelsSaid : Prop := downLevelsRow.holds Try.pinned (OpenSpec.ofChange downLevelsSpec)

/-- ITS FALSE NEIGHBOUR: 'it returns false'. Refute it at one input. -/
def downLevelsWrong : ChangeSpec := { name := "downLevels", fn := fun _ => fun
  | [d1, d2, d3, d4, d5] => { results := [.lit (.bool false)], args := [d1, d2, d3, d4, d5] }
  | _ => none }
def DownLevelsWrongFalsely : Prop := downLevelsRow.holds Try.pinned (OpenSpec.ofChange downLevelsWrong)

/-- 'hachurelaw18.DownNil': WHATEVER THE INPUT: true; the input reads as it did. -/
def downNilSpec : ChangeSpec := { name := "downNil", fn := fun _ => fun
  | [d1, d2] => { results := [.lit (.bool true)], args := [d1, d2] }
  | _ => none }
def downNilRow : OpenClaim := { program := "ytccpgalpahfpaaa", sum := "da286b98798a474252d858fd6d7be4ba69603e1e226b5c78cc4dfda176192c4d", func := "hachure/hachurelaw18.DownNil", spec := "downNil", unfollowed := true, recurses := true, apart := false }
def DownNilSaid : Prop := downNilRow.holds Try.pinned (OpenSpec.ofChange downNilSpec)

/-- ITS FALSE NEIGHBOUR: 'it returns false'. Refute it at one input. -/
def downNilWrong : ChangeSpec := { name := "downNil", fn := fun _ => fun
  | [d1, d2] => { results := [.lit (.bool false)], args := [d1, d2] }
  | _ => none }
def DownNilWrongFalsely : Prop := downNilRow.holds Try.pinned (OpenSpec.ofChange downNilWrong)

/-- 'hachurelaw16.PyrRepairs': WHATEVER THE INPUT: true; the input reads as it did. -/
def pyrRepairsSpec : ChangeSpec := { name := "pyrRepairs", fn := fun _ => fun
  | [d1, d2, d3, d4, d5, d6] => { results := [.lit (.bool true)], args := [d1, d2, d3, d4, d5, d6] }
  | _ => none }
def pyrRepairsRow : OpenClaim := { program := "ytccpgalpahfpaaa", sum := "da286b98798a474252d858fd6d7be4ba69603e1e226b5c78cc4dfda176192c4d", func := "hachure/hachurelaw16.PyrRepairs", spec := "pyrRepairs", unfollowed := true, recurses := true, apart := false }
def PyrRepairsSaid : Prop := pyrRepairsRow.holds Try.pinned (OpenSpec.ofChange pyrRepairsSpec)

/-- ITS FALSE NEIGHBOUR: 'it returns false'. Refute it at one input. -/
def pyrRepairsWrong : ChangeSpec := { name := "pyrRepairs", fn := fun _ => fun
  | [d1, d2, d3, d4, d5, d6] => { results := [.lit (.bool false)], args := [d1, d2, d3, d4, d5, d6] }
  | _ => none }
def PyrRepairsWrongFalsely : Prop := pyrRepairsRow.holds Try.pinned (OpenSpec.ofChange pyrRepairsWrong)

/-- 'hachurelaw16.PyrSame': WHATEVER THE INPUT: true; the input reads as it did. -/
def pyrSameSpec : ChangeSpec := { name := "pyrSame", fn := fun _ => fun
  | [d1, d2, d3, d4, d5, d6, d7, d8] => { results := [.lit (.bool true)], args := [d1, d2, d3, d4, d5, d6, d7, d8] }
  | _ => none }
def pyrSameRow : OpenClaim := { program := "ytccpgalpahfpaaa", sum := "da286b98798a474252d858fd6d7be4ba69603e1e226b5c78cc4dfda176192c4d", func := "hachure/hachurelaw16.PyrSame", spec := "pyrSame", unfollowed := true, recurses := true, apart := false }
def PyrSameSaid : Prop := pyrSameRow.holds Try.pinned (OpenSpec.ofChange pyrSameSpec)

/-- ITS FALSE NEIGHBOUR: 'it returns false'. Refute it at one input. -/
def pyrSameWrong : ChangeSpec := { name := "pyrSame", fn := fun _ => fun
  | [d1, d2, d3, d4, d5, d6, d7, d8] => { results := [.lit (.bool false)], args := [d1, d2, d3, d4, d5, d6, d7, d8] }
  | _ => none }
def PyrSameWrongFalsely : Prop := pyrSameRow.holds Try.pinned (OpenSpec.ofChange pyrSameWrong)

/-- 'hachurelaw18.DownSteps': WHATEVER THE INPUT: true; the input reads as it did. -/
def downStepsSpec : ChangeSpec := { name := "downSteps", fn := fun _ => fun
  | [d1, d2, d3, d4] => { results := [.lit (.bool true)], args := [d1, d2, d3, d4] }
  | _ => none }
def downStepsRow : OpenClaim := { program := "ytccpgalpahfpaaa", sum := "da286b98798a474252d858fd6d7be4ba69603e1e226b5c78cc4dfda176192c4d", func := "hachure/hachurelaw18.DownSteps", spec := "downSteps", unfollowed := true, recurses := true, apart := false }
def DownStepsSaid : Prop := downStepsRow.holds Try.pinned (OpenSpec.ofChange downStepsSpec)

/-- ITS FALSE NEIGHBOUR: 'it returns false'. Refute it at one input. -/
def downStepsWrong : ChangeSpec := { name := "downSteps", fn := fun _ => fun
  | [d1, d2, d3, d4] => { results := [.lit (.bool false)], args := [d1, d2, d3, d4] }
  | _ => none }
def DownStepsWrongFalsely : Prop := downStepsRow.holds Try.pinned (OpenSpec.ofChange downStepsWrong)

/-- 'hachurelaw18.DownRows': WHATEVER THE INPUT: true; the input reads as it did. -/
def downRowsSpec : ChangeSpec := { name := "downRows", fn := fun _ => fun
  | [d1, d2, d3, d4] => { results := [.lit (.bool true)], args := [d1, d2, d3, d4] }
  | _ => none }
def downRowsRow : OpenClaim := { program := "ytccpgalpahfpaaa", sum := "da286b98798a474252d858fd6d7be4ba69603e1e226b5c78cc4dfda176192c4d", func := "hachure/hachurelaw18.DownRows", spec := "downRows", unfollowed := true, recurses := true, apart := false }
def DownRowsSaid : Prop := downRowsRow.holds Try.pinned (OpenSpec.ofChange downRowsSpec)

/-- ITS FALSE NEIGHBOUR: 'it returns false'. Refute it at one input. -/
def downRowsWrong : ChangeSpec := { name := "downRows", fn := fun _ => fun
  | [d1, d2, d3, d4] => { results := [.lit (.bool false)], args := [d1, d2, d3, d4] }
  | _ => none }
def DownRowsWrongFalsely : Prop := downRowsRow.holds Try.pinned (OpenSpec.ofChange downRowsWrong)

/- THE SECOND FORM. 'bulk': how many values and letters a reading holds, each counted each time it is reached (what is shared counts as often as it is met; a slice's spare places count too). A statement '..UptoSaid' is the law's where the arguments, and the package variables that the reading takes, are together of bulk at most 1048576: NARROWER than '..Said'. Prove '..Said' where nothing that the law and all that it calls make is longer than what came in: it says more and counts as full. Else prove '..UptoSaid'. A law counts once. -/
mutual
def uptoBulk {H : Type} : DataW H → Nat
  | .lit (.string bytes) => bytes.length + 1
  | .lit _ => 1
  | .nil => 1
  | .ptr d => uptoBulk d + 1
  | .slice elems spare => uptoBulkAll elems + uptoBulkAll spare + 1
  | .agg parts => uptoBulkAll parts + 1
  | .iface _ d => uptoBulk d + 1
  | .map entries => uptoBulkEntries entries + 1
  | .held _ => 1
def uptoBulkAll {H : Type} : List (DataW H) → Nat
  | [] => 0
  | d :: r => uptoBulk d + uptoBulkAll r
def uptoBulkEntries {H : Type} : List (Lit × DataW H) → Nat
  | [] => 0
  | x :: r => uptoBulkEntry x + uptoBulkEntries r
def uptoBulkEntry {H : Type} : Lit × DataW H → Nat
  | (.string bytes, d) => bytes.length + uptoBulk d + 1
  | (_, d) => uptoBulk d + 1
 end
def uptoSmall : (H : Type) → List (DataW H) → Bool := fun _ ds => decide (uptoBulkAll ds ≤ 1048576)
def OpenSpec.upto (s : _root_.Go.ChangeSpec) : _root_.Go.OpenSpec := { _root_.Go.OpenSpec.ofChange s with cond := some uptoSmall }

/-- 'hachurelaw16.PyrBuilds', WHERE WHAT IT READS IS OF BULK AT MOST 1048576: true; the input reads as it did. -/
def pyrBuildsUptoRow : OpenClaim := { program := "ytccpgalpahfpaaa", sum := "da286b98798a474252d858fd6d7be4ba69603e1e226b5c78cc4dfda176192c4d", func := "hachure/hachurelaw16.PyrBuilds", spec := "pyrBuilds", unfollowed := true, recurses := true, apart := false, narrowed := true }
def PyrBuildsUptoSaid : Prop := pyrBuildsUptoRow.holds Try.pinned (OpenSpec.upto pyrBuildsSpec)

/-- 'hachurelaw16.PyrParts', WHERE WHAT IT READS IS OF BULK AT MOST 1048576: true; the input reads as it did. -/
def pyrPartsUptoRow : OpenClaim := { program := "ytccpgalpahfpaaa", sum := "da286b98798a474252d858fd6d7be4ba69603e1e226b5c78cc4dfda176192c4d", func := "hachure/hachurelaw16.PyrParts", spec := "pyrParts", unfollowed := true, recurses := true, apart := false, narrowed := true }
def PyrPartsUptoSaid : Prop := pyrPartsUptoRow.holds Try.pinned (OpenSpec.upto pyrPartsSpec)

/-- 'hachurelaw18.DownLevels', WHERE WHAT IT READS IS OF BULK AT MOST 1048576: true; the input reads as it did. -/
def downLevelsUptoRow : OpenClaim := { program := "ytccpgalpahfpaaa", sum := "da286b98798a474252d858fd6d7be4ba69603e1e226b5c78cc4dfda176192c4d", func := "hachure/hachurelaw18.DownLevels", spec := "downLevels", unfollowed := true, recurses := true, apart := false, narrowed := true }
def DownLevelsUptoSaid : Prop := downLevelsUptoRow.holds Try.pinned (OpenSpec.upto downLevelsSpec)

/-- 'hachurelaw18.DownNil', WHERE WHAT IT READS IS OF BULK AT MOST 1048576: true; the input reads as it did. -/
def downNilUptoRow : OpenClaim := { program := "ytccpgalpahfpaaa", sum := "da286b98798a474252d858fd6d7be4ba69603e1e226b5c78cc4dfda176192c4d", func := "hachure/hachurelaw18.DownNil", spec := "downNil", unfollowed := true, recurses := true, apart := false, narrowed := true }
def DownNilUptoSaid : Prop := downNilUptoRow.holds Try.pinned (OpenSpec.upto downNilSpec)

/-- 'hachurelaw16.PyrRepairs', WHERE WHAT IT READS IS OF BULK AT MOST 1048576: true; the input reads as it did. -/
def pyrRepairsUptoRow : OpenClaim := { program := "ytccpgalpahfpaaa", sum := "da286b98798a474252d858fd6d7be4ba69603e1e226b5c78cc4dfda176192c4d", func := "hachure/hachurelaw16.PyrRepairs", spec := "pyrRepairs", unfollowed := true, recurses := true, apart := false, narrowed := true }
def PyrRepairsUptoSaid : Prop := pyrRepairsUptoRow.holds Try.pinned (OpenSpec.upto pyrRepairsSpec)

/-- 'hachurelaw16.PyrSame', WHERE WHAT IT READS IS OF BULK AT MOST 1048576: true; the input reads as it did. -/
def pyrSameUptoRow : OpenClaim := { program := "ytccpgalpahfpaaa", sum := "da286b98798a474252d858fd6d7be4ba69603e1e226b5c78cc4dfda176192c4d", func := "hachure/hachurelaw16.PyrSame", spec := "pyrSame", unfollowed := true, recurses := true, apart := false, narrowed := true }
def PyrSameUptoSaid : Prop := pyrSameUptoRow.holds Try.pinned (OpenSpec.upto pyrSameSpec)

/-- 'hachurelaw18.DownSteps', WHERE WHAT IT READS IS OF BULK AT MOST 1048576: true; the input reads as it did. -/
def downStepsUptoRow : OpenClaim := { program := "ytccpgalpahfpaaa", sum := "da286b98798a474252d858fd6d7be4ba69603e1e226b5c78cc4dfda176192c4d", func := "hachure/hachurelaw18.DownSteps", spec := "downSteps", unfollowed := true, recurses := true, apart := false, narrowed := true }
def DownStepsUptoSaid : Prop := downStepsUptoRow.holds Try.pinned (OpenSpec.upto downStepsSpec)

/-- 'hachurelaw18.DownRows', WHERE WHAT IT READS IS OF BULK AT MOST 1048576: true; the input reads as it did. -/
def downRowsUptoRow : OpenClaim := { program := "ytccpgalpahfpaaa", sum := "da286b98798a474252d858fd6d7be4ba69603e1e226b5c78cc4dfda176192c4d", func := "hachure/hachurelaw18.DownRows", spec := "downRows", unfollowed := true, recurses := true, apart := false, narrowed := true }
def DownRowsUptoSaid : Prop := downRowsUptoRow.holds Try.pinned (OpenSpec.upto downRowsSpec)

end Rows
end Go.Proofs.Ytccpgalpahfpaaa
