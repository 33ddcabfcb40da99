/-
  No cell of these rows narrows 'for every input' (looked for: loops, veiled, ifaces, maps, wideKeys, modest, calm, conditions, laid).
  DERIVED. THE GIVEN ROWS OF THIS SEAT. 9 by the template 'for every input the law returns true; each argument reads behind the call as it read before'; 0 by the template 'total and deterministic' (their statements: YtlplbgbnojibmaaTotals.lean).
  GIVEN WITH THE SEED: the statements are not yours to turn. If you find one false, say at which input.
  Laid BY PROGRAM, IN A SANDBOX (cutbox-rows.mjs): the forced cells as the released guide's own fill.sh prints them over the translation 90ab25c3ae58f171… (all of the seat's roots in one cut). By AI agents, Wed Nov 11 2026. No macro, syntax, notation, axiom, sorry.
-/
import Derived.Test.YtlplbgbnojibmaaChecked
import GoSem.Claim
import GoSem.ClaimJoined
import GoSem.ClaimMapViews
import Derived.JoinedTies
import Derived.KernelRfl
namespace Go.Proofs.Ytlplbgbnojibmaa
/- THE CELL 'sum', in the pinned program and in every row, IS THE sha256 OF THE DUMP (.gsa) THAT YtlplbgbnojibmaaProg.lean LOADS. Nothing in Lean hashes anything: it is a label: what it is worth is what the hold of that sum in a sandbox is worth. -/
noncomputable def Try.pinned : Pinned := { name := "ytlplbgbnojibmaa", sum := "90ab25c3ae58f17133e16aac533f2c27d8397828436bfdc1d2f06e25e1ea2168", checked := Try.checked }
namespace Rows
def none {H : Type} : Left H := { results := [], args := [] }

/-- 'hachurelaw38.AuditWhere': WHATEVER THE INPUT: true; the input reads as it did. -/
def auditWhereSpec : ChangeSpec := { name := "auditWhere", fn := fun _ => fun
  | [d1, d2] => { results := [.lit (.bool true)], args := [d1, d2] }
  | _ => none }
def auditWhereRow : OpenClaim := { program := "ytlplbgbnojibmaa", sum := "90ab25c3ae58f17133e16aac533f2c27d8397828436bfdc1d2f06e25e1ea2168", func := "hachure/hachurelaw38.AuditWhere", spec := "auditWhere", unfollowed := true, recurses := true, apart := false }
def AuditWhereSaid : Prop := auditWhereRow.holds Try.pinned (OpenSpec.ofChange auditWhereSpec)

/-- ITS FALSE NEIGHBOUR: 'it returns false'. Refute it at one input. -/
def auditWhereWrong : ChangeSpec := { name := "auditWhere", fn := fun _ => fun
  | [d1, d2] => { results := [.lit (.bool false)], args := [d1, d2] }
  | _ => none }
def AuditWhereWrongFalsely : Prop := auditWhereRow.holds Try.pinned (OpenSpec.ofChange auditWhereWrong)

/-- 'hachurelaw17.ProbeNil': WHATEVER THE INPUT: true; the input reads as it did. -/
def probeNilSpec : ChangeSpec := { name := "probeNil", fn := fun _ => fun
  | [d1, d2] => { results := [.lit (.bool true)], args := [d1, d2] }
  | _ => none }
def probeNilRow : OpenClaim := { program := "ytlplbgbnojibmaa", sum := "90ab25c3ae58f17133e16aac533f2c27d8397828436bfdc1d2f06e25e1ea2168", func := "hachure/hachurelaw17.ProbeNil", spec := "probeNil", unfollowed := true, recurses := true, apart := false }
def ProbeNilSaid : Prop := probeNilRow.holds Try.pinned (OpenSpec.ofChange probeNilSpec)

/-- ITS FALSE NEIGHBOUR: 'it returns false'. Refute it at one input. -/
def probeNilWrong : ChangeSpec := { name := "probeNil", fn := fun _ => fun
  | [d1, d2] => { results := [.lit (.bool false)], args := [d1, d2] }
  | _ => none }
def ProbeNilWrongFalsely : Prop := probeNilRow.holds Try.pinned (OpenSpec.ofChange probeNilWrong)

/-- 'hachurelaw38.AuditChecks': WHATEVER THE INPUT: true; the input reads as it did. -/
def auditChecksSpec : ChangeSpec := { name := "auditChecks", fn := fun _ => fun
  | [d1, d2, d3, d4, d5] => { results := [.lit (.bool true)], args := [d1, d2, d3, d4, d5] }
  | _ => none }
def auditChecksRow : OpenClaim := { program := "ytlplbgbnojibmaa", sum := "90ab25c3ae58f17133e16aac533f2c27d8397828436bfdc1d2f06e25e1ea2168", func := "hachure/hachurelaw38.AuditChecks", spec := "auditChecks", unfollowed := true, recurses := true, apart := false }
def AuditChecksSaid : Prop := auditChecksRow.holds Try.pinned (OpenSpec.ofChange auditChecksSpec)

/-- ITS FALSE NEIGHBOUR: 'it returns false'. Refute it at one input. -/
def auditChecksWrong : ChangeSpec := { name := "auditChecks", fn := fun _ => fun
  | [d1, d2, d3, d4, d5] => { results := [.lit (.bool false)], args := [d1, d2, d3, d4, d5] }
  | _ => none }
def AuditChecksWrongFalsely : Prop := auditChecksRow.holds Try.pinned (OpenSpec.ofChange auditChecksWrong)

/-- 'hachurelaw38.AuditSizes': WHATEVER THE INPUT: true; the input reads as it did. -/
def auditSizesSpec : ChangeSpec := { name := "auditSizes", fn := fun _ => fun
  | [d1, d2, d3, d4, d5, d6] => { results := [.lit (.bool true)], args := [d1, d2, d3, d4, d5, d6] }
  | _ => none }
def auditSizesRow : OpenClaim := { program := "ytlplbgbnojibmaa", sum := "90ab25c3ae58f17133e16aac533f2c27d8397828436bfdc1d2f06e25e1ea2168", func := "hachure/hachurelaw38.AuditSizes", spec := "auditSizes", unfollowed := true, recurses := true, apart := false }
def AuditSizesSaid : Prop := auditSizesRow.holds Try.pinned (OpenSpec.ofChange auditSizesSpec)

/-- ITS FALSE NEIGHBOUR: 'it returns false'. Refute it at one input. -/
def auditSizesWrong : ChangeSpec := { name := "auditSizes", fn := fun _ => fun
  | [d1, d2, d3, d4, d5, d6] => { results := [.lit (.bool false)], args := [d1, d2, d3, d4, d5, d6] }
  | _ => none }
def AuditSizesWrongFalsely : Prop := auditSizesRow.holds Try.pinned (OpenSpec.ofChange auditSizesWrong)

/-- 'hachurelaw27.ViewGrows': WHATEVER THE INPUT: true; the input reads as it did. -/
def viewGrowsSpec : ChangeSpec := { name := "viewGrows", fn := fun _ => fun
  | [d1, d2, d3, d4, d5, d6, d7, d8] => { results := [.lit (.bool true)], args := [d1, d2, d3, d4, d5, d6, d7, d8] }
  | _ => none }
def viewGrowsRow : OpenClaim := { program := "ytlplbgbnojibmaa", sum := "90ab25c3ae58f17133e16aac533f2c27d8397828436bfdc1d2f06e25e1ea2168", func := "hachure/hachurelaw27.ViewGrows", spec := "viewGrows", unfollowed := true, recurses := true, apart := false }
def ViewGrowsSaid : Prop := viewGrowsRow.holds Try.pinned (OpenSpec.ofChange viewGrowsSpec)

/-- ITS FALSE NEIGHBOUR: 'it returns false'. Refute it at one input. -/
def viewGrowsWrong : ChangeSpec := { name := "viewGrows", fn := fun _ => fun
  | [d1, d2, d3, d4, d5, d6, d7, d8] => { results := [.lit (.bool false)], args := [d1, d2, d3, d4, d5, d6, d7, d8] }
  | _ => none }
def ViewGrowsWrongFalsely : Prop := viewGrowsRow.holds Try.pinned (OpenSpec.ofChange viewGrowsWrong)

/-- 'hachurelaw27.ViewFrom': WHATEVER THE INPUT: true; the input reads as it did. -/
def viewFromSpec : ChangeSpec := { name := "viewFrom", fn := fun _ => fun
  | [d1, d2, d3, d4, d5, d6, d7] => { results := [.lit (.bool true)], args := [d1, d2, d3, d4, d5, d6, d7] }
  | _ => none }
def viewFromRow : OpenClaim := { program := "ytlplbgbnojibmaa", sum := "90ab25c3ae58f17133e16aac533f2c27d8397828436bfdc1d2f06e25e1ea2168", func := "hachure/hachurelaw27.ViewFrom", spec := "viewFrom", unfollowed := true, recurses := true, apart := false }
def ViewFromSaid : Prop := viewFromRow.holds Try.pinned (OpenSpec.ofChange viewFromSpec)

/-- ITS FALSE NEIGHBOUR: 'it returns false'. Refute it at one input. -/
def viewFromWrong : ChangeSpec := { name := "viewFrom", fn := fun _ => fun
  | [d1, d2, d3, d4, d5, d6, d7] => { results := [.lit (.bool false)], args := [d1, d2, d3, d4, d5, d6, d7] }
  | _ => none }
def ViewFromWrongFalsely : Prop := viewFromRow.holds Try.pinned (OpenSpec.ofChange viewFromWrong)

/-- 'hachurelaw27.ViewBoth': WHATEVER THE INPUT: true; the input reads as it did. -/
def viewBothSpec : ChangeSpec := { name := "viewBoth", fn := fun _ => fun
  | [d1, d2, d3, d4, d5, d6, d7] => { results := [.lit (.bool true)], args := [d1, d2, d3, d4, d5, d6, d7] }
  | _ => none }
def viewBothRow : OpenClaim := { program := "ytlplbgbnojibmaa", sum := "90ab25c3ae58f17133e16aac533f2c27d8397828436bfdc1d2f06e25e1ea2168", func := "hachure/hachurelaw27.ViewBoth", spec := "viewBoth", unfollowed := true, recurses := true, apart := false }
def ViewBothSaid : Prop := viewBothRow.holds Try.pinned (OpenSpec.ofChange viewBothSpec)

/-- ITS FALSE NEIGHBOUR: 'it returns false'. Refute it at one input. -/
def viewBothWrong : ChangeSpec := { name := "viewBoth", fn := fun _ => fun
  | [d1, d2, d3, d4, d5, d6, d7] => { results := [.lit (.bool false)], args := [d1, d2, d3, d4, d5, d6, d7] }
  | _ => none }
def ViewBothWrongFalsely : Prop := viewBothRow.holds Try.pinned (OpenSpec.ofChange viewBothWrong)

/-- 'hachurelaw27.ViewNil': WHATEVER THE INPUT: true; the input reads as it did. -/
def viewNilSpec : ChangeSpec := { name := "viewNil", fn := fun _ => fun
  | [d1, d2, d3, d4] => { results := [.lit (.bool true)], args := [d1, d2, d3, d4] }
  | _ => none }
def viewNilRow : OpenClaim := { program := "ytlplbgbnojibmaa", sum := "90ab25c3ae58f17133e16aac533f2c27d8397828436bfdc1d2f06e25e1ea2168", func := "hachure/hachurelaw27.ViewNil", spec := "viewNil", unfollowed := true, recurses := true, apart := false }
def ViewNilSaid : Prop := viewNilRow.holds Try.pinned (OpenSpec.ofChange viewNilSpec)

/-- ITS FALSE NEIGHBOUR: 'it returns false'. Refute it at one input. -/
def viewNilWrong : ChangeSpec := { name := "viewNil", fn := fun _ => fun
  | [d1, d2, d3, d4] => { results := [.lit (.bool false)], args := [d1, d2, d3, d4] }
  | _ => none }
def ViewNilWrongFalsely : Prop := viewNilRow.holds Try.pinned (OpenSpec.ofChange viewNilWrong)

/-- 'hachurelaw22.SnapNil': WHATEVER THE INPUT: true; the input reads as it did. -/
def snapNilSpec : ChangeSpec := { name := "snapNil", fn := fun _ => fun
  | [d1, d2] => { results := [.lit (.bool true)], args := [d1, d2] }
  | _ => none }
def snapNilRow : OpenClaim := { program := "ytlplbgbnojibmaa", sum := "90ab25c3ae58f17133e16aac533f2c27d8397828436bfdc1d2f06e25e1ea2168", func := "hachure/hachurelaw22.SnapNil", spec := "snapNil", unfollowed := true, recurses := true, apart := false }
def SnapNilSaid : Prop := snapNilRow.holds Try.pinned (OpenSpec.ofChange snapNilSpec)

/-- ITS FALSE NEIGHBOUR: 'it returns false'. Refute it at one input. -/
def snapNilWrong : ChangeSpec := { name := "snapNil", fn := fun _ => fun
  | [d1, d2] => { results := [.lit (.bool false)], args := [d1, d2] }
  | _ => none }
def SnapNilWrongFalsely : Prop := snapNilRow.holds Try.pinned (OpenSpec.ofChange snapNilWrong)

/- THE SECOND FORM. 'bulk': how many values and letters a reading holds, each counted each time it is reached (what is shared counts as often as it is met; a slice's spare places count too). A statement '..UptoSaid' is the law's where the arguments, and the package variables that the reading takes, are together of bulk at most 1048576: NARROWER than '..Said'. Prove '..Said' where nothing that the law and all that it calls make is longer than what came in: it says more and counts as full. Else prove '..UptoSaid'. A law counts once. -/
mutual
def uptoBulk {H : Type} : DataW H → Nat
  | .lit (.string bytes) => bytes.length + 1
  | .lit _ => 1
  | .nil => 1
  | .ptr d => uptoBulk d + 1
  | .slice elems spare => uptoBulkAll elems + uptoBulkAll spare + 1
  | .agg parts => uptoBulkAll parts + 1
  | .iface _ d => uptoBulk d + 1
  | .map entries => uptoBulkEntries entries + 1
  | .held _ => 1
def uptoBulkAll {H : Type} : List (DataW H) → Nat
  | [] => 0
  | d :: r => uptoBulk d + uptoBulkAll r
def uptoBulkEntries {H : Type} : List (Lit × DataW H) → Nat
  | [] => 0
  | x :: r => uptoBulkEntry x + uptoBulkEntries r
def uptoBulkEntry {H : Type} : Lit × DataW H → Nat
  | (.string bytes, d) => bytes.length + uptoBulk d + 1
  | (_, d) => uptoBulk d + 1
 end
def uptoSmall : (H : Type) → List (DataW H) → Bool := fun _ ds => decide (uptoBulkAll ds ≤ 1048576)
def OpenSpec.upto (s : _root_.Go.ChangeSpec) : _root_.Go.OpenSpec := { _root_.Go.OpenSpec.ofChange s with cond := some uptoSmall }

/-- 'hachurelaw38.AuditWhere', WHERE WHAT IT READS IS OF BULK AT MOST 1048576: true; the input reads as it did. -/
def auditWhereUptoRow : OpenClaim := { program := "ytlplbgbnojibmaa", sum := "90ab25c3ae58f17133e16aac533f2c27d8397828436bfdc1d2f06e25e1ea2168", func := "hachure/hachurelaw38.AuditWhere", spec := "auditWhere", unfollowed := true, recurses := true, apart := false, narrowed := true }
def AuditWhereUptoSaid : Prop := auditWhereUptoRow.holds Try.pinned (OpenSpec.upto auditWhereSpec)

/-- 'hachurelaw17.ProbeNil', WHERE WHAT IT READS IS OF BULK AT MOST 1048576: true; the input reads as it did. -/
def probeNilUptoRow : OpenClaim := { program := "ytlplbgbnojibmaa", sum := "90ab25c3ae58f17133e16aac533f2c27d8397828436bfdc1d2f06e25e1ea2168", func := "hachure/hachurelaw17.ProbeNil", spec := "probeNil", unfollowed := true, recurses := true, apart := false, narrowed := true }
def ProbeNilUptoSaid : Prop := probeNilUptoRow.holds Try.pinned (OpenSpec.upto probeNilSpec)

/-- 'hachurelaw38.AuditChecks', WHERE WHAT IT READS IS OF BULK AT MOST 1048576: true; the input reads as it did. -/
def auditChecksUptoRow : OpenClaim := { program := "ytlplbgbnojibmaa", sum := "90ab25c3ae58f17133e16aac533f2c27d8397828436bfdc1d2f06e25e1ea2168", func := "hachure/hachurelaw38.AuditChecks", spec := "auditChecks", unfollowed := true, recurses := true, apart := false, narrowed := true }
def AuditChecksUptoSaid : Prop := auditChecksUptoRow.holds Try.pinned (OpenSpec.upto auditChecksSpec)

/-- 'hachurelaw38.AuditSizes', WHERE WHAT IT READS IS OF BULK AT MOST 1048576: true; the input reads as it did. -/
def auditSizesUptoRow : OpenClaim := { program := "ytlplbgbnojibmaa", sum := "90ab25c3ae58f17133e16aac533f2c27d8397828436bfdc1d2f06e25e1ea2168", func := "hachure/hachurelaw38.AuditSizes", spec := "auditSizes", unfollowed := true, recurses := true, apart := false, narrowed := true }
def AuditSizesUptoSaid : Prop := auditSizesUptoRow.holds Try.pinned (OpenSpec.upto auditSizesSpec)

/-- 'hachurelaw27.ViewGrows', WHERE WHAT IT READS IS OF BULK AT MOST 1048576: true; the input reads as it did. -/
def viewGrowsUptoRow : OpenClaim := { program := "ytlplbgbnojibmaa", sum := "90ab25c3ae58f17133e16aac533f2c27d8397828436bfdc1d2f06e25e1ea2168", func := "hachure/hachurelaw27.ViewGrows", spec := "viewGrows", unfollowed := true, recurses := true, apart := false, narrowed := true }
def ViewGrowsUptoSaid : Prop := viewGrowsUptoRow.holds Try.pinned (OpenSpec.upto viewGrowsSpec)

/-- 'hachurelaw27.ViewFrom', WHERE WHAT IT READS IS OF BULK AT MOST 1048576: true; the input reads as it did. -/
def viewFromUptoRow : OpenClaim := { program := "ytlplbgbnojibmaa", sum := "90ab25c3ae58f17133e16aac533f2c27d8397828436bfdc1d2f06e25e1ea2168", func := "hachure/hachurelaw27.ViewFrom", spec := "viewFrom", unfollowed := true, recurses := true, apart := false, narrowed := true }
def ViewFromUptoSaid : Prop := viewFromUptoRow.holds Try.pinned (OpenSpec.upto viewFromSpec)

/-- 'hachurelaw27.ViewBoth', WHERE WHAT IT READS IS OF BULK AT MOST 1048576: true; the input reads as it did. -/
def viewBothUptoRow : OpenClaim := { program := "ytlplbgbnojibmaa", sum := "90ab25c3ae58f17133e16aac533f2c27d8397828436bfdc1d2f06e25e1ea2168", func := "hachure/hachurelaw27.ViewBoth", spec := "viewBoth", unfollowed := true, recurses := true, apart := false, narrowed := true }
def ViewBothUptoSaid : Prop := viewBothUptoRow.holds Try.pinned (OpenSpec.upto viewBothSpec)

/-- 'hachurelaw27.ViewNil', WHERE WHAT IT READS IS OF BULK AT MOST 1048576: true; the input reads as it did. -/
def viewNilUptoRow : OpenClaim := { program := "ytlplbgbnojibmaa", sum := "90ab25c3ae58f17133e16aac533f2c27d8397828436bfdc1d2f06e25e1ea2168", func := "hachure/hachurelaw27.ViewNil", spec := "viewNil", unfollowed := true, recurses := true, apart := false, narrowed := true }
def ViewNilUptoSaid : Prop := viewNilUptoRow.holds Try.pinned (OpenSpec.upto viewNilSpec)

/-- 'hachurelaw22.SnapNil', WHERE WHAT IT READS IS OF BULK AT MOST 1048576: true; the input reads as it did. -/
def snapNilUptoRow : OpenClaim := { program := "ytlplbgbnojibmaa", sum := "90ab25c3ae58f17133e16aac533f2c27d8397828436bfdc1d2f06e25e1ea2168", func := "hachure/hachurelaw22.SnapNil", spec := "snapNil", unfollowed := true, recurses := true, apart := false, narrowed := true }
def SnapNilUptoSaid : Prop := snapNilUptoRow.holds Try.pinned (OpenSpec.upto snapNilSpec)

end Rows
end Go.Proofs.Ytlplbgbnojibmaa
