/-
  NARROWER THAN 'FOR EVERY INPUT', by the rows' own cells (each row's printed sentence says how): CrcSums: laid · CrcOpens: laid · CrcTells: laid · JournalPuts: laid · JournalGets: laid · JournalTorn: laid.
  DERIVED. THE GIVEN ROWS OF THIS SEAT. 6 by the template 'for every input the law returns true; each argument reads behind the call as it read before'; 0 by the template 'total and deterministic' (their statements: YtgelgkgmgjhmnaaDoorTotals.lean).
  GIVEN WITH THE SEED: the statements are not yours to turn. If you find one false, say at which input.
  Laid BY PROGRAM, IN A SANDBOX (cutbox-rows.mjs): the forced cells as the released guide's own fill.sh prints them over the translation 690ca2468450067a… (all of the seat's roots in one cut). By AI agents, Wed Nov 11 2026. No macro, syntax, notation, axiom, sorry.
-/
import Derived.Test.YtgelgkgmgjhmnaaDoorChecked
import GoSem.Claim
import GoSem.ClaimJoined
import GoSem.ClaimMapViews
import Derived.JoinedTies
import Derived.KernelRfl
namespace Go.Proofs.YtgelgkgmgjhmnaaDoor
/- THE CELL 'sum', in the pinned program and in every row, IS THE sha256 OF THE DUMP (.gsa) THAT YtgelgkgmgjhmnaaDoorProg.lean LOADS. Nothing in Lean hashes anything: it is a label: what it is worth is what the hold of that sum in a sandbox is worth. -/
noncomputable def Tryd.pinned : Pinned := { name := "ytgelgkgmgjhmnaadoor", sum := "690ca2468450067aadfcd8e5ced3780f1bd79fb558773174f84a8c3a0ee7c773", checked := Tryd.checked }
namespace Rows
def none {H : Type} : Left H := { results := [], args := [] }

/- WHAT THE LISTED PACKAGE-LEVEL VARIABLES READ AS WHEN THE CALL BEGINS. Each datum BY PROGRAM (the guide's laid-datum.mjs) off the statement by which the dump's own 'gosem.cut.vars' lays the variable. In a bare row this is a premise. The card (YtgelgkgmgjhmnaaDoorCards.lean) ties it to the program's text. -/
def laid_hachure_crc_halves {H : Type} : DataW H := .agg [.lit (.int .u32 0), .lit (.int .u32 274646895), .lit (.int .u32 549293790), .lit (.int .u32 820201905), .lit (.int .u32 1098587580), .lit (.int .u32 1361435347), .lit (.int .u32 1640403810), .lit (.int .u32 1905808397), .lit (.int .u32 2197175160), .lit (.int .u32 2460548119), .lit (.int .u32 2722870694), .lit (.int .u32 2987750089), .lit (.int .u32 3280807620), .lit (.int .u32 3553878443), .lit (.int .u32 3811616794), .lit (.int .u32 4084100981)]

/-- 'hachurelaw03.CrcSums': WHATEVER THE INPUT: true; the input reads as it did. -/
def crcSumsSpec : ChangeSpec := { name := "crcSums", fn := fun _ => fun
  | [d1, d2, d3] => { results := [.lit (.bool true)], args := [d1, d2, d3] }
  | _ => none }
def crcSumsRow : OpenClaim := { program := "ytgelgkgmgjhmnaadoor", sum := "690ca2468450067aadfcd8e5ced3780f1bd79fb558773174f84a8c3a0ee7c773", func := "hachure/hachurelaw03.CrcSums", spec := "crcSums", named := ["hachure/crc.halves"], apart := false, laid := [("hachure/crc.halves", laid_hachure_crc_halves)] }
def CrcSumsSaid : Prop := crcSumsRow.holds Tryd.pinned (OpenSpec.ofChange crcSumsSpec)

/-- ITS FALSE NEIGHBOUR: 'it returns false'. Refute it at one input. -/
def crcSumsWrong : ChangeSpec := { name := "crcSums", fn := fun _ => fun
  | [d1, d2, d3] => { results := [.lit (.bool false)], args := [d1, d2, d3] }
  | _ => none }
def CrcSumsWrongFalsely : Prop := crcSumsRow.holds Tryd.pinned (OpenSpec.ofChange crcSumsWrong)

/-- 'hachurelaw03.CrcOpens': WHATEVER THE INPUT: true; the input reads as it did. -/
def crcOpensSpec : ChangeSpec := { name := "crcOpens", fn := fun _ => fun
  | [d1, d2] => { results := [.lit (.bool true)], args := [d1, d2] }
  | _ => none }
def crcOpensRow : OpenClaim := { program := "ytgelgkgmgjhmnaadoor", sum := "690ca2468450067aadfcd8e5ced3780f1bd79fb558773174f84a8c3a0ee7c773", func := "hachure/hachurelaw03.CrcOpens", spec := "crcOpens", named := ["hachure/crc.halves"], apart := false, laid := [("hachure/crc.halves", laid_hachure_crc_halves)] }
def CrcOpensSaid : Prop := crcOpensRow.holds Tryd.pinned (OpenSpec.ofChange crcOpensSpec)

/-- ITS FALSE NEIGHBOUR: 'it returns false'. Refute it at one input. -/
def crcOpensWrong : ChangeSpec := { name := "crcOpens", fn := fun _ => fun
  | [d1, d2] => { results := [.lit (.bool false)], args := [d1, d2] }
  | _ => none }
def CrcOpensWrongFalsely : Prop := crcOpensRow.holds Tryd.pinned (OpenSpec.ofChange crcOpensWrong)

/-- 'hachurelaw03.CrcTells': WHATEVER THE INPUT: true; the input reads as it did. -/
def crcTellsSpec : ChangeSpec := { name := "crcTells", fn := fun _ => fun
  | [d1, d2, d3] => { results := [.lit (.bool true)], args := [d1, d2, d3] }
  | _ => none }
def crcTellsRow : OpenClaim := { program := "ytgelgkgmgjhmnaadoor", sum := "690ca2468450067aadfcd8e5ced3780f1bd79fb558773174f84a8c3a0ee7c773", func := "hachure/hachurelaw03.CrcTells", spec := "crcTells", named := ["hachure/crc.halves"], apart := false, laid := [("hachure/crc.halves", laid_hachure_crc_halves)] }
def CrcTellsSaid : Prop := crcTellsRow.holds Tryd.pinned (OpenSpec.ofChange crcTellsSpec)

/-- ITS FALSE NEIGHBOUR: 'it returns false'. Refute it at one input. -/
def crcTellsWrong : ChangeSpec := { name := "crcTells", fn := fun _ => fun
  | [d1, d2, d3] => { results := [.lit (.bool false)], args := [d1, d2, d3] }
  | _ => none }
def CrcTellsWrongFalsely : Prop := crcTellsRow.holds Tryd.pinned (OpenSpec.ofChange crcTellsWrong)

/-- 'hachurelaw40.JournalPuts': WHATEVER THE INPUT: true; the input reads as it did. -/
def journalPutsSpec : ChangeSpec := { name := "journalPuts", fn := fun _ => fun
  | [d1, d2, d3] => { results := [.lit (.bool true)], args := [d1, d2, d3] }
  | _ => none }
def journalPutsRow : OpenClaim := { program := "ytgelgkgmgjhmnaadoor", sum := "690ca2468450067aadfcd8e5ced3780f1bd79fb558773174f84a8c3a0ee7c773", func := "hachure/hachurelaw40.JournalPuts", spec := "journalPuts", named := ["hachure/crc.halves"], apart := false, laid := [("hachure/crc.halves", laid_hachure_crc_halves)] }
def JournalPutsSaid : Prop := journalPutsRow.holds Tryd.pinned (OpenSpec.ofChange journalPutsSpec)

/-- ITS FALSE NEIGHBOUR: 'it returns false'. Refute it at one input. -/
def journalPutsWrong : ChangeSpec := { name := "journalPuts", fn := fun _ => fun
  | [d1, d2, d3] => { results := [.lit (.bool false)], args := [d1, d2, d3] }
  | _ => none }
def JournalPutsWrongFalsely : Prop := journalPutsRow.holds Tryd.pinned (OpenSpec.ofChange journalPutsWrong)

/-- 'hachurelaw40.JournalGets': WHATEVER THE INPUT: true; the input reads as it did. -/
def journalGetsSpec : ChangeSpec := { name := "journalGets", fn := fun _ => fun
  | [d1, d2] => { results := [.lit (.bool true)], args := [d1, d2] }
  | _ => none }
def journalGetsRow : OpenClaim := { program := "ytgelgkgmgjhmnaadoor", sum := "690ca2468450067aadfcd8e5ced3780f1bd79fb558773174f84a8c3a0ee7c773", func := "hachure/hachurelaw40.JournalGets", spec := "journalGets", named := ["hachure/crc.halves"], apart := false, laid := [("hachure/crc.halves", laid_hachure_crc_halves)] }
def JournalGetsSaid : Prop := journalGetsRow.holds Tryd.pinned (OpenSpec.ofChange journalGetsSpec)

/-- ITS FALSE NEIGHBOUR: 'it returns false'. Refute it at one input. -/
def journalGetsWrong : ChangeSpec := { name := "journalGets", fn := fun _ => fun
  | [d1, d2] => { results := [.lit (.bool false)], args := [d1, d2] }
  | _ => none }
def JournalGetsWrongFalsely : Prop := journalGetsRow.holds Tryd.pinned (OpenSpec.ofChange journalGetsWrong)

/-- 'hachurelaw40.JournalTorn': WHATEVER THE INPUT: true; the input reads as it did. -/
def journalTornSpec : ChangeSpec := { name := "journalTorn", fn := fun _ => fun
  | [d1, d2, d3] => { results := [.lit (.bool true)], args := [d1, d2, d3] }
  | _ => none }
def journalTornRow : OpenClaim := { program := "ytgelgkgmgjhmnaadoor", sum := "690ca2468450067aadfcd8e5ced3780f1bd79fb558773174f84a8c3a0ee7c773", func := "hachure/hachurelaw40.JournalTorn", spec := "journalTorn", named := ["hachure/crc.halves"], apart := false, laid := [("hachure/crc.halves", laid_hachure_crc_halves)] }
def JournalTornSaid : Prop := journalTornRow.holds Tryd.pinned (OpenSpec.ofChange journalTornSpec)

/-- ITS FALSE NEIGHBOUR: 'it returns false'. Refute it at one input. -/
def journalTornWrong : ChangeSpec := { name := "journalTorn", fn := fun _ => fun
  | [d1, d2, d3] => { results := [.lit (.bool false)], args := [d1, d2, d3] }
  | _ => none }
def JournalTornWrongFalsely : Prop := journalTornRow.holds Tryd.pinned (OpenSpec.ofChange journalTornWrong)

/- THE SECOND FORM. 'bulk': how many values and letters a reading holds, each counted each time it is reached (what is shared counts as often as it is met; a slice's spare places count too). A statement '..UptoSaid' is the law's where the arguments, and the package variables that the reading takes, are together of bulk at most 1048576: NARROWER than '..Said'. Prove '..Said' where nothing that the law and all that it calls make is longer than what came in: it says more and counts as full. Else prove '..UptoSaid'. A law counts once. -/
mutual
def uptoBulk {H : Type} : DataW H → Nat
  | .lit (.string bytes) => bytes.length + 1
  | .lit _ => 1
  | .nil => 1
  | .ptr d => uptoBulk d + 1
  | .slice elems spare => uptoBulkAll elems + uptoBulkAll spare + 1
  | .agg parts => uptoBulkAll parts + 1
  | .iface _ d => uptoBulk d + 1
  | .map entries => uptoBulkEntries entries + 1
  | .held _ => 1
def uptoBulkAll {H : Type} : List (DataW H) → Nat
  | [] => 0
  | d :: r => uptoBulk d + uptoBulkAll r
def uptoBulkEntries {H : Type} : List (Lit × DataW H) → Nat
  | [] => 0
  | x :: r => uptoBulkEntry x + uptoBulkEntries r
def uptoBulkEntry {H : Type} : Lit × DataW H → Nat
  | (.string bytes, d) => bytes.length + uptoBulk d + 1
  | (_, d) => uptoBulk d + 1
 end
def uptoSmall : (H : Type) → List (DataW H) → Bool := fun _ ds => decide (uptoBulkAll ds ≤ 1048576)
def OpenSpec.upto (s : _root_.Go.ChangeSpec) : _root_.Go.OpenSpec := { _root_.Go.OpenSpec.ofChange s with cond := some uptoSmall }

/-- 'hachurelaw03.CrcSums', WHERE WHAT IT READS IS OF BULK AT MOST 1048576: true; the input reads as it did. -/
def crcSumsUptoRow : OpenClaim := { program := "ytgelgkgmgjhmnaadoor", sum := "690ca2468450067aadfcd8e5ced3780f1bd79fb558773174f84a8c3a0ee7c773", func := "hachure/hachurelaw03.CrcSums", spec := "crcSums", named := ["hachure/crc.halves"], apart := false, laid := [("hachure/crc.halves", laid_hachure_crc_halves)], narrowed := true }
def CrcSumsUptoSaid : Prop := crcSumsUptoRow.holds Tryd.pinned (OpenSpec.upto crcSumsSpec)

/-- 'hachurelaw03.CrcOpens', WHERE WHAT IT READS IS OF BULK AT MOST 1048576: true; the input reads as it did. -/
def crcOpensUptoRow : OpenClaim := { program := "ytgelgkgmgjhmnaadoor", sum := "690ca2468450067aadfcd8e5ced3780f1bd79fb558773174f84a8c3a0ee7c773", func := "hachure/hachurelaw03.CrcOpens", spec := "crcOpens", named := ["hachure/crc.halves"], apart := false, laid := [("hachure/crc.halves", laid_hachure_crc_halves)], narrowed := true }
def CrcOpensUptoSaid : Prop := crcOpensUptoRow.holds Tryd.pinned (OpenSpec.upto crcOpensSpec)

/-- 'hachurelaw03.CrcTells', WHERE WHAT IT READS IS OF BULK AT MOST 1048576: true; the input reads as it did. -/
def crcTellsUptoRow : OpenClaim := { program := "ytgelgkgmgjhmnaadoor", sum := "690ca2468450067aadfcd8e5ced3780f1bd79fb558773174f84a8c3a0ee7c773", func := "hachure/hachurelaw03.CrcTells", spec := "crcTells", named := ["hachure/crc.halves"], apart := false, laid := [("hachure/crc.halves", laid_hachure_crc_halves)], narrowed := true }
def CrcTellsUptoSaid : Prop := crcTellsUptoRow.holds Tryd.pinned (OpenSpec.upto crcTellsSpec)

/-- 'hachurelaw40.JournalPuts', WHERE WHAT IT READS IS OF BULK AT MOST 1048576: true; the input reads as it did. -/
def journalPutsUptoRow : OpenClaim := { program := "ytgelgkgmgjhmnaadoor", sum := "690ca2468450067aadfcd8e5ced3780f1bd79fb558773174f84a8c3a0ee7c773", func := "hachure/hachurelaw40.JournalPuts", spec := "journalPuts", named := ["hachure/crc.halves"], apart := false, laid := [("hachure/crc.halves", laid_hachure_crc_halves)], narrowed := true }
def JournalPutsUptoSaid : Prop := journalPutsUptoRow.holds Tryd.pinned (OpenSpec.upto journalPutsSpec)

/-- 'hachurelaw40.JournalGets', WHERE WHAT IT READS IS OF BULK AT MOST 1048576: true; the input reads as it did. -/
def journalGetsUptoRow : OpenClaim := { program := "ytgelgkgmgjhmnaadoor", sum := "690ca2468450067aadfcd8e5ced3780f1bd79fb558773174f84a8c3a0ee7c773", func := "hachure/hachurelaw40.JournalGets", spec := "journalGets", named := ["hachure/crc.halves"], apart := false, laid := [("hachure/crc.halves", laid_hachure_crc_halves)], narrowed := true }
def JournalGetsUptoSaid : Prop := journalGetsUptoRow.holds Tryd.pinned (OpenSpec.upto journalGetsSpec)

/-- 'hachurelaw40.JournalTorn', WHERE WHAT IT READS IS OF BULK AT MOST 1048576: true; the input reads as it did. -/
def journalTornUptoRow : OpenClaim := { program := "ytgelgkgmgjhmnaadoor", sum := "690ca2468450067aadfcd8e5ced3780f1bd79fb558773174f84a8c3a0ee7c773", func := "hachure/hachurelaw40.JournalTorn", spec := "journalTorn", named := ["hachure/crc.halves"], apart := false, laid := [("hachure/crc.halves", laid_hachure_crc_halves)], narrowed := true }
def JournalTornUptoSaid : Prop := journalTornUptoRow.holds Tryd.pinned (OpenSpec.upto journalTornSpec)

end Rows
end Go.Proofs.YtgelgkgmgjhmnaaDoor
