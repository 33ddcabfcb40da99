/-
  DERIVED. GIVEN WITH THE SEED: THE CARDS: each row of YtkichbggmgppmaaDoorRows.lean that lists a variable, with what it lists TIED to the program's text (the seventh form; the later family's looks); each row that meets fmt, with fmt's text TOLD by the authors' own Lean function (tested against real Go, not proved from fmt's source: count such statements apart). THE CARD IS WHAT COUNTS. Prove the row's statement (the work); the ties are given (YtkichbggmgppmaaDoorTie.lean); close each card by the builder's one call (the guide's Derived/Test/ToyasCard.lean, 'card_holds'). Laid BY PROGRAM, IN A SANDBOX (cutbox-door.mjs). By AI agents, Wed Nov 11 2026. No macro, syntax, notation, axiom, sorry.
-/
import Derived.Test.YtkichbggmgppmaaDoorRows
import GoSem.ClaimSeven
namespace Go.Proofs.YtkichbggmgppmaaDoor
namespace Rows

/-- THE TIED CARD OF 'hachurelaw50.QuadSizes'. -/
def quadSizesCard : Claim7 := { stood := { row := quadSizesRow, standIns := [], harness := (true, "c2999a4cbe042b87a4bc163c9014ea26ce1111194fb6ec33f2155d22cfc9fed4"), looks := true }, kinds := [], alts := [], laidByText := true, laidKinds := [.data, .data, .data], laidTests := true, laidLooks := .later }
def QuadSizesCardSaid : Prop := Claim7.holds Tryd.pinned (.plain (OpenSpec.ofChange quadSizesSpec)) quadSizesCard

/-- THE TIED CARD OF 'hachurelaw33.TintPrints'. -/
def tintPrintsCard : Claim7 := { stood := { row := tintPrintsRow, standIns := [], harness := (true, "c2999a4cbe042b87a4bc163c9014ea26ce1111194fb6ec33f2155d22cfc9fed4"), looks := true }, kinds := [], alts := [], laidByText := true, laidKinds := [.data, .data, .data, .data, .sentinel, .sentinel, .pinned], laidTests := true, laidLooks := .later }
def TintPrintsCardSaid : Prop := Claim7.holds Tryd.pinned (.plain (OpenSpec.ofChange tintPrintsSpec)) tintPrintsCard

/-- THE TIED CARD OF 'hachurelaw33.TintReads'. -/
def tintReadsCard : Claim7 := { stood := { row := tintReadsRow, standIns := [], harness := (true, "c2999a4cbe042b87a4bc163c9014ea26ce1111194fb6ec33f2155d22cfc9fed4"), looks := true }, kinds := [], alts := [], laidByText := true, laidKinds := [.data, .data, .data, .data, .sentinel, .sentinel, .pinned], laidTests := true, laidLooks := .later }
def TintReadsCardSaid : Prop := Claim7.holds Tryd.pinned (.plain (OpenSpec.ofChange tintReadsSpec)) tintReadsCard

/-- THE SECOND FORM's CARD OF 'hachurelaw50.QuadSizes'. -/
def quadSizesUptoCard : Claim7 := { stood := { row := quadSizesUptoRow, standIns := [], harness := (true, "c2999a4cbe042b87a4bc163c9014ea26ce1111194fb6ec33f2155d22cfc9fed4"), looks := true }, kinds := [], alts := [], laidByText := true, laidKinds := [.data, .data, .data], laidTests := true, laidLooks := .later }
def QuadSizesUptoCardSaid : Prop := Claim7.holds Tryd.pinned (.plain (OpenSpec.upto quadSizesSpec)) quadSizesUptoCard

/-- THE SECOND FORM's CARD OF 'hachurelaw33.TintPrints'. -/
def tintPrintsUptoCard : Claim7 := { stood := { row := tintPrintsUptoRow, standIns := [], harness := (true, "c2999a4cbe042b87a4bc163c9014ea26ce1111194fb6ec33f2155d22cfc9fed4"), looks := true }, kinds := [], alts := [], laidByText := true, laidKinds := [.data, .data, .data, .data, .sentinel, .sentinel, .pinned], laidTests := true, laidLooks := .later }
def TintPrintsUptoCardSaid : Prop := Claim7.holds Tryd.pinned (.plain (OpenSpec.upto tintPrintsSpec)) tintPrintsUptoCard

/-- THE SECOND FORM's CARD OF 'hachurelaw33.TintReads'. -/
def tintReadsUptoCard : Claim7 := { stood := { row := tintReadsUptoRow, standIns := [], harness := (true, "c2999a4cbe042b87a4bc163c9014ea26ce1111194fb6ec33f2155d22cfc9fed4"), looks := true }, kinds := [], alts := [], laidByText := true, laidKinds := [.data, .data, .data, .data, .sentinel, .sentinel, .pinned], laidTests := true, laidLooks := .later }
def TintReadsUptoCardSaid : Prop := Claim7.holds Tryd.pinned (.plain (OpenSpec.upto tintReadsSpec)) tintReadsUptoCard
end Rows
end Go.Proofs.YtkichbggmgppmaaDoor
