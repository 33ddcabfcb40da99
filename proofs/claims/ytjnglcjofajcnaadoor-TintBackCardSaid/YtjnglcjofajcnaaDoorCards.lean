/-
  DERIVED. GIVEN WITH THE SEED: THE CARDS: each row of YtjnglcjofajcnaaDoorRows.lean that lists a variable, with what it lists TIED to the program's text (the seventh form; the later family's looks); each row that meets fmt, with fmt's text TOLD by the authors' own Lean function (tested against real Go, not proved from fmt's source: count such statements apart). THE CARD IS WHAT COUNTS. Prove the row's statement (the work); the ties are given (YtjnglcjofajcnaaDoorTie.lean); close each card by the builder's one call (the guide's Derived/Test/ToyasCard.lean, 'card_holds'). Laid BY PROGRAM, IN A SANDBOX (cutbox-door.mjs). By AI agents, Wed Nov 11 2026. No macro, syntax, notation, axiom, sorry.
-/
import Derived.Test.YtjnglcjofajcnaaDoorRows
import GoSem.ClaimSeven
namespace Go.Proofs.YtjnglcjofajcnaaDoor
namespace Rows

/-- THE TIED CARD OF 'hachurelaw50.QuadSizes'. -/
def quadSizesCard : Claim7 := { stood := { row := quadSizesRow, standIns := [], harness := (true, "8c44c3157a0fc63b977400109a94d97567cfef30f7ed9cbc3d620bbab968e785"), looks := true }, kinds := [], alts := [], laidByText := true, laidKinds := [.data, .data, .data], laidTests := true, laidLooks := .later }
def QuadSizesCardSaid : Prop := Claim7.holds Tryd.pinned (.plain (OpenSpec.ofChange quadSizesSpec)) quadSizesCard

/-- THE TIED CARD OF 'hachurelaw33.TintSigns'. -/
def tintSignsCard : Claim7 := { stood := { row := tintSignsRow, standIns := [], harness := (true, "8c44c3157a0fc63b977400109a94d97567cfef30f7ed9cbc3d620bbab968e785"), looks := true }, kinds := [], alts := [], laidByText := true, laidKinds := [.data, .data, .data, .data, .sentinel, .sentinel, .pinned], laidTests := true, laidLooks := .later }
def TintSignsCardSaid : Prop := Claim7.holds Tryd.pinned (.plain (OpenSpec.ofChange tintSignsSpec)) tintSignsCard

/-- THE TIED CARD OF 'hachurelaw33.TintBack'. -/
def tintBackCard : Claim7 := { stood := { row := tintBackRow, standIns := [], harness := (true, "8c44c3157a0fc63b977400109a94d97567cfef30f7ed9cbc3d620bbab968e785"), looks := true }, kinds := [], alts := [], laidByText := true, laidKinds := [.data, .data, .data, .data, .sentinel, .sentinel, .pinned], laidTests := true, laidLooks := .later }
def TintBackCardSaid : Prop := Claim7.holds Tryd.pinned (.plain (OpenSpec.ofChange tintBackSpec)) tintBackCard

/-- THE TIED CARD OF 'hachurelaw33.TintPrints'. -/
def tintPrintsCard : Claim7 := { stood := { row := tintPrintsRow, standIns := [], harness := (true, "8c44c3157a0fc63b977400109a94d97567cfef30f7ed9cbc3d620bbab968e785"), looks := true }, kinds := [], alts := [], laidByText := true, laidKinds := [.data, .data, .data, .data, .sentinel, .sentinel, .pinned], laidTests := true, laidLooks := .later }
def TintPrintsCardSaid : Prop := Claim7.holds Tryd.pinned (.plain (OpenSpec.ofChange tintPrintsSpec)) tintPrintsCard

/-- THE TIED CARD OF 'hachurelaw33.TintReads'. -/
def tintReadsCard : Claim7 := { stood := { row := tintReadsRow, standIns := [], harness := (true, "8c44c3157a0fc63b977400109a94d97567cfef30f7ed9cbc3d620bbab968e785"), looks := true }, kinds := [], alts := [], laidByText := true, laidKinds := [.data, .data, .data, .data, .sentinel, .sentinel, .pinned], laidTests := true, laidLooks := .later }
def TintReadsCardSaid : Prop := Claim7.holds Tryd.pinned (.plain (OpenSpec.ofChange tintReadsSpec)) tintReadsCard

/-- THE SECOND FORM's CARD OF 'hachurelaw50.QuadSizes'. -/
def quadSizesUptoCard : Claim7 := { stood := { row := quadSizesUptoRow, standIns := [], harness := (true, "8c44c3157a0fc63b977400109a94d97567cfef30f7ed9cbc3d620bbab968e785"), looks := true }, kinds := [], alts := [], laidByText := true, laidKinds := [.data, .data, .data], laidTests := true, laidLooks := .later }
def QuadSizesUptoCardSaid : Prop := Claim7.holds Tryd.pinned (.plain (OpenSpec.upto quadSizesSpec)) quadSizesUptoCard

/-- THE SECOND FORM's CARD OF 'hachurelaw33.TintSigns'. -/
def tintSignsUptoCard : Claim7 := { stood := { row := tintSignsUptoRow, standIns := [], harness := (true, "8c44c3157a0fc63b977400109a94d97567cfef30f7ed9cbc3d620bbab968e785"), looks := true }, kinds := [], alts := [], laidByText := true, laidKinds := [.data, .data, .data, .data, .sentinel, .sentinel, .pinned], laidTests := true, laidLooks := .later }
def TintSignsUptoCardSaid : Prop := Claim7.holds Tryd.pinned (.plain (OpenSpec.upto tintSignsSpec)) tintSignsUptoCard

/-- THE SECOND FORM's CARD OF 'hachurelaw33.TintBack'. -/
def tintBackUptoCard : Claim7 := { stood := { row := tintBackUptoRow, standIns := [], harness := (true, "8c44c3157a0fc63b977400109a94d97567cfef30f7ed9cbc3d620bbab968e785"), looks := true }, kinds := [], alts := [], laidByText := true, laidKinds := [.data, .data, .data, .data, .sentinel, .sentinel, .pinned], laidTests := true, laidLooks := .later }
def TintBackUptoCardSaid : Prop := Claim7.holds Tryd.pinned (.plain (OpenSpec.upto tintBackSpec)) tintBackUptoCard

/-- THE SECOND FORM's CARD OF 'hachurelaw33.TintPrints'. -/
def tintPrintsUptoCard : Claim7 := { stood := { row := tintPrintsUptoRow, standIns := [], harness := (true, "8c44c3157a0fc63b977400109a94d97567cfef30f7ed9cbc3d620bbab968e785"), looks := true }, kinds := [], alts := [], laidByText := true, laidKinds := [.data, .data, .data, .data, .sentinel, .sentinel, .pinned], laidTests := true, laidLooks := .later }
def TintPrintsUptoCardSaid : Prop := Claim7.holds Tryd.pinned (.plain (OpenSpec.upto tintPrintsSpec)) tintPrintsUptoCard

/-- THE SECOND FORM's CARD OF 'hachurelaw33.TintReads'. -/
def tintReadsUptoCard : Claim7 := { stood := { row := tintReadsUptoRow, standIns := [], harness := (true, "8c44c3157a0fc63b977400109a94d97567cfef30f7ed9cbc3d620bbab968e785"), looks := true }, kinds := [], alts := [], laidByText := true, laidKinds := [.data, .data, .data, .data, .sentinel, .sentinel, .pinned], laidTests := true, laidLooks := .later }
def TintReadsUptoCardSaid : Prop := Claim7.holds Tryd.pinned (.plain (OpenSpec.upto tintReadsSpec)) tintReadsUptoCard
end Rows
end Go.Proofs.YtjnglcjofajcnaaDoor
