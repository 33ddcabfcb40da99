/-
  DERIVED. GIVEN WITH THE SEED: THE CARDS: each row of YtddhamhdenkllaaDoorRows.lean that lists a variable, with what it lists TIED to the program's text (the seventh form; the later family's looks); each row that meets fmt, with fmt's text TOLD by the authors' own Lean function (tested against real Go, not proved from fmt's source: count such statements apart). THE CARD IS WHAT COUNTS. Prove the row's statement (the work); the ties are given (YtddhamhdenkllaaDoorTie.lean); close each card by the builder's one call (the guide's Derived/Test/ToyasCard.lean, 'card_holds'). Laid BY PROGRAM, IN A SANDBOX (cutbox-door.mjs). By AI agents, Wed Nov 11 2026. No macro, syntax, notation, axiom, sorry.
-/
import Derived.Test.YtddhamhdenkllaaDoorRows
import GoSem.ClaimSeven
namespace Go.Proofs.YtddhamhdenkllaaDoor
namespace Rows

/-- THE TIED CARD OF 'hachurelaw01.NumScans'. -/
def numScansCard : Claim7 := { stood := { row := numScansRow, standIns := [], harness := (true, "7429bbd71e2077ccba8e8fc6964e7c56d61feb9fa27918d42d12e4981c944f21"), looks := true }, kinds := [], alts := [], laidByText := true, laidKinds := [.data, .data, .data, .sentinel, .sentinel], laidTests := true, laidLooks := .later }
def NumScansCardSaid : Prop := Claim7.holds Tryd.pinned (.plain (OpenSpec.ofChange numScansSpec)) numScansCard

/-- THE TIED CARD OF 'hachurelaw01.NumPrints'. -/
def numPrintsCard : Claim7 := { stood := { row := numPrintsRow, standIns := [], harness := (true, "7429bbd71e2077ccba8e8fc6964e7c56d61feb9fa27918d42d12e4981c944f21"), looks := true }, kinds := [], alts := [], laidByText := true, laidKinds := [.data, .data, .data, .sentinel, .sentinel], laidTests := true, laidLooks := .later }
def NumPrintsCardSaid : Prop := Claim7.holds Tryd.pinned (.plain (OpenSpec.ofChange numPrintsSpec)) numPrintsCard

/-- THE TIED CARD OF 'hachurelaw01.NumReads'. -/
def numReadsCard : Claim7 := { stood := { row := numReadsRow, standIns := [], harness := (true, "7429bbd71e2077ccba8e8fc6964e7c56d61feb9fa27918d42d12e4981c944f21"), looks := true }, kinds := [], alts := [], laidByText := true, laidKinds := [.data, .data, .data, .sentinel, .sentinel], laidTests := true, laidLooks := .later }
def NumReadsCardSaid : Prop := Claim7.holds Tryd.pinned (.plain (OpenSpec.ofChange numReadsSpec)) numReadsCard

/-- THE SECOND FORM's CARD OF 'hachurelaw01.NumScans'. -/
def numScansUptoCard : Claim7 := { stood := { row := numScansUptoRow, standIns := [], harness := (true, "7429bbd71e2077ccba8e8fc6964e7c56d61feb9fa27918d42d12e4981c944f21"), looks := true }, kinds := [], alts := [], laidByText := true, laidKinds := [.data, .data, .data, .sentinel, .sentinel], laidTests := true, laidLooks := .later }
def NumScansUptoCardSaid : Prop := Claim7.holds Tryd.pinned (.plain (OpenSpec.upto numScansSpec)) numScansUptoCard

/-- THE SECOND FORM's CARD OF 'hachurelaw01.NumPrints'. -/
def numPrintsUptoCard : Claim7 := { stood := { row := numPrintsUptoRow, standIns := [], harness := (true, "7429bbd71e2077ccba8e8fc6964e7c56d61feb9fa27918d42d12e4981c944f21"), looks := true }, kinds := [], alts := [], laidByText := true, laidKinds := [.data, .data, .data, .sentinel, .sentinel], laidTests := true, laidLooks := .later }
def NumPrintsUptoCardSaid : Prop := Claim7.holds Tryd.pinned (.plain (OpenSpec.upto numPrintsSpec)) numPrintsUptoCard

/-- THE SECOND FORM's CARD OF 'hachurelaw01.NumReads'. -/
def numReadsUptoCard : Claim7 := { stood := { row := numReadsUptoRow, standIns := [], harness := (true, "7429bbd71e2077ccba8e8fc6964e7c56d61feb9fa27918d42d12e4981c944f21"), looks := true }, kinds := [], alts := [], laidByText := true, laidKinds := [.data, .data, .data, .sentinel, .sentinel], laidTests := true, laidLooks := .later }
def NumReadsUptoCardSaid : Prop := Claim7.holds Tryd.pinned (.plain (OpenSpec.upto numReadsSpec)) numReadsUptoCard
end Rows
end Go.Proofs.YtddhamhdenkllaaDoor
