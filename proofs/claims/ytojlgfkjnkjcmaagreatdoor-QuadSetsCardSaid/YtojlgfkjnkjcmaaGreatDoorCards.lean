/-
  DERIVED. GIVEN WITH THE SEED: THE CARDS: each row of YtojlgfkjnkjcmaaGreatDoorRows.lean that lists a variable, with what it lists TIED to the program's text (the seventh form; the later family's looks); each row that meets fmt, with fmt's text TOLD by the authors' own Lean function (tested against real Go, not proved from fmt's source: count such statements apart). THE CARD IS WHAT COUNTS. Prove the row's statement (the work); the ties are given (YtojlgfkjnkjcmaaGreatDoorTie.lean); close each card by the builder's one call (the guide's Derived/Test/ToyasCard.lean, 'card_holds'). Laid BY PROGRAM, IN A SANDBOX (cutbox-door.mjs). By AI agents, Wed Nov 11 2026. No macro, syntax, notation, axiom, sorry.
-/
import Derived.Test.YtojlgfkjnkjcmaaGreatDoorRows
import GoSem.ClaimSeven
namespace Go.Proofs.YtojlgfkjnkjcmaaGreatDoor
namespace Rows

/-- THE TIED CARD OF 'hachurelaw50.QuadSets'. -/
def quadSetsCard : Claim7 := { stood := { row := quadSetsRow, standIns := [], harness := (true, "a385fb1031b94323c4ad6a840cc16ab5c3540ca18eac18dd4e9de528b70bc7f6"), looks := true }, kinds := [], alts := [], laidByText := true, laidKinds := [.data, .data, .data], laidTests := true, laidLooks := .later }
def QuadSetsCardSaid : Prop := Claim7.holds Tryz.pinned (.plain (OpenSpec.ofChange quadSetsSpec)) quadSetsCard

/-- THE TIED CARD OF 'hachurelaw50.QuadReads'. -/
def quadReadsCard : Claim7 := { stood := { row := quadReadsRow, standIns := [], harness := (true, "a385fb1031b94323c4ad6a840cc16ab5c3540ca18eac18dd4e9de528b70bc7f6"), looks := true }, kinds := [], alts := [], laidByText := true, laidKinds := [.data, .data, .data, .sentinel, .sentinel], laidTests := true, laidLooks := .later }
def QuadReadsCardSaid : Prop := Claim7.holds Tryz.pinned (.plain (OpenSpec.ofChange quadReadsSpec)) quadReadsCard

/-- THE TIED CARD OF 'hachurelaw50.QuadOf'. -/
def quadOfCard : Claim7 := { stood := { row := quadOfRow, standIns := [], harness := (true, "a385fb1031b94323c4ad6a840cc16ab5c3540ca18eac18dd4e9de528b70bc7f6"), looks := true }, kinds := [], alts := [], laidByText := true, laidKinds := [.data, .data, .data, .sentinel, .sentinel], laidTests := true, laidLooks := .later }
def QuadOfCardSaid : Prop := Claim7.holds Tryz.pinned (.plain (OpenSpec.ofChange quadOfSpec)) quadOfCard

/-- THE SECOND FORM's CARD OF 'hachurelaw50.QuadSets'. -/
def quadSetsUptoCard : Claim7 := { stood := { row := quadSetsUptoRow, standIns := [], harness := (true, "a385fb1031b94323c4ad6a840cc16ab5c3540ca18eac18dd4e9de528b70bc7f6"), looks := true }, kinds := [], alts := [], laidByText := true, laidKinds := [.data, .data, .data], laidTests := true, laidLooks := .later }
def QuadSetsUptoCardSaid : Prop := Claim7.holds Tryz.pinned (.plain (OpenSpec.upto quadSetsSpec)) quadSetsUptoCard

/-- THE SECOND FORM's CARD OF 'hachurelaw50.QuadReads'. -/
def quadReadsUptoCard : Claim7 := { stood := { row := quadReadsUptoRow, standIns := [], harness := (true, "a385fb1031b94323c4ad6a840cc16ab5c3540ca18eac18dd4e9de528b70bc7f6"), looks := true }, kinds := [], alts := [], laidByText := true, laidKinds := [.data, .data, .data, .sentinel, .sentinel], laidTests := true, laidLooks := .later }
def QuadReadsUptoCardSaid : Prop := Claim7.holds Tryz.pinned (.plain (OpenSpec.upto quadReadsSpec)) quadReadsUptoCard

/-- THE SECOND FORM's CARD OF 'hachurelaw50.QuadOf'. -/
def quadOfUptoCard : Claim7 := { stood := { row := quadOfUptoRow, standIns := [], harness := (true, "a385fb1031b94323c4ad6a840cc16ab5c3540ca18eac18dd4e9de528b70bc7f6"), looks := true }, kinds := [], alts := [], laidByText := true, laidKinds := [.data, .data, .data, .sentinel, .sentinel], laidTests := true, laidLooks := .later }
def QuadOfUptoCardSaid : Prop := Claim7.holds Tryz.pinned (.plain (OpenSpec.upto quadOfSpec)) quadOfUptoCard
end Rows
end Go.Proofs.YtojlgfkjnkjcmaaGreatDoor
