/-
  DERIVED. GIVEN WITH THE SEED: THE CARDS: each row of YtojlgfkjnkjcmaaDoorRows.lean that lists a variable, with what it lists TIED to the program's text (the seventh form; the later family's looks); each row that meets fmt, with fmt's text TOLD by the authors' own Lean function (tested against real Go, not proved from fmt's source: count such statements apart). THE CARD IS WHAT COUNTS. Prove the row's statement (the work); the ties are given (YtojlgfkjnkjcmaaDoorTie.lean); close each card by the builder's one call (the guide's Derived/Test/ToyasCard.lean, 'card_holds'). Laid BY PROGRAM, IN A SANDBOX (cutbox-door.mjs). By AI agents, Wed Nov 11 2026. No macro, syntax, notation, axiom, sorry.
-/
import Derived.Test.YtojlgfkjnkjcmaaDoorRows
import GoSem.ClaimSeven
namespace Go.Proofs.YtojlgfkjnkjcmaaDoor
namespace Rows

/-- THE TIED CARD OF 'hachurelaw50.QuadSizes'. -/
def quadSizesCard : Claim7 := { stood := { row := quadSizesRow, standIns := [], harness := (true, "922770712ad55dc439dd844eb69b71eed31ac2048778e04b1d8e91c5ff2f6988"), looks := true }, kinds := [], alts := [], laidByText := true, laidKinds := [.data, .data, .data], laidTests := true, laidLooks := .later }
def QuadSizesCardSaid : Prop := Claim7.holds Tryd.pinned (.plain (OpenSpec.ofChange quadSizesSpec)) quadSizesCard

/-- THE SECOND FORM's CARD OF 'hachurelaw50.QuadSizes'. -/
def quadSizesUptoCard : Claim7 := { stood := { row := quadSizesUptoRow, standIns := [], harness := (true, "922770712ad55dc439dd844eb69b71eed31ac2048778e04b1d8e91c5ff2f6988"), looks := true }, kinds := [], alts := [], laidByText := true, laidKinds := [.data, .data, .data], laidTests := true, laidLooks := .later }
def QuadSizesUptoCardSaid : Prop := Claim7.holds Tryd.pinned (.plain (OpenSpec.upto quadSizesSpec)) quadSizesUptoCard
end Rows
end Go.Proofs.YtojlgfkjnkjcmaaDoor
