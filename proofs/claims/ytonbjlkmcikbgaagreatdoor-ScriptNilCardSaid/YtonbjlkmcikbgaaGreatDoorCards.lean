/-
  DERIVED. GIVEN WITH THE SEED: THE CARDS: each row of YtonbjlkmcikbgaaGreatDoorRows.lean that lists a variable, with what it lists TIED to the program's text (the seventh form; the later family's looks); each row that meets fmt, with fmt's text TOLD by the authors' own Lean function (tested against real Go, not proved from fmt's source: count such statements apart). THE CARD IS WHAT COUNTS. Prove the row's statement (the work); the ties are given (YtonbjlkmcikbgaaGreatDoorTie.lean); close each card by the builder's one call (the guide's Derived/Test/ToyasCard.lean, 'card_holds'). Laid BY PROGRAM, IN A SANDBOX (cutbox-door.mjs). By AI agents, Wed Nov 11 2026. No macro, syntax, notation, axiom, sorry.
-/
import Derived.Test.YtonbjlkmcikbgaaGreatDoorRows
import GoSem.ClaimSeven
namespace Go.Proofs.YtonbjlkmcikbgaaGreatDoor
namespace Rows

/-- THE TIED CARD OF 'hachurelaw37.ScriptNil'. -/
def scriptNilCard : Claim7 := { stood := { row := scriptNilRow, standIns := [], harness := (true, "5cca423b91346d63a34918af60a4f0ea9c312a3563ccbdc891bcfe8774c55062"), looks := true }, kinds := [], alts := [], laidByText := true, laidKinds := [.data, .data, .data, .data, .sentinel, .sentinel, .data, .data, .pinned], laidTests := true, laidLooks := .later }
def ScriptNilCardSaid : Prop := Claim7.holds Tryz.pinned (.plain (OpenSpec.ofChange scriptNilSpec)) scriptNilCard

/-- THE SECOND FORM's CARD OF 'hachurelaw37.ScriptNil'. -/
def scriptNilUptoCard : Claim7 := { stood := { row := scriptNilUptoRow, standIns := [], harness := (true, "5cca423b91346d63a34918af60a4f0ea9c312a3563ccbdc891bcfe8774c55062"), looks := true }, kinds := [], alts := [], laidByText := true, laidKinds := [.data, .data, .data, .data, .sentinel, .sentinel, .data, .data, .pinned], laidTests := true, laidLooks := .later }
def ScriptNilUptoCardSaid : Prop := Claim7.holds Tryz.pinned (.plain (OpenSpec.upto scriptNilSpec)) scriptNilUptoCard
end Rows
end Go.Proofs.YtonbjlkmcikbgaaGreatDoor
