/-
  DERIVED. GIVEN WITH THE SEED: THE CARDS: each row of YteplckkoiffnnaaGreatDoorRows.lean that lists a variable, with what it lists TIED to the program's text (the seventh form; the later family's looks); each row that meets fmt, with fmt's text TOLD by the authors' own Lean function (tested against real Go, not proved from fmt's source: count such statements apart). THE CARD IS WHAT COUNTS. Prove the row's statement (the work); the ties are given (YteplckkoiffnnaaGreatDoorTie.lean); close each card by the builder's one call (the guide's Derived/Test/ToyasCard.lean, 'card_holds'). Laid BY PROGRAM, IN A SANDBOX (cutbox-door.mjs). By AI agents, Wed Nov 11 2026. No macro, syntax, notation, axiom, sorry.
-/
import Derived.Test.YteplckkoiffnnaaGreatDoorRows
import GoSem.ClaimSeven
namespace Go.Proofs.YteplckkoiffnnaaGreatDoor
namespace Rows

/-- THE TIED CARD OF 'hachurelaw37.ScriptAnswers'. -/
def scriptAnswersCard : Claim7 := { stood := { row := scriptAnswersRow, standIns := [], harness := (true, "4082e7cb3192dc28b0796a3523c2e872e90f68efad16ee7b96112c7d20dc2017"), looks := true }, kinds := [], alts := [], laidByText := true, laidKinds := [.data, .data, .data, .data, .sentinel, .sentinel, .data, .data, .pinned], laidTests := true, laidLooks := .later }
def ScriptAnswersCardSaid : Prop := Claim7.holds Tryz.pinned (.plain (OpenSpec.ofChange scriptAnswersSpec)) scriptAnswersCard

/-- THE SECOND FORM's CARD OF 'hachurelaw37.ScriptAnswers'. -/
def scriptAnswersUptoCard : Claim7 := { stood := { row := scriptAnswersUptoRow, standIns := [], harness := (true, "4082e7cb3192dc28b0796a3523c2e872e90f68efad16ee7b96112c7d20dc2017"), looks := true }, kinds := [], alts := [], laidByText := true, laidKinds := [.data, .data, .data, .data, .sentinel, .sentinel, .data, .data, .pinned], laidTests := true, laidLooks := .later }
def ScriptAnswersUptoCardSaid : Prop := Claim7.holds Tryz.pinned (.plain (OpenSpec.upto scriptAnswersSpec)) scriptAnswersUptoCard
end Rows
end Go.Proofs.YteplckkoiffnnaaGreatDoor
