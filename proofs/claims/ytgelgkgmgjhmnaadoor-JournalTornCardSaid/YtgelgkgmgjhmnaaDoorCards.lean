/-
  DERIVED. GIVEN WITH THE SEED: THE CARDS: each row of YtgelgkgmgjhmnaaDoorRows.lean that lists a variable, with what it lists TIED to the program's text (the seventh form; the later family's looks); each row that meets fmt, with fmt's text TOLD by the authors' own Lean function (tested against real Go, not proved from fmt's source: count such statements apart). THE CARD IS WHAT COUNTS. Prove the row's statement (the work); the ties are given (YtgelgkgmgjhmnaaDoorTie.lean); close each card by the builder's one call (the guide's Derived/Test/ToyasCard.lean, 'card_holds'). Laid BY PROGRAM, IN A SANDBOX (cutbox-door.mjs). By AI agents, Wed Nov 11 2026. No macro, syntax, notation, axiom, sorry.
-/
import Derived.Test.YtgelgkgmgjhmnaaDoorRows
import GoSem.ClaimSeven
namespace Go.Proofs.YtgelgkgmgjhmnaaDoor
namespace Rows

/-- THE TIED CARD OF 'hachurelaw03.CrcSums'. -/
def crcSumsCard : Claim7 := { stood := { row := crcSumsRow, standIns := [], harness := (true, "1f9cbd45d4a8e5b9159e8496d552542032e6f65eb03ad58a0815f2413749570e"), looks := false }, kinds := [], alts := [], laidByText := true, laidKinds := [.data], laidTests := true, laidLooks := .later }
def CrcSumsCardSaid : Prop := Claim7.holds Tryd.pinned (.plain (OpenSpec.ofChange crcSumsSpec)) crcSumsCard

/-- THE TIED CARD OF 'hachurelaw03.CrcOpens'. -/
def crcOpensCard : Claim7 := { stood := { row := crcOpensRow, standIns := [], harness := (true, "1f9cbd45d4a8e5b9159e8496d552542032e6f65eb03ad58a0815f2413749570e"), looks := false }, kinds := [], alts := [], laidByText := true, laidKinds := [.data], laidTests := true, laidLooks := .later }
def CrcOpensCardSaid : Prop := Claim7.holds Tryd.pinned (.plain (OpenSpec.ofChange crcOpensSpec)) crcOpensCard

/-- THE TIED CARD OF 'hachurelaw03.CrcTells'. -/
def crcTellsCard : Claim7 := { stood := { row := crcTellsRow, standIns := [], harness := (true, "1f9cbd45d4a8e5b9159e8496d552542032e6f65eb03ad58a0815f2413749570e"), looks := false }, kinds := [], alts := [], laidByText := true, laidKinds := [.data], laidTests := true, laidLooks := .later }
def CrcTellsCardSaid : Prop := Claim7.holds Tryd.pinned (.plain (OpenSpec.ofChange crcTellsSpec)) crcTellsCard

/-- THE TIED CARD OF 'hachurelaw40.JournalPuts'. -/
def journalPutsCard : Claim7 := { stood := { row := journalPutsRow, standIns := [], harness := (true, "1f9cbd45d4a8e5b9159e8496d552542032e6f65eb03ad58a0815f2413749570e"), looks := false }, kinds := [], alts := [], laidByText := true, laidKinds := [.data], laidTests := true, laidLooks := .later }
def JournalPutsCardSaid : Prop := Claim7.holds Tryd.pinned (.plain (OpenSpec.ofChange journalPutsSpec)) journalPutsCard

/-- THE TIED CARD OF 'hachurelaw40.JournalGets'. -/
def journalGetsCard : Claim7 := { stood := { row := journalGetsRow, standIns := [], harness := (true, "1f9cbd45d4a8e5b9159e8496d552542032e6f65eb03ad58a0815f2413749570e"), looks := false }, kinds := [], alts := [], laidByText := true, laidKinds := [.data], laidTests := true, laidLooks := .later }
def JournalGetsCardSaid : Prop := Claim7.holds Tryd.pinned (.plain (OpenSpec.ofChange journalGetsSpec)) journalGetsCard

/-- THE TIED CARD OF 'hachurelaw40.JournalTorn'. -/
def journalTornCard : Claim7 := { stood := { row := journalTornRow, standIns := [], harness := (true, "1f9cbd45d4a8e5b9159e8496d552542032e6f65eb03ad58a0815f2413749570e"), looks := false }, kinds := [], alts := [], laidByText := true, laidKinds := [.data], laidTests := true, laidLooks := .later }
def JournalTornCardSaid : Prop := Claim7.holds Tryd.pinned (.plain (OpenSpec.ofChange journalTornSpec)) journalTornCard

/-- THE SECOND FORM's CARD OF 'hachurelaw03.CrcSums'. -/
def crcSumsUptoCard : Claim7 := { stood := { row := crcSumsUptoRow, standIns := [], harness := (true, "1f9cbd45d4a8e5b9159e8496d552542032e6f65eb03ad58a0815f2413749570e"), looks := false }, kinds := [], alts := [], laidByText := true, laidKinds := [.data], laidTests := true, laidLooks := .later }
def CrcSumsUptoCardSaid : Prop := Claim7.holds Tryd.pinned (.plain (OpenSpec.upto crcSumsSpec)) crcSumsUptoCard

/-- THE SECOND FORM's CARD OF 'hachurelaw03.CrcOpens'. -/
def crcOpensUptoCard : Claim7 := { stood := { row := crcOpensUptoRow, standIns := [], harness := (true, "1f9cbd45d4a8e5b9159e8496d552542032e6f65eb03ad58a0815f2413749570e"), looks := false }, kinds := [], alts := [], laidByText := true, laidKinds := [.data], laidTests := true, laidLooks := .later }
def CrcOpensUptoCardSaid : Prop := Claim7.holds Tryd.pinned (.plain (OpenSpec.upto crcOpensSpec)) crcOpensUptoCard

/-- THE SECOND FORM's CARD OF 'hachurelaw03.CrcTells'. -/
def crcTellsUptoCard : Claim7 := { stood := { row := crcTellsUptoRow, standIns := [], harness := (true, "1f9cbd45d4a8e5b9159e8496d552542032e6f65eb03ad58a0815f2413749570e"), looks := false }, kinds := [], alts := [], laidByText := true, laidKinds := [.data], laidTests := true, laidLooks := .later }
def CrcTellsUptoCardSaid : Prop := Claim7.holds Tryd.pinned (.plain (OpenSpec.upto crcTellsSpec)) crcTellsUptoCard

/-- THE SECOND FORM's CARD OF 'hachurelaw40.JournalPuts'. -/
def journalPutsUptoCard : Claim7 := { stood := { row := journalPutsUptoRow, standIns := [], harness := (true, "1f9cbd45d4a8e5b9159e8496d552542032e6f65eb03ad58a0815f2413749570e"), looks := false }, kinds := [], alts := [], laidByText := true, laidKinds := [.data], laidTests := true, laidLooks := .later }
def JournalPutsUptoCardSaid : Prop := Claim7.holds Tryd.pinned (.plain (OpenSpec.upto journalPutsSpec)) journalPutsUptoCard

/-- THE SECOND FORM's CARD OF 'hachurelaw40.JournalGets'. -/
def journalGetsUptoCard : Claim7 := { stood := { row := journalGetsUptoRow, standIns := [], harness := (true, "1f9cbd45d4a8e5b9159e8496d552542032e6f65eb03ad58a0815f2413749570e"), looks := false }, kinds := [], alts := [], laidByText := true, laidKinds := [.data], laidTests := true, laidLooks := .later }
def JournalGetsUptoCardSaid : Prop := Claim7.holds Tryd.pinned (.plain (OpenSpec.upto journalGetsSpec)) journalGetsUptoCard

/-- THE SECOND FORM's CARD OF 'hachurelaw40.JournalTorn'. -/
def journalTornUptoCard : Claim7 := { stood := { row := journalTornUptoRow, standIns := [], harness := (true, "1f9cbd45d4a8e5b9159e8496d552542032e6f65eb03ad58a0815f2413749570e"), looks := false }, kinds := [], alts := [], laidByText := true, laidKinds := [.data], laidTests := true, laidLooks := .later }
def JournalTornUptoCardSaid : Prop := Claim7.holds Tryd.pinned (.plain (OpenSpec.upto journalTornSpec)) journalTornUptoCard
end Rows
end Go.Proofs.YtgelgkgmgjhmnaaDoor
