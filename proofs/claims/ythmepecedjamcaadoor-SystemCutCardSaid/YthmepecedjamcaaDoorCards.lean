/-
  DERIVED. GIVEN WITH THE SEED: THE CARDS: each row of YthmepecedjamcaaDoorRows.lean that lists a variable, with what it lists TIED to the program's text (the seventh form; the later family's looks); each row that meets fmt, with fmt's text TOLD by the authors' own Lean function (tested against real Go, not proved from fmt's source: count such statements apart). THE CARD IS WHAT COUNTS. Prove the row's statement (the work); the ties are given (YthmepecedjamcaaDoorTie.lean); close each card by the builder's one call (the guide's Derived/Test/ToyasCard.lean, 'card_holds'). Laid BY PROGRAM, IN A SANDBOX (cutbox-door.mjs). By AI agents, Wed Nov 11 2026. No macro, syntax, notation, axiom, sorry.
-/
import Derived.Test.YthmepecedjamcaaDoorRows
import GoSem.ClaimSeven
namespace Go.Proofs.YthmepecedjamcaaDoor
namespace Rows

/-- THE TIED CARD OF 'seedcorntop.SystemCut'. -/
def systemCutCard : Claim7 := { stood := { row := systemCutRow, standIns := [], harness := (true, "f340510196d291823cb22fd9b0b3fc01ac25c1c71e726776db063f9db19c18a9"), looks := false }, kinds := [], alts := [], laidByText := true, laidKinds := [.data], laidTests := true, laidLooks := .later }
def SystemCutCardSaid : Prop := Claim7.holds Tryd.pinned (.plain (OpenSpec.ofChange systemCutSpec)) systemCutCard

/-- THE TIED CARD OF 'seedcornlaw41.JournalPuts'. -/
def journalPutsCard : Claim7 := { stood := { row := journalPutsRow, standIns := [], harness := (true, "f340510196d291823cb22fd9b0b3fc01ac25c1c71e726776db063f9db19c18a9"), looks := false }, kinds := [], alts := [], laidByText := true, laidKinds := [.data], laidTests := true, laidLooks := .later }
def JournalPutsCardSaid : Prop := Claim7.holds Tryd.pinned (.plain (OpenSpec.ofChange journalPutsSpec)) journalPutsCard

/-- THE TIED CARD OF 'seedcornlaw41.JournalReads'. -/
def journalReadsCard : Claim7 := { stood := { row := journalReadsRow, standIns := [], harness := (true, "f340510196d291823cb22fd9b0b3fc01ac25c1c71e726776db063f9db19c18a9"), looks := false }, kinds := [], alts := [], laidByText := true, laidKinds := [.data], laidTests := true, laidLooks := .later }
def JournalReadsCardSaid : Prop := Claim7.holds Tryd.pinned (.plain (OpenSpec.ofChange journalReadsSpec)) journalReadsCard

/-- THE TIED CARD OF 'seedcornlaw41.JournalCut'. -/
def journalCutCard : Claim7 := { stood := { row := journalCutRow, standIns := [], harness := (true, "f340510196d291823cb22fd9b0b3fc01ac25c1c71e726776db063f9db19c18a9"), looks := false }, kinds := [], alts := [], laidByText := true, laidKinds := [.data], laidTests := true, laidLooks := .later }
def JournalCutCardSaid : Prop := Claim7.holds Tryd.pinned (.plain (OpenSpec.ofChange journalCutSpec)) journalCutCard

/-- THE TIED CARD OF 'seedcornlaw41.JournalSpoilt'. -/
def journalSpoiltCard : Claim7 := { stood := { row := journalSpoiltRow, standIns := [], harness := (true, "f340510196d291823cb22fd9b0b3fc01ac25c1c71e726776db063f9db19c18a9"), looks := false }, kinds := [], alts := [], laidByText := true, laidKinds := [.data], laidTests := true, laidLooks := .later }
def JournalSpoiltCardSaid : Prop := Claim7.holds Tryd.pinned (.plain (OpenSpec.ofChange journalSpoiltSpec)) journalSpoiltCard

/-- THE TIED CARD OF 'seedcornlaw41.JournalMore'. -/
def journalMoreCard : Claim7 := { stood := { row := journalMoreRow, standIns := [], harness := (true, "f340510196d291823cb22fd9b0b3fc01ac25c1c71e726776db063f9db19c18a9"), looks := false }, kinds := [], alts := [], laidByText := true, laidKinds := [.data], laidTests := true, laidLooks := .later }
def JournalMoreCardSaid : Prop := Claim7.holds Tryd.pinned (.plain (OpenSpec.ofChange journalMoreSpec)) journalMoreCard

/-- THE TIED CARD OF 'seedcornlaw41.JournalRest'. -/
def journalRestCard : Claim7 := { stood := { row := journalRestRow, standIns := [], harness := (true, "f340510196d291823cb22fd9b0b3fc01ac25c1c71e726776db063f9db19c18a9"), looks := false }, kinds := [], alts := [], laidByText := true, laidKinds := [.data], laidTests := true, laidLooks := .later }
def JournalRestCardSaid : Prop := Claim7.holds Tryd.pinned (.plain (OpenSpec.ofChange journalRestSpec)) journalRestCard

/-- THE TIED CARD OF 'seedcornlaw41.JournalRecovers'. -/
def journalRecoversCard : Claim7 := { stood := { row := journalRecoversRow, standIns := [], harness := (true, "f340510196d291823cb22fd9b0b3fc01ac25c1c71e726776db063f9db19c18a9"), looks := false }, kinds := [], alts := [], laidByText := true, laidKinds := [.data], laidTests := true, laidLooks := .later }
def JournalRecoversCardSaid : Prop := Claim7.holds Tryd.pinned (.plain (OpenSpec.ofChange journalRecoversSpec)) journalRecoversCard

/-- THE TIED CARD OF 'seedcornlaw42.StoreTwice'. -/
def storeTwiceCard : Claim7 := { stood := { row := storeTwiceRow, standIns := [], harness := (true, "f340510196d291823cb22fd9b0b3fc01ac25c1c71e726776db063f9db19c18a9"), looks := false }, kinds := [], alts := [], laidByText := true, laidKinds := [.data], laidTests := true, laidLooks := .later }
def StoreTwiceCardSaid : Prop := Claim7.holds Tryd.pinned (.plain (OpenSpec.ofChange storeTwiceSpec)) storeTwiceCard

/-- THE TIED CARD OF 'seedcornlaw42.StoreSaves'. -/
def storeSavesCard : Claim7 := { stood := { row := storeSavesRow, standIns := [], harness := (true, "f340510196d291823cb22fd9b0b3fc01ac25c1c71e726776db063f9db19c18a9"), looks := false }, kinds := [], alts := [], laidByText := true, laidKinds := [.data], laidTests := true, laidLooks := .later }
def StoreSavesCardSaid : Prop := Claim7.holds Tryd.pinned (.plain (OpenSpec.ofChange storeSavesSpec)) storeSavesCard

/-- THE TIED CARD OF 'seedcornlaw42.StoreOpens'. -/
def storeOpensCard : Claim7 := { stood := { row := storeOpensRow, standIns := [], harness := (true, "f340510196d291823cb22fd9b0b3fc01ac25c1c71e726776db063f9db19c18a9"), looks := false }, kinds := [], alts := [], laidByText := true, laidKinds := [.data], laidTests := true, laidLooks := .later }
def StoreOpensCardSaid : Prop := Claim7.holds Tryd.pinned (.plain (OpenSpec.ofChange storeOpensSpec)) storeOpensCard

/-- THE SECOND FORM's CARD OF 'seedcorntop.SystemCut'. -/
def systemCutUptoCard : Claim7 := { stood := { row := systemCutUptoRow, standIns := [], harness := (true, "f340510196d291823cb22fd9b0b3fc01ac25c1c71e726776db063f9db19c18a9"), looks := false }, kinds := [], alts := [], laidByText := true, laidKinds := [.data], laidTests := true, laidLooks := .later }
def SystemCutUptoCardSaid : Prop := Claim7.holds Tryd.pinned (.plain (OpenSpec.upto systemCutSpec)) systemCutUptoCard

/-- THE SECOND FORM's CARD OF 'seedcornlaw41.JournalPuts'. -/
def journalPutsUptoCard : Claim7 := { stood := { row := journalPutsUptoRow, standIns := [], harness := (true, "f340510196d291823cb22fd9b0b3fc01ac25c1c71e726776db063f9db19c18a9"), looks := false }, kinds := [], alts := [], laidByText := true, laidKinds := [.data], laidTests := true, laidLooks := .later }
def JournalPutsUptoCardSaid : Prop := Claim7.holds Tryd.pinned (.plain (OpenSpec.upto journalPutsSpec)) journalPutsUptoCard

/-- THE SECOND FORM's CARD OF 'seedcornlaw41.JournalReads'. -/
def journalReadsUptoCard : Claim7 := { stood := { row := journalReadsUptoRow, standIns := [], harness := (true, "f340510196d291823cb22fd9b0b3fc01ac25c1c71e726776db063f9db19c18a9"), looks := false }, kinds := [], alts := [], laidByText := true, laidKinds := [.data], laidTests := true, laidLooks := .later }
def JournalReadsUptoCardSaid : Prop := Claim7.holds Tryd.pinned (.plain (OpenSpec.upto journalReadsSpec)) journalReadsUptoCard

/-- THE SECOND FORM's CARD OF 'seedcornlaw41.JournalCut'. -/
def journalCutUptoCard : Claim7 := { stood := { row := journalCutUptoRow, standIns := [], harness := (true, "f340510196d291823cb22fd9b0b3fc01ac25c1c71e726776db063f9db19c18a9"), looks := false }, kinds := [], alts := [], laidByText := true, laidKinds := [.data], laidTests := true, laidLooks := .later }
def JournalCutUptoCardSaid : Prop := Claim7.holds Tryd.pinned (.plain (OpenSpec.upto journalCutSpec)) journalCutUptoCard

/-- THE SECOND FORM's CARD OF 'seedcornlaw41.JournalSpoilt'. -/
def journalSpoiltUptoCard : Claim7 := { stood := { row := journalSpoiltUptoRow, standIns := [], harness := (true, "f340510196d291823cb22fd9b0b3fc01ac25c1c71e726776db063f9db19c18a9"), looks := false }, kinds := [], alts := [], laidByText := true, laidKinds := [.data], laidTests := true, laidLooks := .later }
def JournalSpoiltUptoCardSaid : Prop := Claim7.holds Tryd.pinned (.plain (OpenSpec.upto journalSpoiltSpec)) journalSpoiltUptoCard

/-- THE SECOND FORM's CARD OF 'seedcornlaw41.JournalMore'. -/
def journalMoreUptoCard : Claim7 := { stood := { row := journalMoreUptoRow, standIns := [], harness := (true, "f340510196d291823cb22fd9b0b3fc01ac25c1c71e726776db063f9db19c18a9"), looks := false }, kinds := [], alts := [], laidByText := true, laidKinds := [.data], laidTests := true, laidLooks := .later }
def JournalMoreUptoCardSaid : Prop := Claim7.holds Tryd.pinned (.plain (OpenSpec.upto journalMoreSpec)) journalMoreUptoCard

/-- THE SECOND FORM's CARD OF 'seedcornlaw41.JournalRest'. -/
def journalRestUptoCard : Claim7 := { stood := { row := journalRestUptoRow, standIns := [], harness := (true, "f340510196d291823cb22fd9b0b3fc01ac25c1c71e726776db063f9db19c18a9"), looks := false }, kinds := [], alts := [], laidByText := true, laidKinds := [.data], laidTests := true, laidLooks := .later }
def JournalRestUptoCardSaid : Prop := Claim7.holds Tryd.pinned (.plain (OpenSpec.upto journalRestSpec)) journalRestUptoCard

/-- THE SECOND FORM's CARD OF 'seedcornlaw41.JournalRecovers'. -/
def journalRecoversUptoCard : Claim7 := { stood := { row := journalRecoversUptoRow, standIns := [], harness := (true, "f340510196d291823cb22fd9b0b3fc01ac25c1c71e726776db063f9db19c18a9"), looks := false }, kinds := [], alts := [], laidByText := true, laidKinds := [.data], laidTests := true, laidLooks := .later }
def JournalRecoversUptoCardSaid : Prop := Claim7.holds Tryd.pinned (.plain (OpenSpec.upto journalRecoversSpec)) journalRecoversUptoCard

/-- THE SECOND FORM's CARD OF 'seedcornlaw42.StoreTwice'. -/
def storeTwiceUptoCard : Claim7 := { stood := { row := storeTwiceUptoRow, standIns := [], harness := (true, "f340510196d291823cb22fd9b0b3fc01ac25c1c71e726776db063f9db19c18a9"), looks := false }, kinds := [], alts := [], laidByText := true, laidKinds := [.data], laidTests := true, laidLooks := .later }
def StoreTwiceUptoCardSaid : Prop := Claim7.holds Tryd.pinned (.plain (OpenSpec.upto storeTwiceSpec)) storeTwiceUptoCard

/-- THE SECOND FORM's CARD OF 'seedcornlaw42.StoreSaves'. -/
def storeSavesUptoCard : Claim7 := { stood := { row := storeSavesUptoRow, standIns := [], harness := (true, "f340510196d291823cb22fd9b0b3fc01ac25c1c71e726776db063f9db19c18a9"), looks := false }, kinds := [], alts := [], laidByText := true, laidKinds := [.data], laidTests := true, laidLooks := .later }
def StoreSavesUptoCardSaid : Prop := Claim7.holds Tryd.pinned (.plain (OpenSpec.upto storeSavesSpec)) storeSavesUptoCard

/-- THE SECOND FORM's CARD OF 'seedcornlaw42.StoreOpens'. -/
def storeOpensUptoCard : Claim7 := { stood := { row := storeOpensUptoRow, standIns := [], harness := (true, "f340510196d291823cb22fd9b0b3fc01ac25c1c71e726776db063f9db19c18a9"), looks := false }, kinds := [], alts := [], laidByText := true, laidKinds := [.data], laidTests := true, laidLooks := .later }
def StoreOpensUptoCardSaid : Prop := Claim7.holds Tryd.pinned (.plain (OpenSpec.upto storeOpensSpec)) storeOpensUptoCard
end Rows
end Go.Proofs.YthmepecedjamcaaDoor
