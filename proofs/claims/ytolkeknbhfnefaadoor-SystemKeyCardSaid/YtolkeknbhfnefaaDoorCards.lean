/-
  DERIVED. GIVEN WITH THE SEED: THE CARDS: each row of YtolkeknbhfnefaaDoorRows.lean that lists a variable, with what it lists TIED to the program's text (the seventh form; the later family's looks); each row that meets fmt, with fmt's text TOLD by the authors' own Lean function (tested against real Go, not proved from fmt's source: count such statements apart). THE CARD IS WHAT COUNTS. Prove the row's statement (the work); the ties are given (YtolkeknbhfnefaaDoorTie.lean); close each card by the builder's one call (the guide's Derived/Test/ToyasCard.lean, 'card_holds'). Laid BY PROGRAM, IN A SANDBOX (cutbox-door.mjs). By AI agents, Wed Nov 11 2026. No macro, syntax, notation, axiom, sorry.
-/
import Derived.Test.YtolkeknbhfnefaaDoorRows
import GoSem.ClaimSeven
namespace Go.Proofs.YtolkeknbhfnefaaDoor
namespace Rows

/-- THE TIED CARD OF 'seedcorntop.SystemKey'. -/
def systemKeyCard : Claim7 := { stood := { row := systemKeyRow, standIns := [], harness := (true, "c043203c7418b314bae29a80aa1618b19e86a69b989ae9a54462a6d4c21a185d"), looks := false }, kinds := [], alts := [], laidByText := true, laidKinds := [.data], laidTests := true, laidLooks := .later }
def SystemKeyCardSaid : Prop := Claim7.holds Tryd.pinned (.plain (OpenSpec.ofChange systemKeySpec)) systemKeyCard

/-- THE TIED CARD OF 'seedcornlaw45.QuorumRights'. -/
def quorumRightsCard : Claim7 := { stood := { row := quorumRightsRow, standIns := [], harness := (true, "c043203c7418b314bae29a80aa1618b19e86a69b989ae9a54462a6d4c21a185d"), looks := false }, kinds := [], alts := [], laidByText := true, laidKinds := [.data], laidTests := true, laidLooks := .later }
def QuorumRightsCardSaid : Prop := Claim7.holds Tryd.pinned (.plain (OpenSpec.ofChange quorumRightsSpec)) quorumRightsCard

/-- THE TIED CARD OF 'seedcornlaw45.QuorumTells'. -/
def quorumTellsCard : Claim7 := { stood := { row := quorumTellsRow, standIns := [], harness := (true, "c043203c7418b314bae29a80aa1618b19e86a69b989ae9a54462a6d4c21a185d"), looks := false }, kinds := [], alts := [], laidByText := true, laidKinds := [.data], laidTests := true, laidLooks := .later }
def QuorumTellsCardSaid : Prop := Claim7.holds Tryd.pinned (.plain (OpenSpec.ofChange quorumTellsSpec)) quorumTellsCard

/-- THE TIED CARD OF 'seedcornlaw45.QuorumFew'. -/
def quorumFewCard : Claim7 := { stood := { row := quorumFewRow, standIns := [], harness := (true, "c043203c7418b314bae29a80aa1618b19e86a69b989ae9a54462a6d4c21a185d"), looks := false }, kinds := [], alts := [], laidByText := true, laidKinds := [.data], laidTests := true, laidLooks := .later }
def QuorumFewCardSaid : Prop := Claim7.holds Tryd.pinned (.plain (OpenSpec.ofChange quorumFewSpec)) quorumFewCard

/-- THE TIED CARD OF 'seedcornlaw45.QuorumMore'. -/
def quorumMoreCard : Claim7 := { stood := { row := quorumMoreRow, standIns := [], harness := (true, "c043203c7418b314bae29a80aa1618b19e86a69b989ae9a54462a6d4c21a185d"), looks := false }, kinds := [], alts := [], laidByText := true, laidKinds := [.data], laidTests := true, laidLooks := .later }
def QuorumMoreCardSaid : Prop := Claim7.holds Tryd.pinned (.plain (OpenSpec.ofChange quorumMoreSpec)) quorumMoreCard

/-- THE TIED CARD OF 'seedcornlaw45.QuorumDoes'. -/
def quorumDoesCard : Claim7 := { stood := { row := quorumDoesRow, standIns := [], harness := (true, "c043203c7418b314bae29a80aa1618b19e86a69b989ae9a54462a6d4c21a185d"), looks := false }, kinds := [], alts := [], laidByText := true, laidKinds := [.data], laidTests := true, laidLooks := .later }
def QuorumDoesCardSaid : Prop := Claim7.holds Tryd.pinned (.plain (OpenSpec.ofChange quorumDoesSpec)) quorumDoesCard

/-- THE TIED CARD OF 'seedcornlaw45.QuorumHonest'. -/
def quorumHonestCard : Claim7 := { stood := { row := quorumHonestRow, standIns := [], harness := (true, "c043203c7418b314bae29a80aa1618b19e86a69b989ae9a54462a6d4c21a185d"), looks := false }, kinds := [], alts := [], laidByText := true, laidKinds := [.data], laidTests := true, laidLooks := .later }
def QuorumHonestCardSaid : Prop := Claim7.holds Tryd.pinned (.plain (OpenSpec.ofChange quorumHonestSpec)) quorumHonestCard

/-- THE TIED CARD OF 'seedcornlaw45.QuorumMeets'. -/
def quorumMeetsCard : Claim7 := { stood := { row := quorumMeetsRow, standIns := [], harness := (true, "c043203c7418b314bae29a80aa1618b19e86a69b989ae9a54462a6d4c21a185d"), looks := false }, kinds := [], alts := [], laidByText := true, laidKinds := [.data], laidTests := true, laidLooks := .later }
def QuorumMeetsCardSaid : Prop := Claim7.holds Tryd.pinned (.plain (OpenSpec.ofChange quorumMeetsSpec)) quorumMeetsCard

/-- THE TIED CARD OF 'seedcornlaw43.HeadChecks'. -/
def headChecksCard : Claim7 := { stood := { row := headChecksRow, standIns := [], harness := (true, "c043203c7418b314bae29a80aa1618b19e86a69b989ae9a54462a6d4c21a185d"), looks := false }, kinds := [], alts := [], laidByText := true, laidKinds := [.data], laidTests := true, laidLooks := .later }
def HeadChecksCardSaid : Prop := Claim7.holds Tryd.pinned (.plain (OpenSpec.ofChange headChecksSpec)) headChecksCard

/-- THE TIED CARD OF 'seedcornlaw43.HeadSigns'. -/
def headSignsCard : Claim7 := { stood := { row := headSignsRow, standIns := [], harness := (true, "c043203c7418b314bae29a80aa1618b19e86a69b989ae9a54462a6d4c21a185d"), looks := false }, kinds := [], alts := [], laidByText := true, laidKinds := [.data], laidTests := true, laidLooks := .later }
def HeadSignsCardSaid : Prop := Claim7.holds Tryd.pinned (.plain (OpenSpec.ofChange headSignsSpec)) headSignsCard

/-- THE SECOND FORM's CARD OF 'seedcorntop.SystemKey'. -/
def systemKeyUptoCard : Claim7 := { stood := { row := systemKeyUptoRow, standIns := [], harness := (true, "c043203c7418b314bae29a80aa1618b19e86a69b989ae9a54462a6d4c21a185d"), looks := false }, kinds := [], alts := [], laidByText := true, laidKinds := [.data], laidTests := true, laidLooks := .later }
def SystemKeyUptoCardSaid : Prop := Claim7.holds Tryd.pinned (.plain (OpenSpec.upto systemKeySpec)) systemKeyUptoCard

/-- THE SECOND FORM's CARD OF 'seedcornlaw45.QuorumRights'. -/
def quorumRightsUptoCard : Claim7 := { stood := { row := quorumRightsUptoRow, standIns := [], harness := (true, "c043203c7418b314bae29a80aa1618b19e86a69b989ae9a54462a6d4c21a185d"), looks := false }, kinds := [], alts := [], laidByText := true, laidKinds := [.data], laidTests := true, laidLooks := .later }
def QuorumRightsUptoCardSaid : Prop := Claim7.holds Tryd.pinned (.plain (OpenSpec.upto quorumRightsSpec)) quorumRightsUptoCard

/-- THE SECOND FORM's CARD OF 'seedcornlaw45.QuorumTells'. -/
def quorumTellsUptoCard : Claim7 := { stood := { row := quorumTellsUptoRow, standIns := [], harness := (true, "c043203c7418b314bae29a80aa1618b19e86a69b989ae9a54462a6d4c21a185d"), looks := false }, kinds := [], alts := [], laidByText := true, laidKinds := [.data], laidTests := true, laidLooks := .later }
def QuorumTellsUptoCardSaid : Prop := Claim7.holds Tryd.pinned (.plain (OpenSpec.upto quorumTellsSpec)) quorumTellsUptoCard

/-- THE SECOND FORM's CARD OF 'seedcornlaw45.QuorumFew'. -/
def quorumFewUptoCard : Claim7 := { stood := { row := quorumFewUptoRow, standIns := [], harness := (true, "c043203c7418b314bae29a80aa1618b19e86a69b989ae9a54462a6d4c21a185d"), looks := false }, kinds := [], alts := [], laidByText := true, laidKinds := [.data], laidTests := true, laidLooks := .later }
def QuorumFewUptoCardSaid : Prop := Claim7.holds Tryd.pinned (.plain (OpenSpec.upto quorumFewSpec)) quorumFewUptoCard

/-- THE SECOND FORM's CARD OF 'seedcornlaw45.QuorumMore'. -/
def quorumMoreUptoCard : Claim7 := { stood := { row := quorumMoreUptoRow, standIns := [], harness := (true, "c043203c7418b314bae29a80aa1618b19e86a69b989ae9a54462a6d4c21a185d"), looks := false }, kinds := [], alts := [], laidByText := true, laidKinds := [.data], laidTests := true, laidLooks := .later }
def QuorumMoreUptoCardSaid : Prop := Claim7.holds Tryd.pinned (.plain (OpenSpec.upto quorumMoreSpec)) quorumMoreUptoCard

/-- THE SECOND FORM's CARD OF 'seedcornlaw45.QuorumDoes'. -/
def quorumDoesUptoCard : Claim7 := { stood := { row := quorumDoesUptoRow, standIns := [], harness := (true, "c043203c7418b314bae29a80aa1618b19e86a69b989ae9a54462a6d4c21a185d"), looks := false }, kinds := [], alts := [], laidByText := true, laidKinds := [.data], laidTests := true, laidLooks := .later }
def QuorumDoesUptoCardSaid : Prop := Claim7.holds Tryd.pinned (.plain (OpenSpec.upto quorumDoesSpec)) quorumDoesUptoCard

/-- THE SECOND FORM's CARD OF 'seedcornlaw45.QuorumHonest'. -/
def quorumHonestUptoCard : Claim7 := { stood := { row := quorumHonestUptoRow, standIns := [], harness := (true, "c043203c7418b314bae29a80aa1618b19e86a69b989ae9a54462a6d4c21a185d"), looks := false }, kinds := [], alts := [], laidByText := true, laidKinds := [.data], laidTests := true, laidLooks := .later }
def QuorumHonestUptoCardSaid : Prop := Claim7.holds Tryd.pinned (.plain (OpenSpec.upto quorumHonestSpec)) quorumHonestUptoCard

/-- THE SECOND FORM's CARD OF 'seedcornlaw45.QuorumMeets'. -/
def quorumMeetsUptoCard : Claim7 := { stood := { row := quorumMeetsUptoRow, standIns := [], harness := (true, "c043203c7418b314bae29a80aa1618b19e86a69b989ae9a54462a6d4c21a185d"), looks := false }, kinds := [], alts := [], laidByText := true, laidKinds := [.data], laidTests := true, laidLooks := .later }
def QuorumMeetsUptoCardSaid : Prop := Claim7.holds Tryd.pinned (.plain (OpenSpec.upto quorumMeetsSpec)) quorumMeetsUptoCard

/-- THE SECOND FORM's CARD OF 'seedcornlaw43.HeadChecks'. -/
def headChecksUptoCard : Claim7 := { stood := { row := headChecksUptoRow, standIns := [], harness := (true, "c043203c7418b314bae29a80aa1618b19e86a69b989ae9a54462a6d4c21a185d"), looks := false }, kinds := [], alts := [], laidByText := true, laidKinds := [.data], laidTests := true, laidLooks := .later }
def HeadChecksUptoCardSaid : Prop := Claim7.holds Tryd.pinned (.plain (OpenSpec.upto headChecksSpec)) headChecksUptoCard

/-- THE SECOND FORM's CARD OF 'seedcornlaw43.HeadSigns'. -/
def headSignsUptoCard : Claim7 := { stood := { row := headSignsUptoRow, standIns := [], harness := (true, "c043203c7418b314bae29a80aa1618b19e86a69b989ae9a54462a6d4c21a185d"), looks := false }, kinds := [], alts := [], laidByText := true, laidKinds := [.data], laidTests := true, laidLooks := .later }
def HeadSignsUptoCardSaid : Prop := Claim7.holds Tryd.pinned (.plain (OpenSpec.upto headSignsSpec)) headSignsUptoCard
end Rows
end Go.Proofs.YtolkeknbhfnefaaDoor
