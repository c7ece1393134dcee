/-
  DERIVED. GIVEN WITH THE SEED: THE CARDS: each row of YtjokaennipmmaaaDoorRows.lean that lists a variable, with what it lists TIED to the program's text (the seventh form; the later family's looks); each row that meets fmt, with fmt's text TOLD by the authors' own Lean function (tested against real Go, not proved from fmt's source: count such statements apart). THE CARD IS WHAT COUNTS. Prove the row's statement (the work); the ties are given (YtjokaennipmmaaaDoorTie.lean); close each card by the builder's one call (the guide's Derived/Test/ToyasCard.lean, 'card_holds'). Laid BY PROGRAM, IN A SANDBOX (cutbox-door.mjs). By AI agents, Wed Nov 11 2026. No macro, syntax, notation, axiom, sorry.
-/
import Derived.Test.YtjokaennipmmaaaDoorRows
import GoSem.ClaimSeven
namespace Go.Proofs.YtjokaennipmmaaaDoor
namespace Rows

/-- THE TIED CARD OF 'seedcornlaw45.QuorumRights'. -/
def quorumRightsCard : Claim7 := { stood := { row := quorumRightsRow, standIns := [], harness := (true, "a75262cda7d357f3f3a060ef1db37590a05672f49cf75b7910ced4f81c1c24c4"), looks := false }, kinds := [], alts := [], laidByText := true, laidKinds := [.data], laidTests := true, laidLooks := .later }
def QuorumRightsCardSaid : Prop := Claim7.holds Tryd.pinned (.plain (OpenSpec.ofChange quorumRightsSpec)) quorumRightsCard

/-- THE TIED CARD OF 'seedcornlaw45.QuorumTells'. -/
def quorumTellsCard : Claim7 := { stood := { row := quorumTellsRow, standIns := [], harness := (true, "a75262cda7d357f3f3a060ef1db37590a05672f49cf75b7910ced4f81c1c24c4"), looks := false }, kinds := [], alts := [], laidByText := true, laidKinds := [.data], laidTests := true, laidLooks := .later }
def QuorumTellsCardSaid : Prop := Claim7.holds Tryd.pinned (.plain (OpenSpec.ofChange quorumTellsSpec)) quorumTellsCard

/-- THE TIED CARD OF 'seedcornlaw45.QuorumFew'. -/
def quorumFewCard : Claim7 := { stood := { row := quorumFewRow, standIns := [], harness := (true, "a75262cda7d357f3f3a060ef1db37590a05672f49cf75b7910ced4f81c1c24c4"), looks := false }, kinds := [], alts := [], laidByText := true, laidKinds := [.data], laidTests := true, laidLooks := .later }
def QuorumFewCardSaid : Prop := Claim7.holds Tryd.pinned (.plain (OpenSpec.ofChange quorumFewSpec)) quorumFewCard

/-- THE TIED CARD OF 'seedcornlaw45.QuorumMore'. -/
def quorumMoreCard : Claim7 := { stood := { row := quorumMoreRow, standIns := [], harness := (true, "a75262cda7d357f3f3a060ef1db37590a05672f49cf75b7910ced4f81c1c24c4"), looks := false }, kinds := [], alts := [], laidByText := true, laidKinds := [.data], laidTests := true, laidLooks := .later }
def QuorumMoreCardSaid : Prop := Claim7.holds Tryd.pinned (.plain (OpenSpec.ofChange quorumMoreSpec)) quorumMoreCard

/-- THE TIED CARD OF 'seedcornlaw45.QuorumDoes'. -/
def quorumDoesCard : Claim7 := { stood := { row := quorumDoesRow, standIns := [], harness := (true, "a75262cda7d357f3f3a060ef1db37590a05672f49cf75b7910ced4f81c1c24c4"), looks := false }, kinds := [], alts := [], laidByText := true, laidKinds := [.data], laidTests := true, laidLooks := .later }
def QuorumDoesCardSaid : Prop := Claim7.holds Tryd.pinned (.plain (OpenSpec.ofChange quorumDoesSpec)) quorumDoesCard

/-- THE TIED CARD OF 'seedcornlaw45.QuorumHonest'. -/
def quorumHonestCard : Claim7 := { stood := { row := quorumHonestRow, standIns := [], harness := (true, "a75262cda7d357f3f3a060ef1db37590a05672f49cf75b7910ced4f81c1c24c4"), looks := false }, kinds := [], alts := [], laidByText := true, laidKinds := [.data], laidTests := true, laidLooks := .later }
def QuorumHonestCardSaid : Prop := Claim7.holds Tryd.pinned (.plain (OpenSpec.ofChange quorumHonestSpec)) quorumHonestCard

/-- THE TIED CARD OF 'seedcornlaw45.QuorumMeets'. -/
def quorumMeetsCard : Claim7 := { stood := { row := quorumMeetsRow, standIns := [], harness := (true, "a75262cda7d357f3f3a060ef1db37590a05672f49cf75b7910ced4f81c1c24c4"), looks := false }, kinds := [], alts := [], laidByText := true, laidKinds := [.data], laidTests := true, laidLooks := .later }
def QuorumMeetsCardSaid : Prop := Claim7.holds Tryd.pinned (.plain (OpenSpec.ofChange quorumMeetsSpec)) quorumMeetsCard

/-- THE SECOND FORM's CARD OF 'seedcornlaw45.QuorumRights'. -/
def quorumRightsUptoCard : Claim7 := { stood := { row := quorumRightsUptoRow, standIns := [], harness := (true, "a75262cda7d357f3f3a060ef1db37590a05672f49cf75b7910ced4f81c1c24c4"), looks := false }, kinds := [], alts := [], laidByText := true, laidKinds := [.data], laidTests := true, laidLooks := .later }
def QuorumRightsUptoCardSaid : Prop := Claim7.holds Tryd.pinned (.plain (OpenSpec.upto quorumRightsSpec)) quorumRightsUptoCard

/-- THE SECOND FORM's CARD OF 'seedcornlaw45.QuorumTells'. -/
def quorumTellsUptoCard : Claim7 := { stood := { row := quorumTellsUptoRow, standIns := [], harness := (true, "a75262cda7d357f3f3a060ef1db37590a05672f49cf75b7910ced4f81c1c24c4"), looks := false }, kinds := [], alts := [], laidByText := true, laidKinds := [.data], laidTests := true, laidLooks := .later }
def QuorumTellsUptoCardSaid : Prop := Claim7.holds Tryd.pinned (.plain (OpenSpec.upto quorumTellsSpec)) quorumTellsUptoCard

/-- THE SECOND FORM's CARD OF 'seedcornlaw45.QuorumFew'. -/
def quorumFewUptoCard : Claim7 := { stood := { row := quorumFewUptoRow, standIns := [], harness := (true, "a75262cda7d357f3f3a060ef1db37590a05672f49cf75b7910ced4f81c1c24c4"), looks := false }, kinds := [], alts := [], laidByText := true, laidKinds := [.data], laidTests := true, laidLooks := .later }
def QuorumFewUptoCardSaid : Prop := Claim7.holds Tryd.pinned (.plain (OpenSpec.upto quorumFewSpec)) quorumFewUptoCard

/-- THE SECOND FORM's CARD OF 'seedcornlaw45.QuorumMore'. -/
def quorumMoreUptoCard : Claim7 := { stood := { row := quorumMoreUptoRow, standIns := [], harness := (true, "a75262cda7d357f3f3a060ef1db37590a05672f49cf75b7910ced4f81c1c24c4"), looks := false }, kinds := [], alts := [], laidByText := true, laidKinds := [.data], laidTests := true, laidLooks := .later }
def QuorumMoreUptoCardSaid : Prop := Claim7.holds Tryd.pinned (.plain (OpenSpec.upto quorumMoreSpec)) quorumMoreUptoCard

/-- THE SECOND FORM's CARD OF 'seedcornlaw45.QuorumDoes'. -/
def quorumDoesUptoCard : Claim7 := { stood := { row := quorumDoesUptoRow, standIns := [], harness := (true, "a75262cda7d357f3f3a060ef1db37590a05672f49cf75b7910ced4f81c1c24c4"), looks := false }, kinds := [], alts := [], laidByText := true, laidKinds := [.data], laidTests := true, laidLooks := .later }
def QuorumDoesUptoCardSaid : Prop := Claim7.holds Tryd.pinned (.plain (OpenSpec.upto quorumDoesSpec)) quorumDoesUptoCard

/-- THE SECOND FORM's CARD OF 'seedcornlaw45.QuorumHonest'. -/
def quorumHonestUptoCard : Claim7 := { stood := { row := quorumHonestUptoRow, standIns := [], harness := (true, "a75262cda7d357f3f3a060ef1db37590a05672f49cf75b7910ced4f81c1c24c4"), looks := false }, kinds := [], alts := [], laidByText := true, laidKinds := [.data], laidTests := true, laidLooks := .later }
def QuorumHonestUptoCardSaid : Prop := Claim7.holds Tryd.pinned (.plain (OpenSpec.upto quorumHonestSpec)) quorumHonestUptoCard

/-- THE SECOND FORM's CARD OF 'seedcornlaw45.QuorumMeets'. -/
def quorumMeetsUptoCard : Claim7 := { stood := { row := quorumMeetsUptoRow, standIns := [], harness := (true, "a75262cda7d357f3f3a060ef1db37590a05672f49cf75b7910ced4f81c1c24c4"), looks := false }, kinds := [], alts := [], laidByText := true, laidKinds := [.data], laidTests := true, laidLooks := .later }
def QuorumMeetsUptoCardSaid : Prop := Claim7.holds Tryd.pinned (.plain (OpenSpec.upto quorumMeetsSpec)) quorumMeetsUptoCard
end Rows
end Go.Proofs.YtjokaennipmmaaaDoor
