/-
  DERIVED. GIVEN WITH THE SEED: THE CARDS: each row of YtamllmoakgnjoaaDoorRows.lean that lists a variable, with what it lists TIED to the program's text (the seventh form; the later family's looks); each row that meets fmt, with fmt's text TOLD by the authors' own Lean function (tested against real Go, not proved from fmt's source: count such statements apart). THE CARD IS WHAT COUNTS. Prove the row's statement (the work); the ties are given (YtamllmoakgnjoaaDoorTie.lean); close each card by the builder's one call (the guide's Derived/Test/ToyasCard.lean, 'card_holds'). Laid BY PROGRAM, IN A SANDBOX (cutbox-door.mjs). By AI agents, Wed Nov 11 2026. No macro, syntax, notation, axiom, sorry.
-/
import Derived.Test.YtamllmoakgnjoaaDoorRows
import GoSem.ClaimSeven
namespace Go.Proofs.YtamllmoakgnjoaaDoor
namespace Rows

/-- THE TIED CARD OF 'seedcornlaw43.HeadLost'. -/
def headLostCard : Claim7 := { stood := { row := headLostRow, standIns := [], harness := (true, "d2ba443bc3d8b4c1c5429812ec6190fbe6e8f4d85534e5cb13515c1977a39133"), looks := false }, kinds := [], alts := [], laidByText := true, laidKinds := [.data], laidTests := true, laidLooks := .later }
def HeadLostCardSaid : Prop := Claim7.holds Tryd.pinned (.plain (OpenSpec.ofChange headLostSpec)) headLostCard

/-- THE TIED CARD OF 'seedcornlaw43.HeadOf'. -/
def headOfCard : Claim7 := { stood := { row := headOfRow, standIns := [], harness := (true, "d2ba443bc3d8b4c1c5429812ec6190fbe6e8f4d85534e5cb13515c1977a39133"), looks := false }, kinds := [], alts := [], laidByText := true, laidKinds := [.data], laidTests := true, laidLooks := .later }
def HeadOfCardSaid : Prop := Claim7.holds Tryd.pinned (.plain (OpenSpec.ofChange headOfSpec)) headOfCard

/-- THE TIED CARD OF 'seedcornlaw04.MerkleShort'. -/
def merkleShortCard : Claim7 := { stood := { row := merkleShortRow, standIns := [], harness := (true, "d2ba443bc3d8b4c1c5429812ec6190fbe6e8f4d85534e5cb13515c1977a39133"), looks := false }, kinds := [], alts := [], laidByText := true, laidKinds := [.data], laidTests := true, laidLooks := .later }
def MerkleShortCardSaid : Prop := Claim7.holds Tryd.pinned (.plain (OpenSpec.ofChange merkleShortSpec)) merkleShortCard

/-- THE TIED CARD OF 'seedcornlaw42.StoreAdds'. -/
def storeAddsCard : Claim7 := { stood := { row := storeAddsRow, standIns := [], harness := (true, "d2ba443bc3d8b4c1c5429812ec6190fbe6e8f4d85534e5cb13515c1977a39133"), looks := false }, kinds := [], alts := [], laidByText := true, laidKinds := [.data], laidTests := true, laidLooks := .later }
def StoreAddsCardSaid : Prop := Claim7.holds Tryd.pinned (.plain (OpenSpec.ofChange storeAddsSpec)) storeAddsCard

/-- THE TIED CARD OF 'seedcornlaw42.StoreGrows'. -/
def storeGrowsCard : Claim7 := { stood := { row := storeGrowsRow, standIns := [], harness := (true, "d2ba443bc3d8b4c1c5429812ec6190fbe6e8f4d85534e5cb13515c1977a39133"), looks := false }, kinds := [], alts := [], laidByText := true, laidKinds := [.data], laidTests := true, laidLooks := .later }
def StoreGrowsCardSaid : Prop := Claim7.holds Tryd.pinned (.plain (OpenSpec.ofChange storeGrowsSpec)) storeGrowsCard

/-- THE TIED CARD OF 'seedcornlaw43.HeadTail'. -/
def headTailCard : Claim7 := { stood := { row := headTailRow, standIns := [], harness := (true, "d2ba443bc3d8b4c1c5429812ec6190fbe6e8f4d85534e5cb13515c1977a39133"), looks := false }, kinds := [], alts := [], laidByText := true, laidKinds := [.data], laidTests := true, laidLooks := .later }
def HeadTailCardSaid : Prop := Claim7.holds Tryd.pinned (.plain (OpenSpec.ofChange headTailSpec)) headTailCard

/-- THE TIED CARD OF 'seedcornlaw43.HeadOther'. -/
def headOtherCard : Claim7 := { stood := { row := headOtherRow, standIns := [], harness := (true, "d2ba443bc3d8b4c1c5429812ec6190fbe6e8f4d85534e5cb13515c1977a39133"), looks := false }, kinds := [], alts := [], laidByText := true, laidKinds := [.data], laidTests := true, laidLooks := .later }
def HeadOtherCardSaid : Prop := Claim7.holds Tryd.pinned (.plain (OpenSpec.ofChange headOtherSpec)) headOtherCard

/-- THE TIED CARD OF 'seedcornlaw42.StoreSame'. -/
def storeSameCard : Claim7 := { stood := { row := storeSameRow, standIns := [], harness := (true, "d2ba443bc3d8b4c1c5429812ec6190fbe6e8f4d85534e5cb13515c1977a39133"), looks := false }, kinds := [], alts := [], laidByText := true, laidKinds := [.data], laidTests := true, laidLooks := .later }
def StoreSameCardSaid : Prop := Claim7.holds Tryd.pinned (.plain (OpenSpec.ofChange storeSameSpec)) storeSameCard

/-- THE TIED CARD OF 'seedcornlaw04.MerkleClashes'. -/
def merkleClashesCard : Claim7 := { stood := { row := merkleClashesRow, standIns := [], harness := (true, "d2ba443bc3d8b4c1c5429812ec6190fbe6e8f4d85534e5cb13515c1977a39133"), looks := false }, kinds := [], alts := [], laidByText := true, laidKinds := [.data], laidTests := true, laidLooks := .later }
def MerkleClashesCardSaid : Prop := Claim7.holds Tryd.pinned (.plain (OpenSpec.ofChange merkleClashesSpec)) merkleClashesCard

/-- THE TIED CARD OF 'seedcornlaw04.MerkleProves'. -/
def merkleProvesCard : Claim7 := { stood := { row := merkleProvesRow, standIns := [], harness := (true, "d2ba443bc3d8b4c1c5429812ec6190fbe6e8f4d85534e5cb13515c1977a39133"), looks := false }, kinds := [], alts := [], laidByText := true, laidKinds := [.data], laidTests := true, laidLooks := .later }
def MerkleProvesCardSaid : Prop := Claim7.holds Tryd.pinned (.plain (OpenSpec.ofChange merkleProvesSpec)) merkleProvesCard

/-- THE TIED CARD OF 'seedcornlaw04.MerkleChecks'. -/
def merkleChecksCard : Claim7 := { stood := { row := merkleChecksRow, standIns := [], harness := (true, "d2ba443bc3d8b4c1c5429812ec6190fbe6e8f4d85534e5cb13515c1977a39133"), looks := false }, kinds := [], alts := [], laidByText := true, laidKinds := [.data], laidTests := true, laidLooks := .later }
def MerkleChecksCardSaid : Prop := Claim7.holds Tryd.pinned (.plain (OpenSpec.ofChange merkleChecksSpec)) merkleChecksCard

/-- THE TIED CARD OF 'seedcornlaw04.MerkleOther'. -/
def merkleOtherCard : Claim7 := { stood := { row := merkleOtherRow, standIns := [], harness := (true, "d2ba443bc3d8b4c1c5429812ec6190fbe6e8f4d85534e5cb13515c1977a39133"), looks := false }, kinds := [], alts := [], laidByText := true, laidKinds := [.data], laidTests := true, laidLooks := .later }
def MerkleOtherCardSaid : Prop := Claim7.holds Tryd.pinned (.plain (OpenSpec.ofChange merkleOtherSpec)) merkleOtherCard

/-- THE TIED CARD OF 'seedcornlaw43.HeadOn'. -/
def headOnCard : Claim7 := { stood := { row := headOnRow, standIns := [], harness := (true, "d2ba443bc3d8b4c1c5429812ec6190fbe6e8f4d85534e5cb13515c1977a39133"), looks := false }, kinds := [], alts := [], laidByText := true, laidKinds := [.data], laidTests := true, laidLooks := .later }
def HeadOnCardSaid : Prop := Claim7.holds Tryd.pinned (.plain (OpenSpec.ofChange headOnSpec)) headOnCard

/-- THE TIED CARD OF 'seedcornlaw04.MerkleGoesOn'. -/
def merkleGoesOnCard : Claim7 := { stood := { row := merkleGoesOnRow, standIns := [], harness := (true, "d2ba443bc3d8b4c1c5429812ec6190fbe6e8f4d85534e5cb13515c1977a39133"), looks := false }, kinds := [], alts := [], laidByText := true, laidKinds := [.data], laidTests := true, laidLooks := .later }
def MerkleGoesOnCardSaid : Prop := Claim7.holds Tryd.pinned (.plain (OpenSpec.ofChange merkleGoesOnSpec)) merkleGoesOnCard

/-- THE TIED CARD OF 'seedcornlaw04.MerkleChecksOn'. -/
def merkleChecksOnCard : Claim7 := { stood := { row := merkleChecksOnRow, standIns := [], harness := (true, "d2ba443bc3d8b4c1c5429812ec6190fbe6e8f4d85534e5cb13515c1977a39133"), looks := false }, kinds := [], alts := [], laidByText := true, laidKinds := [.data], laidTests := true, laidLooks := .later }
def MerkleChecksOnCardSaid : Prop := Claim7.holds Tryd.pinned (.plain (OpenSpec.ofChange merkleChecksOnSpec)) merkleChecksOnCard

/-- THE TIED CARD OF 'seedcornlaw42.StoreProves'. -/
def storeProvesCard : Claim7 := { stood := { row := storeProvesRow, standIns := [], harness := (true, "d2ba443bc3d8b4c1c5429812ec6190fbe6e8f4d85534e5cb13515c1977a39133"), looks := false }, kinds := [], alts := [], laidByText := true, laidKinds := [.data], laidTests := true, laidLooks := .later }
def StoreProvesCardSaid : Prop := Claim7.holds Tryd.pinned (.plain (OpenSpec.ofChange storeProvesSpec)) storeProvesCard

/-- THE TIED CARD OF 'seedcornlaw43.HeadGoes'. -/
def headGoesCard : Claim7 := { stood := { row := headGoesRow, standIns := [], harness := (true, "d2ba443bc3d8b4c1c5429812ec6190fbe6e8f4d85534e5cb13515c1977a39133"), looks := false }, kinds := [], alts := [], laidByText := true, laidKinds := [.data], laidTests := true, laidLooks := .later }
def HeadGoesCardSaid : Prop := Claim7.holds Tryd.pinned (.plain (OpenSpec.ofChange headGoesSpec)) headGoesCard

/-- THE TIED CARD OF 'seedcornlaw42.StoreHolds'. -/
def storeHoldsCard : Claim7 := { stood := { row := storeHoldsRow, standIns := [], harness := (true, "d2ba443bc3d8b4c1c5429812ec6190fbe6e8f4d85534e5cb13515c1977a39133"), looks := false }, kinds := [], alts := [], laidByText := true, laidKinds := [.data], laidTests := true, laidLooks := .later }
def StoreHoldsCardSaid : Prop := Claim7.holds Tryd.pinned (.plain (OpenSpec.ofChange storeHoldsSpec)) storeHoldsCard

/-- THE SECOND FORM's CARD OF 'seedcornlaw43.HeadLost'. -/
def headLostUptoCard : Claim7 := { stood := { row := headLostUptoRow, standIns := [], harness := (true, "d2ba443bc3d8b4c1c5429812ec6190fbe6e8f4d85534e5cb13515c1977a39133"), looks := false }, kinds := [], alts := [], laidByText := true, laidKinds := [.data], laidTests := true, laidLooks := .later }
def HeadLostUptoCardSaid : Prop := Claim7.holds Tryd.pinned (.plain (OpenSpec.upto headLostSpec)) headLostUptoCard

/-- THE SECOND FORM's CARD OF 'seedcornlaw43.HeadOf'. -/
def headOfUptoCard : Claim7 := { stood := { row := headOfUptoRow, standIns := [], harness := (true, "d2ba443bc3d8b4c1c5429812ec6190fbe6e8f4d85534e5cb13515c1977a39133"), looks := false }, kinds := [], alts := [], laidByText := true, laidKinds := [.data], laidTests := true, laidLooks := .later }
def HeadOfUptoCardSaid : Prop := Claim7.holds Tryd.pinned (.plain (OpenSpec.upto headOfSpec)) headOfUptoCard

/-- THE SECOND FORM's CARD OF 'seedcornlaw04.MerkleShort'. -/
def merkleShortUptoCard : Claim7 := { stood := { row := merkleShortUptoRow, standIns := [], harness := (true, "d2ba443bc3d8b4c1c5429812ec6190fbe6e8f4d85534e5cb13515c1977a39133"), looks := false }, kinds := [], alts := [], laidByText := true, laidKinds := [.data], laidTests := true, laidLooks := .later }
def MerkleShortUptoCardSaid : Prop := Claim7.holds Tryd.pinned (.plain (OpenSpec.upto merkleShortSpec)) merkleShortUptoCard

/-- THE SECOND FORM's CARD OF 'seedcornlaw42.StoreAdds'. -/
def storeAddsUptoCard : Claim7 := { stood := { row := storeAddsUptoRow, standIns := [], harness := (true, "d2ba443bc3d8b4c1c5429812ec6190fbe6e8f4d85534e5cb13515c1977a39133"), looks := false }, kinds := [], alts := [], laidByText := true, laidKinds := [.data], laidTests := true, laidLooks := .later }
def StoreAddsUptoCardSaid : Prop := Claim7.holds Tryd.pinned (.plain (OpenSpec.upto storeAddsSpec)) storeAddsUptoCard

/-- THE SECOND FORM's CARD OF 'seedcornlaw42.StoreGrows'. -/
def storeGrowsUptoCard : Claim7 := { stood := { row := storeGrowsUptoRow, standIns := [], harness := (true, "d2ba443bc3d8b4c1c5429812ec6190fbe6e8f4d85534e5cb13515c1977a39133"), looks := false }, kinds := [], alts := [], laidByText := true, laidKinds := [.data], laidTests := true, laidLooks := .later }
def StoreGrowsUptoCardSaid : Prop := Claim7.holds Tryd.pinned (.plain (OpenSpec.upto storeGrowsSpec)) storeGrowsUptoCard

/-- THE SECOND FORM's CARD OF 'seedcornlaw43.HeadTail'. -/
def headTailUptoCard : Claim7 := { stood := { row := headTailUptoRow, standIns := [], harness := (true, "d2ba443bc3d8b4c1c5429812ec6190fbe6e8f4d85534e5cb13515c1977a39133"), looks := false }, kinds := [], alts := [], laidByText := true, laidKinds := [.data], laidTests := true, laidLooks := .later }
def HeadTailUptoCardSaid : Prop := Claim7.holds Tryd.pinned (.plain (OpenSpec.upto headTailSpec)) headTailUptoCard

/-- THE SECOND FORM's CARD OF 'seedcornlaw43.HeadOther'. -/
def headOtherUptoCard : Claim7 := { stood := { row := headOtherUptoRow, standIns := [], harness := (true, "d2ba443bc3d8b4c1c5429812ec6190fbe6e8f4d85534e5cb13515c1977a39133"), looks := false }, kinds := [], alts := [], laidByText := true, laidKinds := [.data], laidTests := true, laidLooks := .later }
def HeadOtherUptoCardSaid : Prop := Claim7.holds Tryd.pinned (.plain (OpenSpec.upto headOtherSpec)) headOtherUptoCard

/-- THE SECOND FORM's CARD OF 'seedcornlaw42.StoreSame'. -/
def storeSameUptoCard : Claim7 := { stood := { row := storeSameUptoRow, standIns := [], harness := (true, "d2ba443bc3d8b4c1c5429812ec6190fbe6e8f4d85534e5cb13515c1977a39133"), looks := false }, kinds := [], alts := [], laidByText := true, laidKinds := [.data], laidTests := true, laidLooks := .later }
def StoreSameUptoCardSaid : Prop := Claim7.holds Tryd.pinned (.plain (OpenSpec.upto storeSameSpec)) storeSameUptoCard

/-- THE SECOND FORM's CARD OF 'seedcornlaw04.MerkleClashes'. -/
def merkleClashesUptoCard : Claim7 := { stood := { row := merkleClashesUptoRow, standIns := [], harness := (true, "d2ba443bc3d8b4c1c5429812ec6190fbe6e8f4d85534e5cb13515c1977a39133"), looks := false }, kinds := [], alts := [], laidByText := true, laidKinds := [.data], laidTests := true, laidLooks := .later }
def MerkleClashesUptoCardSaid : Prop := Claim7.holds Tryd.pinned (.plain (OpenSpec.upto merkleClashesSpec)) merkleClashesUptoCard

/-- THE SECOND FORM's CARD OF 'seedcornlaw04.MerkleProves'. -/
def merkleProvesUptoCard : Claim7 := { stood := { row := merkleProvesUptoRow, standIns := [], harness := (true, "d2ba443bc3d8b4c1c5429812ec6190fbe6e8f4d85534e5cb13515c1977a39133"), looks := false }, kinds := [], alts := [], laidByText := true, laidKinds := [.data], laidTests := true, laidLooks := .later }
def MerkleProvesUptoCardSaid : Prop := Claim7.holds Tryd.pinned (.plain (OpenSpec.upto merkleProvesSpec)) merkleProvesUptoCard

/-- THE SECOND FORM's CARD OF 'seedcornlaw04.MerkleChecks'. -/
def merkleChecksUptoCard : Claim7 := { stood := { row := merkleChecksUptoRow, standIns := [], harness := (true, "d2ba443bc3d8b4c1c5429812ec6190fbe6e8f4d85534e5cb13515c1977a39133"), looks := false }, kinds := [], alts := [], laidByText := true, laidKinds := [.data], laidTests := true, laidLooks := .later }
def MerkleChecksUptoCardSaid : Prop := Claim7.holds Tryd.pinned (.plain (OpenSpec.upto merkleChecksSpec)) merkleChecksUptoCard

/-- THE SECOND FORM's CARD OF 'seedcornlaw04.MerkleOther'. -/
def merkleOtherUptoCard : Claim7 := { stood := { row := merkleOtherUptoRow, standIns := [], harness := (true, "d2ba443bc3d8b4c1c5429812ec6190fbe6e8f4d85534e5cb13515c1977a39133"), looks := false }, kinds := [], alts := [], laidByText := true, laidKinds := [.data], laidTests := true, laidLooks := .later }
def MerkleOtherUptoCardSaid : Prop := Claim7.holds Tryd.pinned (.plain (OpenSpec.upto merkleOtherSpec)) merkleOtherUptoCard

/-- THE SECOND FORM's CARD OF 'seedcornlaw43.HeadOn'. -/
def headOnUptoCard : Claim7 := { stood := { row := headOnUptoRow, standIns := [], harness := (true, "d2ba443bc3d8b4c1c5429812ec6190fbe6e8f4d85534e5cb13515c1977a39133"), looks := false }, kinds := [], alts := [], laidByText := true, laidKinds := [.data], laidTests := true, laidLooks := .later }
def HeadOnUptoCardSaid : Prop := Claim7.holds Tryd.pinned (.plain (OpenSpec.upto headOnSpec)) headOnUptoCard

/-- THE SECOND FORM's CARD OF 'seedcornlaw04.MerkleGoesOn'. -/
def merkleGoesOnUptoCard : Claim7 := { stood := { row := merkleGoesOnUptoRow, standIns := [], harness := (true, "d2ba443bc3d8b4c1c5429812ec6190fbe6e8f4d85534e5cb13515c1977a39133"), looks := false }, kinds := [], alts := [], laidByText := true, laidKinds := [.data], laidTests := true, laidLooks := .later }
def MerkleGoesOnUptoCardSaid : Prop := Claim7.holds Tryd.pinned (.plain (OpenSpec.upto merkleGoesOnSpec)) merkleGoesOnUptoCard

/-- THE SECOND FORM's CARD OF 'seedcornlaw04.MerkleChecksOn'. -/
def merkleChecksOnUptoCard : Claim7 := { stood := { row := merkleChecksOnUptoRow, standIns := [], harness := (true, "d2ba443bc3d8b4c1c5429812ec6190fbe6e8f4d85534e5cb13515c1977a39133"), looks := false }, kinds := [], alts := [], laidByText := true, laidKinds := [.data], laidTests := true, laidLooks := .later }
def MerkleChecksOnUptoCardSaid : Prop := Claim7.holds Tryd.pinned (.plain (OpenSpec.upto merkleChecksOnSpec)) merkleChecksOnUptoCard

/-- THE SECOND FORM's CARD OF 'seedcornlaw42.StoreProves'. -/
def storeProvesUptoCard : Claim7 := { stood := { row := storeProvesUptoRow, standIns := [], harness := (true, "d2ba443bc3d8b4c1c5429812ec6190fbe6e8f4d85534e5cb13515c1977a39133"), looks := false }, kinds := [], alts := [], laidByText := true, laidKinds := [.data], laidTests := true, laidLooks := .later }
def StoreProvesUptoCardSaid : Prop := Claim7.holds Tryd.pinned (.plain (OpenSpec.upto storeProvesSpec)) storeProvesUptoCard

/-- THE SECOND FORM's CARD OF 'seedcornlaw43.HeadGoes'. -/
def headGoesUptoCard : Claim7 := { stood := { row := headGoesUptoRow, standIns := [], harness := (true, "d2ba443bc3d8b4c1c5429812ec6190fbe6e8f4d85534e5cb13515c1977a39133"), looks := false }, kinds := [], alts := [], laidByText := true, laidKinds := [.data], laidTests := true, laidLooks := .later }
def HeadGoesUptoCardSaid : Prop := Claim7.holds Tryd.pinned (.plain (OpenSpec.upto headGoesSpec)) headGoesUptoCard

/-- THE SECOND FORM's CARD OF 'seedcornlaw42.StoreHolds'. -/
def storeHoldsUptoCard : Claim7 := { stood := { row := storeHoldsUptoRow, standIns := [], harness := (true, "d2ba443bc3d8b4c1c5429812ec6190fbe6e8f4d85534e5cb13515c1977a39133"), looks := false }, kinds := [], alts := [], laidByText := true, laidKinds := [.data], laidTests := true, laidLooks := .later }
def StoreHoldsUptoCardSaid : Prop := Claim7.holds Tryd.pinned (.plain (OpenSpec.upto storeHoldsSpec)) storeHoldsUptoCard
end Rows
end Go.Proofs.YtamllmoakgnjoaaDoor
