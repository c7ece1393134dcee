/-
  DERIVED. GIVEN WITH THE SEED: THE CARDS: each row of YtjbklilnhemhmaaDoorRows.lean that lists a variable, with what it lists TIED to the program's text (the seventh form; the later family's looks); each row that meets fmt, with fmt's text TOLD by the authors' own Lean function (tested against real Go, not proved from fmt's source: count such statements apart). THE CARD IS WHAT COUNTS. Prove the row's statement (the work); the ties are given (YtjbklilnhemhmaaDoorTie.lean); close each card by the builder's one call (the guide's Derived/Test/ToyasCard.lean, 'card_holds'). Laid BY PROGRAM, IN A SANDBOX (cutbox-door.mjs). By AI agents, Wed Nov 11 2026. No macro, syntax, notation, axiom, sorry.
-/
import Derived.Test.YtjbklilnhemhmaaDoorRows
import GoSem.ClaimSeven
namespace Go.Proofs.YtjbklilnhemhmaaDoor
namespace Rows

/-- THE TIED CARD OF 'seedcorntop.SystemOn'. -/
def systemOnCard : Claim7 := { stood := { row := systemOnRow, standIns := [], harness := (true, "648f23f45492bb9a5bed273d7bed45e8757b0739c0ceb2d9900bf594259eb8a9"), looks := false }, kinds := [], alts := [], laidByText := true, laidKinds := [.data], laidTests := true, laidLooks := .later }
def SystemOnCardSaid : Prop := Claim7.holds Tryd.pinned (.plain (OpenSpec.ofChange systemOnSpec)) systemOnCard

/-- THE TIED CARD OF 'seedcornlaw04.MerkleOther'. -/
def merkleOtherCard : Claim7 := { stood := { row := merkleOtherRow, standIns := [], harness := (true, "648f23f45492bb9a5bed273d7bed45e8757b0739c0ceb2d9900bf594259eb8a9"), looks := false }, kinds := [], alts := [], laidByText := true, laidKinds := [.data], laidTests := true, laidLooks := .later }
def MerkleOtherCardSaid : Prop := Claim7.holds Tryd.pinned (.plain (OpenSpec.ofChange merkleOtherSpec)) merkleOtherCard

/-- THE TIED CARD OF 'seedcornlaw44.LinkOf'. -/
def linkOfCard : Claim7 := { stood := { row := linkOfRow, standIns := [], harness := (true, "648f23f45492bb9a5bed273d7bed45e8757b0739c0ceb2d9900bf594259eb8a9"), looks := false }, kinds := [], alts := [], laidByText := true, laidKinds := [.data], laidTests := true, laidLooks := .later }
def LinkOfCardSaid : Prop := Claim7.holds Tryd.pinned (.plain (OpenSpec.ofChange linkOfSpec)) linkOfCard

/-- THE TIED CARD OF 'seedcornlaw44.LinkTwice'. -/
def linkTwiceCard : Claim7 := { stood := { row := linkTwiceRow, standIns := [], harness := (true, "648f23f45492bb9a5bed273d7bed45e8757b0739c0ceb2d9900bf594259eb8a9"), looks := false }, kinds := [], alts := [], laidByText := true, laidKinds := [.data], laidTests := true, laidLooks := .later }
def LinkTwiceCardSaid : Prop := Claim7.holds Tryd.pinned (.plain (OpenSpec.ofChange linkTwiceSpec)) linkTwiceCard

/-- THE TIED CARD OF 'seedcornlaw44.LinkOthers'. -/
def linkOthersCard : Claim7 := { stood := { row := linkOthersRow, standIns := [], harness := (true, "648f23f45492bb9a5bed273d7bed45e8757b0739c0ceb2d9900bf594259eb8a9"), looks := false }, kinds := [], alts := [], laidByText := true, laidKinds := [.data], laidTests := true, laidLooks := .later }
def LinkOthersCardSaid : Prop := Claim7.holds Tryd.pinned (.plain (OpenSpec.ofChange linkOthersSpec)) linkOthersCard

/-- THE TIED CARD OF 'seedcornlaw06.KeysSigns'. -/
def keysSignsCard : Claim7 := { stood := { row := keysSignsRow, standIns := [], harness := (true, "648f23f45492bb9a5bed273d7bed45e8757b0739c0ceb2d9900bf594259eb8a9"), looks := false }, kinds := [], alts := [], laidByText := true, laidKinds := [.data], laidTests := true, laidLooks := .later }
def KeysSignsCardSaid : Prop := Claim7.holds Tryd.pinned (.plain (OpenSpec.ofChange keysSignsSpec)) keysSignsCard

/-- THE TIED CARD OF 'seedcornlaw06.KeysCheck'. -/
def keysCheckCard : Claim7 := { stood := { row := keysCheckRow, standIns := [], harness := (true, "648f23f45492bb9a5bed273d7bed45e8757b0739c0ceb2d9900bf594259eb8a9"), looks := false }, kinds := [], alts := [], laidByText := true, laidKinds := [.data], laidTests := true, laidLooks := .later }
def KeysCheckCardSaid : Prop := Claim7.holds Tryd.pinned (.plain (OpenSpec.ofChange keysCheckSpec)) keysCheckCard

/-- THE TIED CARD OF 'seedcornlaw06.KeysClash'. -/
def keysClashCard : Claim7 := { stood := { row := keysClashRow, standIns := [], harness := (true, "648f23f45492bb9a5bed273d7bed45e8757b0739c0ceb2d9900bf594259eb8a9"), looks := false }, kinds := [], alts := [], laidByText := true, laidKinds := [.data], laidTests := true, laidLooks := .later }
def KeysClashCardSaid : Prop := Claim7.holds Tryd.pinned (.plain (OpenSpec.ofChange keysClashSpec)) keysClashCard

/-- THE TIED CARD OF 'seedcornlaw06.KeysPlaces'. -/
def keysPlacesCard : Claim7 := { stood := { row := keysPlacesRow, standIns := [], harness := (true, "648f23f45492bb9a5bed273d7bed45e8757b0739c0ceb2d9900bf594259eb8a9"), looks := false }, kinds := [], alts := [], laidByText := true, laidKinds := [.data], laidTests := true, laidLooks := .later }
def KeysPlacesCardSaid : Prop := Claim7.holds Tryd.pinned (.plain (OpenSpec.ofChange keysPlacesSpec)) keysPlacesCard

/-- THE TIED CARD OF 'seedcornlaw06.KeysPublic'. -/
def keysPublicCard : Claim7 := { stood := { row := keysPublicRow, standIns := [], harness := (true, "648f23f45492bb9a5bed273d7bed45e8757b0739c0ceb2d9900bf594259eb8a9"), looks := false }, kinds := [], alts := [], laidByText := true, laidKinds := [.data], laidTests := true, laidLooks := .later }
def KeysPublicCardSaid : Prop := Claim7.holds Tryd.pinned (.plain (OpenSpec.ofChange keysPublicSpec)) keysPublicCard

/-- THE TIED CARD OF 'seedcornlaw06.KeysUses'. -/
def keysUsesCard : Claim7 := { stood := { row := keysUsesRow, standIns := [], harness := (true, "648f23f45492bb9a5bed273d7bed45e8757b0739c0ceb2d9900bf594259eb8a9"), looks := false }, kinds := [], alts := [], laidByText := true, laidKinds := [.data], laidTests := true, laidLooks := .later }
def KeysUsesCardSaid : Prop := Claim7.holds Tryd.pinned (.plain (OpenSpec.ofChange keysUsesSpec)) keysUsesCard

/-- THE TIED CARD OF 'seedcornlaw06.KeysRow'. -/
def keysRowCard : Claim7 := { stood := { row := keysRowRow, standIns := [], harness := (true, "648f23f45492bb9a5bed273d7bed45e8757b0739c0ceb2d9900bf594259eb8a9"), looks := false }, kinds := [], alts := [], laidByText := true, laidKinds := [.data], laidTests := true, laidLooks := .later }
def KeysRowCardSaid : Prop := Claim7.holds Tryd.pinned (.plain (OpenSpec.ofChange keysRowSpec)) keysRowCard

/-- THE TIED CARD OF 'seedcornlaw44.LinkShown'. -/
def linkShownCard : Claim7 := { stood := { row := linkShownRow, standIns := [], harness := (true, "648f23f45492bb9a5bed273d7bed45e8757b0739c0ceb2d9900bf594259eb8a9"), looks := false }, kinds := [], alts := [], laidByText := true, laidKinds := [.data], laidTests := true, laidLooks := .later }
def LinkShownCardSaid : Prop := Claim7.holds Tryd.pinned (.plain (OpenSpec.ofChange linkShownSpec)) linkShownCard

/-- THE TIED CARD OF 'seedcornlaw44.LinkAmong'. -/
def linkAmongCard : Claim7 := { stood := { row := linkAmongRow, standIns := [], harness := (true, "648f23f45492bb9a5bed273d7bed45e8757b0739c0ceb2d9900bf594259eb8a9"), looks := false }, kinds := [], alts := [], laidByText := true, laidKinds := [.data], laidTests := true, laidLooks := .later }
def LinkAmongCardSaid : Prop := Claim7.holds Tryd.pinned (.plain (OpenSpec.ofChange linkAmongSpec)) linkAmongCard

/-- THE SECOND FORM's CARD OF 'seedcorntop.SystemOn'. -/
def systemOnUptoCard : Claim7 := { stood := { row := systemOnUptoRow, standIns := [], harness := (true, "648f23f45492bb9a5bed273d7bed45e8757b0739c0ceb2d9900bf594259eb8a9"), looks := false }, kinds := [], alts := [], laidByText := true, laidKinds := [.data], laidTests := true, laidLooks := .later }
def SystemOnUptoCardSaid : Prop := Claim7.holds Tryd.pinned (.plain (OpenSpec.upto systemOnSpec)) systemOnUptoCard

/-- THE SECOND FORM's CARD OF 'seedcornlaw04.MerkleOther'. -/
def merkleOtherUptoCard : Claim7 := { stood := { row := merkleOtherUptoRow, standIns := [], harness := (true, "648f23f45492bb9a5bed273d7bed45e8757b0739c0ceb2d9900bf594259eb8a9"), looks := false }, kinds := [], alts := [], laidByText := true, laidKinds := [.data], laidTests := true, laidLooks := .later }
def MerkleOtherUptoCardSaid : Prop := Claim7.holds Tryd.pinned (.plain (OpenSpec.upto merkleOtherSpec)) merkleOtherUptoCard

/-- THE SECOND FORM's CARD OF 'seedcornlaw44.LinkOf'. -/
def linkOfUptoCard : Claim7 := { stood := { row := linkOfUptoRow, standIns := [], harness := (true, "648f23f45492bb9a5bed273d7bed45e8757b0739c0ceb2d9900bf594259eb8a9"), looks := false }, kinds := [], alts := [], laidByText := true, laidKinds := [.data], laidTests := true, laidLooks := .later }
def LinkOfUptoCardSaid : Prop := Claim7.holds Tryd.pinned (.plain (OpenSpec.upto linkOfSpec)) linkOfUptoCard

/-- THE SECOND FORM's CARD OF 'seedcornlaw44.LinkTwice'. -/
def linkTwiceUptoCard : Claim7 := { stood := { row := linkTwiceUptoRow, standIns := [], harness := (true, "648f23f45492bb9a5bed273d7bed45e8757b0739c0ceb2d9900bf594259eb8a9"), looks := false }, kinds := [], alts := [], laidByText := true, laidKinds := [.data], laidTests := true, laidLooks := .later }
def LinkTwiceUptoCardSaid : Prop := Claim7.holds Tryd.pinned (.plain (OpenSpec.upto linkTwiceSpec)) linkTwiceUptoCard

/-- THE SECOND FORM's CARD OF 'seedcornlaw44.LinkOthers'. -/
def linkOthersUptoCard : Claim7 := { stood := { row := linkOthersUptoRow, standIns := [], harness := (true, "648f23f45492bb9a5bed273d7bed45e8757b0739c0ceb2d9900bf594259eb8a9"), looks := false }, kinds := [], alts := [], laidByText := true, laidKinds := [.data], laidTests := true, laidLooks := .later }
def LinkOthersUptoCardSaid : Prop := Claim7.holds Tryd.pinned (.plain (OpenSpec.upto linkOthersSpec)) linkOthersUptoCard

/-- THE SECOND FORM's CARD OF 'seedcornlaw06.KeysSigns'. -/
def keysSignsUptoCard : Claim7 := { stood := { row := keysSignsUptoRow, standIns := [], harness := (true, "648f23f45492bb9a5bed273d7bed45e8757b0739c0ceb2d9900bf594259eb8a9"), looks := false }, kinds := [], alts := [], laidByText := true, laidKinds := [.data], laidTests := true, laidLooks := .later }
def KeysSignsUptoCardSaid : Prop := Claim7.holds Tryd.pinned (.plain (OpenSpec.upto keysSignsSpec)) keysSignsUptoCard

/-- THE SECOND FORM's CARD OF 'seedcornlaw06.KeysCheck'. -/
def keysCheckUptoCard : Claim7 := { stood := { row := keysCheckUptoRow, standIns := [], harness := (true, "648f23f45492bb9a5bed273d7bed45e8757b0739c0ceb2d9900bf594259eb8a9"), looks := false }, kinds := [], alts := [], laidByText := true, laidKinds := [.data], laidTests := true, laidLooks := .later }
def KeysCheckUptoCardSaid : Prop := Claim7.holds Tryd.pinned (.plain (OpenSpec.upto keysCheckSpec)) keysCheckUptoCard

/-- THE SECOND FORM's CARD OF 'seedcornlaw06.KeysClash'. -/
def keysClashUptoCard : Claim7 := { stood := { row := keysClashUptoRow, standIns := [], harness := (true, "648f23f45492bb9a5bed273d7bed45e8757b0739c0ceb2d9900bf594259eb8a9"), looks := false }, kinds := [], alts := [], laidByText := true, laidKinds := [.data], laidTests := true, laidLooks := .later }
def KeysClashUptoCardSaid : Prop := Claim7.holds Tryd.pinned (.plain (OpenSpec.upto keysClashSpec)) keysClashUptoCard

/-- THE SECOND FORM's CARD OF 'seedcornlaw06.KeysPlaces'. -/
def keysPlacesUptoCard : Claim7 := { stood := { row := keysPlacesUptoRow, standIns := [], harness := (true, "648f23f45492bb9a5bed273d7bed45e8757b0739c0ceb2d9900bf594259eb8a9"), looks := false }, kinds := [], alts := [], laidByText := true, laidKinds := [.data], laidTests := true, laidLooks := .later }
def KeysPlacesUptoCardSaid : Prop := Claim7.holds Tryd.pinned (.plain (OpenSpec.upto keysPlacesSpec)) keysPlacesUptoCard

/-- THE SECOND FORM's CARD OF 'seedcornlaw06.KeysPublic'. -/
def keysPublicUptoCard : Claim7 := { stood := { row := keysPublicUptoRow, standIns := [], harness := (true, "648f23f45492bb9a5bed273d7bed45e8757b0739c0ceb2d9900bf594259eb8a9"), looks := false }, kinds := [], alts := [], laidByText := true, laidKinds := [.data], laidTests := true, laidLooks := .later }
def KeysPublicUptoCardSaid : Prop := Claim7.holds Tryd.pinned (.plain (OpenSpec.upto keysPublicSpec)) keysPublicUptoCard

/-- THE SECOND FORM's CARD OF 'seedcornlaw06.KeysUses'. -/
def keysUsesUptoCard : Claim7 := { stood := { row := keysUsesUptoRow, standIns := [], harness := (true, "648f23f45492bb9a5bed273d7bed45e8757b0739c0ceb2d9900bf594259eb8a9"), looks := false }, kinds := [], alts := [], laidByText := true, laidKinds := [.data], laidTests := true, laidLooks := .later }
def KeysUsesUptoCardSaid : Prop := Claim7.holds Tryd.pinned (.plain (OpenSpec.upto keysUsesSpec)) keysUsesUptoCard

/-- THE SECOND FORM's CARD OF 'seedcornlaw06.KeysRow'. -/
def keysRowUptoCard : Claim7 := { stood := { row := keysRowUptoRow, standIns := [], harness := (true, "648f23f45492bb9a5bed273d7bed45e8757b0739c0ceb2d9900bf594259eb8a9"), looks := false }, kinds := [], alts := [], laidByText := true, laidKinds := [.data], laidTests := true, laidLooks := .later }
def KeysRowUptoCardSaid : Prop := Claim7.holds Tryd.pinned (.plain (OpenSpec.upto keysRowSpec)) keysRowUptoCard

/-- THE SECOND FORM's CARD OF 'seedcornlaw44.LinkShown'. -/
def linkShownUptoCard : Claim7 := { stood := { row := linkShownUptoRow, standIns := [], harness := (true, "648f23f45492bb9a5bed273d7bed45e8757b0739c0ceb2d9900bf594259eb8a9"), looks := false }, kinds := [], alts := [], laidByText := true, laidKinds := [.data], laidTests := true, laidLooks := .later }
def LinkShownUptoCardSaid : Prop := Claim7.holds Tryd.pinned (.plain (OpenSpec.upto linkShownSpec)) linkShownUptoCard

/-- THE SECOND FORM's CARD OF 'seedcornlaw44.LinkAmong'. -/
def linkAmongUptoCard : Claim7 := { stood := { row := linkAmongUptoRow, standIns := [], harness := (true, "648f23f45492bb9a5bed273d7bed45e8757b0739c0ceb2d9900bf594259eb8a9"), looks := false }, kinds := [], alts := [], laidByText := true, laidKinds := [.data], laidTests := true, laidLooks := .later }
def LinkAmongUptoCardSaid : Prop := Claim7.holds Tryd.pinned (.plain (OpenSpec.upto linkAmongSpec)) linkAmongUptoCard
end Rows
end Go.Proofs.YtjbklilnhemhmaaDoor
