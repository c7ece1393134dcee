/-
  DERIVED. GIVEN WITH THE SEED: THE CARDS: each row of YteiimkglmiadbabDoorRows.lean that lists a variable, with what it lists TIED to the program's text (the seventh form; the later family's looks); each row that meets fmt, with fmt's text TOLD by the authors' own Lean function (tested against real Go, not proved from fmt's source: count such statements apart). THE CARD IS WHAT COUNTS. Prove the row's statement (the work); the ties are given (YteiimkglmiadbabDoorTie.lean); close each card by the builder's one call (the guide's Derived/Test/ToyasCard.lean, 'card_holds'). Laid BY PROGRAM, IN A SANDBOX (cutbox-door.mjs). By AI agents, Wed Nov 11 2026. No macro, syntax, notation, axiom, sorry.
-/
import Derived.Test.YteiimkglmiadbabDoorRows
import GoSem.ClaimSeven
namespace Go.Proofs.YteiimkglmiadbabDoor
namespace Rows

/-- THE TIED CARD OF 'seedcornlaw05.OnetimeAhead'. -/
def onetimeAheadCard : Claim7 := { stood := { row := onetimeAheadRow, standIns := [], harness := (true, "ad4a9aa3bca4ec9ed59be2d856c13e758a1dea37f56e8d12a50954577b9ef933"), looks := false }, kinds := [], alts := [], laidByText := true, laidKinds := [.data], laidTests := true, laidLooks := .later }
def OnetimeAheadCardSaid : Prop := Claim7.holds Tryd.pinned (.plain (OpenSpec.ofChange onetimeAheadSpec)) onetimeAheadCard

/-- THE SECOND FORM's CARD OF 'seedcornlaw05.OnetimeAhead'. -/
def onetimeAheadUptoCard : Claim7 := { stood := { row := onetimeAheadUptoRow, standIns := [], harness := (true, "ad4a9aa3bca4ec9ed59be2d856c13e758a1dea37f56e8d12a50954577b9ef933"), looks := false }, kinds := [], alts := [], laidByText := true, laidKinds := [.data], laidTests := true, laidLooks := .later }
def OnetimeAheadUptoCardSaid : Prop := Claim7.holds Tryd.pinned (.plain (OpenSpec.upto onetimeAheadSpec)) onetimeAheadUptoCard
end Rows
end Go.Proofs.YteiimkglmiadbabDoor
