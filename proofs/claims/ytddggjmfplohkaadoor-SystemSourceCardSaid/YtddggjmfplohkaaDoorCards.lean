/-
  DERIVED. GIVEN WITH THE SEED: THE CARDS: each row of YtddggjmfplohkaaDoorRows.lean that lists a variable, with what it lists TIED to the program's text (the seventh form; the later family's looks); each row that meets fmt, with fmt's text TOLD by the authors' own Lean function (tested against real Go, not proved from fmt's source: count such statements apart). THE CARD IS WHAT COUNTS. Prove the row's statement (the work); the ties are given (YtddggjmfplohkaaDoorTie.lean); close each card by the builder's one call (the guide's Derived/Test/ToyasCard.lean, 'card_holds'). Laid BY PROGRAM, IN A SANDBOX (cutbox-door.mjs). By AI agents, Wed Nov 11 2026. No macro, syntax, notation, axiom, sorry.
-/
import Derived.Test.YtddggjmfplohkaaDoorRows
import GoSem.ClaimSeven
namespace Go.Proofs.YtddggjmfplohkaaDoor
namespace Rows

/-- THE TIED CARD OF 'seedcorntop.SystemPrinted'. -/
def systemPrintedCard : Claim7 := { stood := { row := systemPrintedRow, standIns := [], harness := (true, "15733e141b00c80f000d3d05705b132c3848f5feb71920d989bcbe9bd464f19e"), looks := true }, kinds := [], alts := [], laidByText := true, laidKinds := [.data, .data, .data, .data], laidTests := true, laidLooks := .later }
def SystemPrintedCardSaid : Prop := Claim7.holds Tryd.pinned (.plain (OpenSpec.ofChange systemPrintedSpec)) systemPrintedCard

/-- THE TIED CARD OF 'seedcorntop.SystemSource'. -/
def systemSourceCard : Claim7 := { stood := { row := systemSourceRow, standIns := [], harness := (true, "15733e141b00c80f000d3d05705b132c3848f5feb71920d989bcbe9bd464f19e"), looks := true }, kinds := [], alts := [], laidByText := true, laidKinds := [.data, .data, .data, .data, .data, .data], laidTests := true, laidLooks := .later }
def SystemSourceCardSaid : Prop := Claim7.holds Tryd.pinned (.plain (OpenSpec.ofChange systemSourceSpec)) systemSourceCard

/-- THE SECOND FORM's CARD OF 'seedcorntop.SystemPrinted'. -/
def systemPrintedUptoCard : Claim7 := { stood := { row := systemPrintedUptoRow, standIns := [], harness := (true, "15733e141b00c80f000d3d05705b132c3848f5feb71920d989bcbe9bd464f19e"), looks := true }, kinds := [], alts := [], laidByText := true, laidKinds := [.data, .data, .data, .data], laidTests := true, laidLooks := .later }
def SystemPrintedUptoCardSaid : Prop := Claim7.holds Tryd.pinned (.plain (OpenSpec.upto systemPrintedSpec)) systemPrintedUptoCard

/-- THE SECOND FORM's CARD OF 'seedcorntop.SystemSource'. -/
def systemSourceUptoCard : Claim7 := { stood := { row := systemSourceUptoRow, standIns := [], harness := (true, "15733e141b00c80f000d3d05705b132c3848f5feb71920d989bcbe9bd464f19e"), looks := true }, kinds := [], alts := [], laidByText := true, laidKinds := [.data, .data, .data, .data, .data, .data], laidTests := true, laidLooks := .later }
def SystemSourceUptoCardSaid : Prop := Claim7.holds Tryd.pinned (.plain (OpenSpec.upto systemSourceSpec)) systemSourceUptoCard
end Rows
end Go.Proofs.YtddggjmfplohkaaDoor
