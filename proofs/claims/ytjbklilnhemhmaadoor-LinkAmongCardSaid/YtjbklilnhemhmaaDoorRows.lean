/-
  NARROWER THAN 'FOR EVERY INPUT', by the rows' own cells (each row's printed sentence says how): SystemOn: laid · MerkleOther: laid · LinkOf: laid · LinkTwice: laid · LinkOthers: laid · KeysSigns: laid · KeysCheck: laid · KeysClash: laid · KeysPlaces: laid · KeysPublic: laid · KeysUses: laid · KeysRow: laid · LinkShown: laid · LinkAmong: laid.
  DERIVED. THE GIVEN ROWS OF THIS SEAT. 14 by the template 'for every input the law returns true; each argument reads behind the call as it read before'; 0 by the template 'total and deterministic' (their statements: YtjbklilnhemhmaaDoorTotals.lean).
  GIVEN WITH THE SEED: the statements are not yours to turn. If you find one false, say at which input.
  Laid BY PROGRAM, IN A SANDBOX (cutbox-rows.mjs): the forced cells as the released guide's own fill.sh prints them over the translation 41cbae4942bb2161… (all of the seat's roots in one cut). By AI agents, Wed Nov 11 2026. No macro, syntax, notation, axiom, sorry.
-/
import Derived.Test.YtjbklilnhemhmaaDoorChecked
import GoSem.Claim
import GoSem.ClaimJoined
import GoSem.ClaimMapViews
import Derived.JoinedTies
import Derived.KernelRfl
namespace Go.Proofs.YtjbklilnhemhmaaDoor
/- THE CELL 'sum', in the pinned program and in every row, IS THE sha256 OF THE DUMP (.gsa) THAT YtjbklilnhemhmaaDoorProg.lean LOADS. Nothing in Lean hashes anything: it is a label: what it is worth is what the hold of that sum in a sandbox is worth. -/
noncomputable def Tryd.pinned : Pinned := { name := "ytjbklilnhemhmaadoor", sum := "41cbae4942bb216165cc92f6e5b14687805b71ebd72383414a89f050ad435809", checked := Tryd.checked }
namespace Rows
def none {H : Type} : Left H := { results := [], args := [] }

/- WHAT THE LISTED PACKAGE-LEVEL VARIABLES READ AS WHEN THE CALL BEGINS. Each datum BY PROGRAM (the guide's laid-datum.mjs) off the statement by which the dump's own 'gosem.cut.vars' lays the variable. In a bare row this is a premise. The card (YtjbklilnhemhmaaDoorCards.lean) ties it to the program's text. -/
def laid_seedcorn_digest_places {H : Type} : DataW H := .agg [.lit (.int .i64 7), .lit (.int .i64 9), .lit (.int .i64 13), .lit (.int .i64 18)]

/-- 'seedcorntop.SystemOn': WHATEVER THE INPUT: true; the input reads as it did. -/
def systemOnSpec : ChangeSpec := { name := "systemOn", fn := fun _ => fun
  | [d1, d2, d3] => { results := [.lit (.bool true)], args := [d1, d2, d3] }
  | _ => none }
def systemOnRow : OpenClaim := { program := "ytjbklilnhemhmaadoor", sum := "41cbae4942bb216165cc92f6e5b14687805b71ebd72383414a89f050ad435809", func := "seedcorn/seedcorntop.SystemOn", spec := "systemOn", unfollowed := true, recurses := true, named := ["seedcorn/digest.places"], apart := false, laid := [("seedcorn/digest.places", laid_seedcorn_digest_places)] }
def SystemOnSaid : Prop := systemOnRow.holds Tryd.pinned (OpenSpec.ofChange systemOnSpec)

/-- ITS FALSE NEIGHBOUR: 'it returns false'. Refute it at one input. -/
def systemOnWrong : ChangeSpec := { name := "systemOn", fn := fun _ => fun
  | [d1, d2, d3] => { results := [.lit (.bool false)], args := [d1, d2, d3] }
  | _ => none }
def SystemOnWrongFalsely : Prop := systemOnRow.holds Tryd.pinned (OpenSpec.ofChange systemOnWrong)

/-- 'seedcornlaw04.MerkleOther': WHATEVER THE INPUT: true; the input reads as it did. -/
def merkleOtherSpec : ChangeSpec := { name := "merkleOther", fn := fun _ => fun
  | [d1, d2, d3] => { results := [.lit (.bool true)], args := [d1, d2, d3] }
  | _ => none }
def merkleOtherRow : OpenClaim := { program := "ytjbklilnhemhmaadoor", sum := "41cbae4942bb216165cc92f6e5b14687805b71ebd72383414a89f050ad435809", func := "seedcorn/seedcornlaw04.MerkleOther", spec := "merkleOther", recurses := true, named := ["seedcorn/digest.places"], apart := false, laid := [("seedcorn/digest.places", laid_seedcorn_digest_places)] }
def MerkleOtherSaid : Prop := merkleOtherRow.holds Tryd.pinned (OpenSpec.ofChange merkleOtherSpec)

/-- ITS FALSE NEIGHBOUR: 'it returns false'. Refute it at one input. -/
def merkleOtherWrong : ChangeSpec := { name := "merkleOther", fn := fun _ => fun
  | [d1, d2, d3] => { results := [.lit (.bool false)], args := [d1, d2, d3] }
  | _ => none }
def MerkleOtherWrongFalsely : Prop := merkleOtherRow.holds Tryd.pinned (OpenSpec.ofChange merkleOtherWrong)

/-- 'seedcornlaw44.LinkOf': WHATEVER THE INPUT: true; the input reads as it did. -/
def linkOfSpec : ChangeSpec := { name := "linkOf", fn := fun _ => fun
  | [d1, d2] => { results := [.lit (.bool true)], args := [d1, d2] }
  | _ => none }
def linkOfRow : OpenClaim := { program := "ytjbklilnhemhmaadoor", sum := "41cbae4942bb216165cc92f6e5b14687805b71ebd72383414a89f050ad435809", func := "seedcorn/seedcornlaw44.LinkOf", spec := "linkOf", unfollowed := true, recurses := true, named := ["seedcorn/digest.places"], apart := false, laid := [("seedcorn/digest.places", laid_seedcorn_digest_places)] }
def LinkOfSaid : Prop := linkOfRow.holds Tryd.pinned (OpenSpec.ofChange linkOfSpec)

/-- ITS FALSE NEIGHBOUR: 'it returns false'. Refute it at one input. -/
def linkOfWrong : ChangeSpec := { name := "linkOf", fn := fun _ => fun
  | [d1, d2] => { results := [.lit (.bool false)], args := [d1, d2] }
  | _ => none }
def LinkOfWrongFalsely : Prop := linkOfRow.holds Tryd.pinned (OpenSpec.ofChange linkOfWrong)

/-- 'seedcornlaw44.LinkTwice': WHATEVER THE INPUT: true; the input reads as it did. -/
def linkTwiceSpec : ChangeSpec := { name := "linkTwice", fn := fun _ => fun
  | [d] => { results := [.lit (.bool true)], args := [d] }
  | _ => none }
def linkTwiceRow : OpenClaim := { program := "ytjbklilnhemhmaadoor", sum := "41cbae4942bb216165cc92f6e5b14687805b71ebd72383414a89f050ad435809", func := "seedcorn/seedcornlaw44.LinkTwice", spec := "linkTwice", unfollowed := true, recurses := true, named := ["seedcorn/digest.places"], apart := false, laid := [("seedcorn/digest.places", laid_seedcorn_digest_places)] }
def LinkTwiceSaid : Prop := linkTwiceRow.holds Tryd.pinned (OpenSpec.ofChange linkTwiceSpec)

/-- ITS FALSE NEIGHBOUR: 'it returns false'. Refute it at one input. -/
def linkTwiceWrong : ChangeSpec := { name := "linkTwice", fn := fun _ => fun
  | [d] => { results := [.lit (.bool false)], args := [d] }
  | _ => none }
def LinkTwiceWrongFalsely : Prop := linkTwiceRow.holds Tryd.pinned (OpenSpec.ofChange linkTwiceWrong)

/-- 'seedcornlaw44.LinkOthers': WHATEVER THE INPUT: true; the input reads as it did. -/
def linkOthersSpec : ChangeSpec := { name := "linkOthers", fn := fun _ => fun
  | [d1, d2, d3] => { results := [.lit (.bool true)], args := [d1, d2, d3] }
  | _ => none }
def linkOthersRow : OpenClaim := { program := "ytjbklilnhemhmaadoor", sum := "41cbae4942bb216165cc92f6e5b14687805b71ebd72383414a89f050ad435809", func := "seedcorn/seedcornlaw44.LinkOthers", spec := "linkOthers", unfollowed := true, recurses := true, named := ["seedcorn/digest.places"], apart := false, laid := [("seedcorn/digest.places", laid_seedcorn_digest_places)] }
def LinkOthersSaid : Prop := linkOthersRow.holds Tryd.pinned (OpenSpec.ofChange linkOthersSpec)

/-- ITS FALSE NEIGHBOUR: 'it returns false'. Refute it at one input. -/
def linkOthersWrong : ChangeSpec := { name := "linkOthers", fn := fun _ => fun
  | [d1, d2, d3] => { results := [.lit (.bool false)], args := [d1, d2, d3] }
  | _ => none }
def LinkOthersWrongFalsely : Prop := linkOthersRow.holds Tryd.pinned (OpenSpec.ofChange linkOthersWrong)

/-- 'seedcornlaw06.KeysSigns': WHATEVER THE INPUT: true; the input reads as it did. -/
def keysSignsSpec : ChangeSpec := { name := "keysSigns", fn := fun _ => fun
  | [d1, d2, d3] => { results := [.lit (.bool true)], args := [d1, d2, d3] }
  | _ => none }
def keysSignsRow : OpenClaim := { program := "ytjbklilnhemhmaadoor", sum := "41cbae4942bb216165cc92f6e5b14687805b71ebd72383414a89f050ad435809", func := "seedcorn/seedcornlaw06.KeysSigns", spec := "keysSigns", unfollowed := true, recurses := true, named := ["seedcorn/digest.places"], apart := false, laid := [("seedcorn/digest.places", laid_seedcorn_digest_places)] }
def KeysSignsSaid : Prop := keysSignsRow.holds Tryd.pinned (OpenSpec.ofChange keysSignsSpec)

/-- ITS FALSE NEIGHBOUR: 'it returns false'. Refute it at one input. -/
def keysSignsWrong : ChangeSpec := { name := "keysSigns", fn := fun _ => fun
  | [d1, d2, d3] => { results := [.lit (.bool false)], args := [d1, d2, d3] }
  | _ => none }
def KeysSignsWrongFalsely : Prop := keysSignsRow.holds Tryd.pinned (OpenSpec.ofChange keysSignsWrong)

/-- 'seedcornlaw06.KeysCheck': WHATEVER THE INPUT: true; the input reads as it did. -/
def keysCheckSpec : ChangeSpec := { name := "keysCheck", fn := fun _ => fun
  | [d1, d2, d3] => { results := [.lit (.bool true)], args := [d1, d2, d3] }
  | _ => none }
def keysCheckRow : OpenClaim := { program := "ytjbklilnhemhmaadoor", sum := "41cbae4942bb216165cc92f6e5b14687805b71ebd72383414a89f050ad435809", func := "seedcorn/seedcornlaw06.KeysCheck", spec := "keysCheck", unfollowed := true, recurses := true, named := ["seedcorn/digest.places"], apart := false, laid := [("seedcorn/digest.places", laid_seedcorn_digest_places)] }
def KeysCheckSaid : Prop := keysCheckRow.holds Tryd.pinned (OpenSpec.ofChange keysCheckSpec)

/-- ITS FALSE NEIGHBOUR: 'it returns false'. Refute it at one input. -/
def keysCheckWrong : ChangeSpec := { name := "keysCheck", fn := fun _ => fun
  | [d1, d2, d3] => { results := [.lit (.bool false)], args := [d1, d2, d3] }
  | _ => none }
def KeysCheckWrongFalsely : Prop := keysCheckRow.holds Tryd.pinned (OpenSpec.ofChange keysCheckWrong)

/-- 'seedcornlaw06.KeysClash': WHATEVER THE INPUT: true; the input reads as it did. -/
def keysClashSpec : ChangeSpec := { name := "keysClash", fn := fun _ => fun
  | [d] => { results := [.lit (.bool true)], args := [d] }
  | _ => none }
def keysClashRow : OpenClaim := { program := "ytjbklilnhemhmaadoor", sum := "41cbae4942bb216165cc92f6e5b14687805b71ebd72383414a89f050ad435809", func := "seedcorn/seedcornlaw06.KeysClash", spec := "keysClash", unfollowed := true, recurses := true, named := ["seedcorn/digest.places"], apart := false, laid := [("seedcorn/digest.places", laid_seedcorn_digest_places)] }
def KeysClashSaid : Prop := keysClashRow.holds Tryd.pinned (OpenSpec.ofChange keysClashSpec)

/-- ITS FALSE NEIGHBOUR: 'it returns false'. Refute it at one input. -/
def keysClashWrong : ChangeSpec := { name := "keysClash", fn := fun _ => fun
  | [d] => { results := [.lit (.bool false)], args := [d] }
  | _ => none }
def KeysClashWrongFalsely : Prop := keysClashRow.holds Tryd.pinned (OpenSpec.ofChange keysClashWrong)

/-- 'seedcornlaw06.KeysPlaces': WHATEVER THE INPUT: true; the input reads as it did. -/
def keysPlacesSpec : ChangeSpec := { name := "keysPlaces", fn := fun _ => fun
  | [d1, d2, d3] => { results := [.lit (.bool true)], args := [d1, d2, d3] }
  | _ => none }
def keysPlacesRow : OpenClaim := { program := "ytjbklilnhemhmaadoor", sum := "41cbae4942bb216165cc92f6e5b14687805b71ebd72383414a89f050ad435809", func := "seedcorn/seedcornlaw06.KeysPlaces", spec := "keysPlaces", unfollowed := true, recurses := true, named := ["seedcorn/digest.places"], apart := false, laid := [("seedcorn/digest.places", laid_seedcorn_digest_places)] }
def KeysPlacesSaid : Prop := keysPlacesRow.holds Tryd.pinned (OpenSpec.ofChange keysPlacesSpec)

/-- ITS FALSE NEIGHBOUR: 'it returns false'. Refute it at one input. -/
def keysPlacesWrong : ChangeSpec := { name := "keysPlaces", fn := fun _ => fun
  | [d1, d2, d3] => { results := [.lit (.bool false)], args := [d1, d2, d3] }
  | _ => none }
def KeysPlacesWrongFalsely : Prop := keysPlacesRow.holds Tryd.pinned (OpenSpec.ofChange keysPlacesWrong)

/-- 'seedcornlaw06.KeysPublic': WHATEVER THE INPUT: true; the input reads as it did. -/
def keysPublicSpec : ChangeSpec := { name := "keysPublic", fn := fun _ => fun
  | [d1, d2] => { results := [.lit (.bool true)], args := [d1, d2] }
  | _ => none }
def keysPublicRow : OpenClaim := { program := "ytjbklilnhemhmaadoor", sum := "41cbae4942bb216165cc92f6e5b14687805b71ebd72383414a89f050ad435809", func := "seedcorn/seedcornlaw06.KeysPublic", spec := "keysPublic", unfollowed := true, recurses := true, named := ["seedcorn/digest.places"], apart := false, laid := [("seedcorn/digest.places", laid_seedcorn_digest_places)] }
def KeysPublicSaid : Prop := keysPublicRow.holds Tryd.pinned (OpenSpec.ofChange keysPublicSpec)

/-- ITS FALSE NEIGHBOUR: 'it returns false'. Refute it at one input. -/
def keysPublicWrong : ChangeSpec := { name := "keysPublic", fn := fun _ => fun
  | [d1, d2] => { results := [.lit (.bool false)], args := [d1, d2] }
  | _ => none }
def KeysPublicWrongFalsely : Prop := keysPublicRow.holds Tryd.pinned (OpenSpec.ofChange keysPublicWrong)

/-- 'seedcornlaw06.KeysUses': WHATEVER THE INPUT: true; the input reads as it did. -/
def keysUsesSpec : ChangeSpec := { name := "keysUses", fn := fun _ => fun
  | [d1, d2] => { results := [.lit (.bool true)], args := [d1, d2] }
  | _ => none }
def keysUsesRow : OpenClaim := { program := "ytjbklilnhemhmaadoor", sum := "41cbae4942bb216165cc92f6e5b14687805b71ebd72383414a89f050ad435809", func := "seedcorn/seedcornlaw06.KeysUses", spec := "keysUses", unfollowed := true, recurses := true, named := ["seedcorn/digest.places"], apart := false, laid := [("seedcorn/digest.places", laid_seedcorn_digest_places)] }
def KeysUsesSaid : Prop := keysUsesRow.holds Tryd.pinned (OpenSpec.ofChange keysUsesSpec)

/-- ITS FALSE NEIGHBOUR: 'it returns false'. Refute it at one input. -/
def keysUsesWrong : ChangeSpec := { name := "keysUses", fn := fun _ => fun
  | [d1, d2] => { results := [.lit (.bool false)], args := [d1, d2] }
  | _ => none }
def KeysUsesWrongFalsely : Prop := keysUsesRow.holds Tryd.pinned (OpenSpec.ofChange keysUsesWrong)

/-- 'seedcornlaw06.KeysRow': WHATEVER THE INPUT: true; the input reads as it did. -/
def keysRowSpec : ChangeSpec := { name := "keysRow", fn := fun _ => fun
  | [d1, d2, d3] => { results := [.lit (.bool true)], args := [d1, d2, d3] }
  | _ => none }
def keysRowRow : OpenClaim := { program := "ytjbklilnhemhmaadoor", sum := "41cbae4942bb216165cc92f6e5b14687805b71ebd72383414a89f050ad435809", func := "seedcorn/seedcornlaw06.KeysRow", spec := "keysRow", unfollowed := true, recurses := true, named := ["seedcorn/digest.places"], apart := false, laid := [("seedcorn/digest.places", laid_seedcorn_digest_places)] }
def KeysRowSaid : Prop := keysRowRow.holds Tryd.pinned (OpenSpec.ofChange keysRowSpec)

/-- ITS FALSE NEIGHBOUR: 'it returns false'. Refute it at one input. -/
def keysRowWrong : ChangeSpec := { name := "keysRow", fn := fun _ => fun
  | [d1, d2, d3] => { results := [.lit (.bool false)], args := [d1, d2, d3] }
  | _ => none }
def KeysRowWrongFalsely : Prop := keysRowRow.holds Tryd.pinned (OpenSpec.ofChange keysRowWrong)

/-- 'seedcornlaw44.LinkShown': WHATEVER THE INPUT: true; the input reads as it did. -/
def linkShownSpec : ChangeSpec := { name := "linkShown", fn := fun _ => fun
  | [d1, d2, d3] => { results := [.lit (.bool true)], args := [d1, d2, d3] }
  | _ => none }
def linkShownRow : OpenClaim := { program := "ytjbklilnhemhmaadoor", sum := "41cbae4942bb216165cc92f6e5b14687805b71ebd72383414a89f050ad435809", func := "seedcorn/seedcornlaw44.LinkShown", spec := "linkShown", unfollowed := true, recurses := true, named := ["seedcorn/digest.places"], apart := false, laid := [("seedcorn/digest.places", laid_seedcorn_digest_places)] }
def LinkShownSaid : Prop := linkShownRow.holds Tryd.pinned (OpenSpec.ofChange linkShownSpec)

/-- ITS FALSE NEIGHBOUR: 'it returns false'. Refute it at one input. -/
def linkShownWrong : ChangeSpec := { name := "linkShown", fn := fun _ => fun
  | [d1, d2, d3] => { results := [.lit (.bool false)], args := [d1, d2, d3] }
  | _ => none }
def LinkShownWrongFalsely : Prop := linkShownRow.holds Tryd.pinned (OpenSpec.ofChange linkShownWrong)

/-- 'seedcornlaw44.LinkAmong': WHATEVER THE INPUT: true; the input reads as it did. -/
def linkAmongSpec : ChangeSpec := { name := "linkAmong", fn := fun _ => fun
  | [d1, d2] => { results := [.lit (.bool true)], args := [d1, d2] }
  | _ => none }
def linkAmongRow : OpenClaim := { program := "ytjbklilnhemhmaadoor", sum := "41cbae4942bb216165cc92f6e5b14687805b71ebd72383414a89f050ad435809", func := "seedcorn/seedcornlaw44.LinkAmong", spec := "linkAmong", unfollowed := true, recurses := true, named := ["seedcorn/digest.places"], apart := false, laid := [("seedcorn/digest.places", laid_seedcorn_digest_places)] }
def LinkAmongSaid : Prop := linkAmongRow.holds Tryd.pinned (OpenSpec.ofChange linkAmongSpec)

/-- ITS FALSE NEIGHBOUR: 'it returns false'. Refute it at one input. -/
def linkAmongWrong : ChangeSpec := { name := "linkAmong", fn := fun _ => fun
  | [d1, d2] => { results := [.lit (.bool false)], args := [d1, d2] }
  | _ => none }
def LinkAmongWrongFalsely : Prop := linkAmongRow.holds Tryd.pinned (OpenSpec.ofChange linkAmongWrong)

/- THE SECOND FORM. 'bulk': how many values and letters a reading holds, each counted each time it is reached (what is shared counts as often as it is met; a slice's spare places count too). A statement '..UptoSaid' is the law's where the arguments, and the package variables that the reading takes, are together of bulk at most 1048576: NARROWER than '..Said'. Prove '..Said' where nothing that the law and all that it calls make is longer than what came in: it says more and counts as full. Else prove '..UptoSaid'. A law counts once. -/
mutual
def uptoBulk {H : Type} : DataW H → Nat
  | .lit (.string bytes) => bytes.length + 1
  | .lit _ => 1
  | .nil => 1
  | .ptr d => uptoBulk d + 1
  | .slice elems spare => uptoBulkAll elems + uptoBulkAll spare + 1
  | .agg parts => uptoBulkAll parts + 1
  | .iface _ d => uptoBulk d + 1
  | .map entries => uptoBulkEntries entries + 1
  | .held _ => 1
def uptoBulkAll {H : Type} : List (DataW H) → Nat
  | [] => 0
  | d :: r => uptoBulk d + uptoBulkAll r
def uptoBulkEntries {H : Type} : List (Lit × DataW H) → Nat
  | [] => 0
  | x :: r => uptoBulkEntry x + uptoBulkEntries r
def uptoBulkEntry {H : Type} : Lit × DataW H → Nat
  | (.string bytes, d) => bytes.length + uptoBulk d + 1
  | (_, d) => uptoBulk d + 1
 end
def uptoSmall : (H : Type) → List (DataW H) → Bool := fun _ ds => decide (uptoBulkAll ds ≤ 1048576)
def OpenSpec.upto (s : _root_.Go.ChangeSpec) : _root_.Go.OpenSpec := { _root_.Go.OpenSpec.ofChange s with cond := some uptoSmall }

/-- 'seedcorntop.SystemOn', WHERE WHAT IT READS IS OF BULK AT MOST 1048576: true; the input reads as it did. -/
def systemOnUptoRow : OpenClaim := { program := "ytjbklilnhemhmaadoor", sum := "41cbae4942bb216165cc92f6e5b14687805b71ebd72383414a89f050ad435809", func := "seedcorn/seedcorntop.SystemOn", spec := "systemOn", unfollowed := true, recurses := true, named := ["seedcorn/digest.places"], apart := false, laid := [("seedcorn/digest.places", laid_seedcorn_digest_places)], narrowed := true }
def SystemOnUptoSaid : Prop := systemOnUptoRow.holds Tryd.pinned (OpenSpec.upto systemOnSpec)

/-- 'seedcornlaw04.MerkleOther', WHERE WHAT IT READS IS OF BULK AT MOST 1048576: true; the input reads as it did. -/
def merkleOtherUptoRow : OpenClaim := { program := "ytjbklilnhemhmaadoor", sum := "41cbae4942bb216165cc92f6e5b14687805b71ebd72383414a89f050ad435809", func := "seedcorn/seedcornlaw04.MerkleOther", spec := "merkleOther", recurses := true, named := ["seedcorn/digest.places"], apart := false, laid := [("seedcorn/digest.places", laid_seedcorn_digest_places)], narrowed := true }
def MerkleOtherUptoSaid : Prop := merkleOtherUptoRow.holds Tryd.pinned (OpenSpec.upto merkleOtherSpec)

/-- 'seedcornlaw44.LinkOf', WHERE WHAT IT READS IS OF BULK AT MOST 1048576: true; the input reads as it did. -/
def linkOfUptoRow : OpenClaim := { program := "ytjbklilnhemhmaadoor", sum := "41cbae4942bb216165cc92f6e5b14687805b71ebd72383414a89f050ad435809", func := "seedcorn/seedcornlaw44.LinkOf", spec := "linkOf", unfollowed := true, recurses := true, named := ["seedcorn/digest.places"], apart := false, laid := [("seedcorn/digest.places", laid_seedcorn_digest_places)], narrowed := true }
def LinkOfUptoSaid : Prop := linkOfUptoRow.holds Tryd.pinned (OpenSpec.upto linkOfSpec)

/-- 'seedcornlaw44.LinkTwice', WHERE WHAT IT READS IS OF BULK AT MOST 1048576: true; the input reads as it did. -/
def linkTwiceUptoRow : OpenClaim := { program := "ytjbklilnhemhmaadoor", sum := "41cbae4942bb216165cc92f6e5b14687805b71ebd72383414a89f050ad435809", func := "seedcorn/seedcornlaw44.LinkTwice", spec := "linkTwice", unfollowed := true, recurses := true, named := ["seedcorn/digest.places"], apart := false, laid := [("seedcorn/digest.places", laid_seedcorn_digest_places)], narrowed := true }
def LinkTwiceUptoSaid : Prop := linkTwiceUptoRow.holds Tryd.pinned (OpenSpec.upto linkTwiceSpec)

/-- 'seedcornlaw44.LinkOthers', WHERE WHAT IT READS IS OF BULK AT MOST 1048576: true; the input reads as it did. -/
def linkOthersUptoRow : OpenClaim := { program := "ytjbklilnhemhmaadoor", sum := "41cbae4942bb216165cc92f6e5b14687805b71ebd72383414a89f050ad435809", func := "seedcorn/seedcornlaw44.LinkOthers", spec := "linkOthers", unfollowed := true, recurses := true, named := ["seedcorn/digest.places"], apart := false, laid := [("seedcorn/digest.places", laid_seedcorn_digest_places)], narrowed := true }
def LinkOthersUptoSaid : Prop := linkOthersUptoRow.holds Tryd.pinned (OpenSpec.upto linkOthersSpec)

/-- 'seedcornlaw06.KeysSigns', WHERE WHAT IT READS IS OF BULK AT MOST 1048576: true; the input reads as it did. -/
def keysSignsUptoRow : OpenClaim := { program := "ytjbklilnhemhmaadoor", sum := "41cbae4942bb216165cc92f6e5b14687805b71ebd72383414a89f050ad435809", func := "seedcorn/seedcornlaw06.KeysSigns", spec := "keysSigns", unfollowed := true, recurses := true, named := ["seedcorn/digest.places"], apart := false, laid := [("seedcorn/digest.places", laid_seedcorn_digest_places)], narrowed := true }
def KeysSignsUptoSaid : Prop := keysSignsUptoRow.holds Tryd.pinned (OpenSpec.upto keysSignsSpec)

/-- 'seedcornlaw06.KeysCheck', WHERE WHAT IT READS IS OF BULK AT MOST 1048576: true; the input reads as it did. -/
def keysCheckUptoRow : OpenClaim := { program := "ytjbklilnhemhmaadoor", sum := "41cbae4942bb216165cc92f6e5b14687805b71ebd72383414a89f050ad435809", func := "seedcorn/seedcornlaw06.KeysCheck", spec := "keysCheck", unfollowed := true, recurses := true, named := ["seedcorn/digest.places"], apart := false, laid := [("seedcorn/digest.places", laid_seedcorn_digest_places)], narrowed := true }
def KeysCheckUptoSaid : Prop := keysCheckUptoRow.holds Tryd.pinned (OpenSpec.upto keysCheckSpec)

/-- 'seedcornlaw06.KeysClash', WHERE WHAT IT READS IS OF BULK AT MOST 1048576: true; the input reads as it did. -/
def keysClashUptoRow : OpenClaim := { program := "ytjbklilnhemhmaadoor", sum := "41cbae4942bb216165cc92f6e5b14687805b71ebd72383414a89f050ad435809", func := "seedcorn/seedcornlaw06.KeysClash", spec := "keysClash", unfollowed := true, recurses := true, named := ["seedcorn/digest.places"], apart := false, laid := [("seedcorn/digest.places", laid_seedcorn_digest_places)], narrowed := true }
def KeysClashUptoSaid : Prop := keysClashUptoRow.holds Tryd.pinned (OpenSpec.upto keysClashSpec)

/-- 'seedcornlaw06.KeysPlaces', WHERE WHAT IT READS IS OF BULK AT MOST 1048576: true; the input reads as it did. -/
def keysPlacesUptoRow : OpenClaim := { program := "ytjbklilnhemhmaadoor", sum := "41cbae4942bb216165cc92f6e5b14687805b71ebd72383414a89f050ad435809", func := "seedcorn/seedcornlaw06.KeysPlaces", spec := "keysPlaces", unfollowed := true, recurses := true, named := ["seedcorn/digest.places"], apart := false, laid := [("seedcorn/digest.places", laid_seedcorn_digest_places)], narrowed := true }
def KeysPlacesUptoSaid : Prop := keysPlacesUptoRow.holds Tryd.pinned (OpenSpec.upto keysPlacesSpec)

/-- 'seedcornlaw06.KeysPublic', WHERE WHAT IT READS IS OF BULK AT MOST 1048576: true; the input reads as it did. -/
def keysPublicUptoRow : OpenClaim := { program := "ytjbklilnhemhmaadoor", sum := "41cbae4942bb216165cc92f6e5b14687805b71ebd72383414a89f050ad435809", func := "seedcorn/seedcornlaw06.KeysPublic", spec := "keysPublic", unfollowed := true, recurses := true, named := ["seedcorn/digest.places"], apart := false, laid := [("seedcorn/digest.places", laid_seedcorn_digest_places)], narrowed := true }
def KeysPublicUptoSaid : Prop := keysPublicUptoRow.holds Tryd.pinned (OpenSpec.upto keysPublicSpec)

/-- 'seedcornlaw06.KeysUses', WHERE WHAT IT READS IS OF BULK AT MOST 1048576: true; the input reads as it did. -/
def keysUsesUptoRow : OpenClaim := { program := "ytjbklilnhemhmaadoor", sum := "41cbae4942bb216165cc92f6e5b14687805b71ebd72383414a89f050ad435809", func := "seedcorn/seedcornlaw06.KeysUses", spec := "keysUses", unfollowed := true, recurses := true, named := ["seedcorn/digest.places"], apart := false, laid := [("seedcorn/digest.places", laid_seedcorn_digest_places)], narrowed := true }
def KeysUsesUptoSaid : Prop := keysUsesUptoRow.holds Tryd.pinned (OpenSpec.upto keysUsesSpec)

/-- 'seedcornlaw06.KeysRow', WHERE WHAT IT READS IS OF BULK AT MOST 1048576: true; the input reads as it did. -/
def keysRowUptoRow : OpenClaim := { program := "ytjbklilnhemhmaadoor", sum := "41cbae4942bb216165cc92f6e5b14687805b71ebd72383414a89f050ad435809", func := "seedcorn/seedcornlaw06.KeysRow", spec := "keysRow", unfollowed := true, recurses := true, named := ["seedcorn/digest.places"], apart := false, laid := [("seedcorn/digest.places", laid_seedcorn_digest_places)], narrowed := true }
def KeysRowUptoSaid : Prop := keysRowUptoRow.holds Tryd.pinned (OpenSpec.upto keysRowSpec)

/-- 'seedcornlaw44.LinkShown', WHERE WHAT IT READS IS OF BULK AT MOST 1048576: true; the input reads as it did. -/
def linkShownUptoRow : OpenClaim := { program := "ytjbklilnhemhmaadoor", sum := "41cbae4942bb216165cc92f6e5b14687805b71ebd72383414a89f050ad435809", func := "seedcorn/seedcornlaw44.LinkShown", spec := "linkShown", unfollowed := true, recurses := true, named := ["seedcorn/digest.places"], apart := false, laid := [("seedcorn/digest.places", laid_seedcorn_digest_places)], narrowed := true }
def LinkShownUptoSaid : Prop := linkShownUptoRow.holds Tryd.pinned (OpenSpec.upto linkShownSpec)

/-- 'seedcornlaw44.LinkAmong', WHERE WHAT IT READS IS OF BULK AT MOST 1048576: true; the input reads as it did. -/
def linkAmongUptoRow : OpenClaim := { program := "ytjbklilnhemhmaadoor", sum := "41cbae4942bb216165cc92f6e5b14687805b71ebd72383414a89f050ad435809", func := "seedcorn/seedcornlaw44.LinkAmong", spec := "linkAmong", unfollowed := true, recurses := true, named := ["seedcorn/digest.places"], apart := false, laid := [("seedcorn/digest.places", laid_seedcorn_digest_places)], narrowed := true }
def LinkAmongUptoSaid : Prop := linkAmongUptoRow.holds Tryd.pinned (OpenSpec.upto linkAmongSpec)

end Rows
end Go.Proofs.YtjbklilnhemhmaaDoor
