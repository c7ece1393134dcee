/-
  NARROWER THAN 'FOR EVERY INPUT', by the rows' own cells (each row's printed sentence says how): SystemCut: laid · JournalPuts: laid · JournalReads: laid · JournalCut: laid · JournalSpoilt: laid · JournalMore: laid · JournalRest: laid · JournalRecovers: laid · StoreTwice: laid · StoreSaves: laid · StoreOpens: laid.
  DERIVED. THE GIVEN ROWS OF THIS SEAT. 11 by the template 'for every input the law returns true; each argument reads behind the call as it read before'; 0 by the template 'total and deterministic' (their statements: YthmepecedjamcaaDoorTotals.lean).
  GIVEN WITH THE SEED: the statements are not yours to turn. If you find one false, say at which input.
  Laid BY PROGRAM, IN A SANDBOX (cutbox-rows.mjs): the forced cells as the released guide's own fill.sh prints them over the translation 1b2462cf9feb39d3… (all of the seat's roots in one cut). By AI agents, Wed Nov 11 2026. No macro, syntax, notation, axiom, sorry.
-/
import Derived.Test.YthmepecedjamcaaDoorChecked
import GoSem.Claim
import GoSem.ClaimJoined
import GoSem.ClaimMapViews
import Derived.JoinedTies
import Derived.KernelRfl
namespace Go.Proofs.YthmepecedjamcaaDoor
/- THE CELL 'sum', in the pinned program and in every row, IS THE sha256 OF THE DUMP (.gsa) THAT YthmepecedjamcaaDoorProg.lean LOADS. Nothing in Lean hashes anything: it is a label: what it is worth is what the hold of that sum in a sandbox is worth. -/
noncomputable def Tryd.pinned : Pinned := { name := "ythmepecedjamcaadoor", sum := "1b2462cf9feb39d3911725673b94dfe8caffc43133b97305dc222ce976c43e35", checked := Tryd.checked }
namespace Rows
def none {H : Type} : Left H := { results := [], args := [] }

/- WHAT THE LISTED PACKAGE-LEVEL VARIABLES READ AS WHEN THE CALL BEGINS. Each datum BY PROGRAM (the guide's laid-datum.mjs) off the statement by which the dump's own 'gosem.cut.vars' lays the variable. In a bare row this is a premise. The card (YthmepecedjamcaaDoorCards.lean) ties it to the program's text. -/
def laid_seedcorn_digest_places {H : Type} : DataW H := .agg [.lit (.int .i64 7), .lit (.int .i64 9), .lit (.int .i64 13), .lit (.int .i64 18)]

/-- 'seedcorntop.SystemCut': WHATEVER THE INPUT: true; the input reads as it did. -/
def systemCutSpec : ChangeSpec := { name := "systemCut", fn := fun _ => fun
  | [d1, d2] => { results := [.lit (.bool true)], args := [d1, d2] }
  | _ => none }
def systemCutRow : OpenClaim := { program := "ythmepecedjamcaadoor", sum := "1b2462cf9feb39d3911725673b94dfe8caffc43133b97305dc222ce976c43e35", func := "seedcorn/seedcorntop.SystemCut", spec := "systemCut", inPlace := ["internal/abi.NoEscape", "internal/bytealg.MakeNoZero"], unfollowed := true, recurses := true, named := ["seedcorn/digest.places"], plainKeys := false, apart := false, laid := [("seedcorn/digest.places", laid_seedcorn_digest_places)] }
def SystemCutSaid : Prop := systemCutRow.holds Tryd.pinned (OpenSpec.ofChange systemCutSpec)

/-- ITS FALSE NEIGHBOUR: 'it returns false'. Refute it at one input. -/
def systemCutWrong : ChangeSpec := { name := "systemCut", fn := fun _ => fun
  | [d1, d2] => { results := [.lit (.bool false)], args := [d1, d2] }
  | _ => none }
def SystemCutWrongFalsely : Prop := systemCutRow.holds Tryd.pinned (OpenSpec.ofChange systemCutWrong)

/-- 'seedcornlaw41.JournalPuts': WHATEVER THE INPUT: true; the input reads as it did. -/
def journalPutsSpec : ChangeSpec := { name := "journalPuts", fn := fun _ => fun
  | [d] => { results := [.lit (.bool true)], args := [d] }
  | _ => none }
def journalPutsRow : OpenClaim := { program := "ythmepecedjamcaadoor", sum := "1b2462cf9feb39d3911725673b94dfe8caffc43133b97305dc222ce976c43e35", func := "seedcorn/seedcornlaw41.JournalPuts", spec := "journalPuts", inPlace := ["internal/abi.NoEscape", "internal/bytealg.MakeNoZero"], unfollowed := true, recurses := true, named := ["seedcorn/digest.places"], plainKeys := false, apart := false, laid := [("seedcorn/digest.places", laid_seedcorn_digest_places)] }
def JournalPutsSaid : Prop := journalPutsRow.holds Tryd.pinned (OpenSpec.ofChange journalPutsSpec)

/-- ITS FALSE NEIGHBOUR: 'it returns false'. Refute it at one input. -/
def journalPutsWrong : ChangeSpec := { name := "journalPuts", fn := fun _ => fun
  | [d] => { results := [.lit (.bool false)], args := [d] }
  | _ => none }
def JournalPutsWrongFalsely : Prop := journalPutsRow.holds Tryd.pinned (OpenSpec.ofChange journalPutsWrong)

/-- 'seedcornlaw41.JournalReads': WHATEVER THE INPUT: true; the input reads as it did. -/
def journalReadsSpec : ChangeSpec := { name := "journalReads", fn := fun _ => fun
  | [d] => { results := [.lit (.bool true)], args := [d] }
  | _ => none }
def journalReadsRow : OpenClaim := { program := "ythmepecedjamcaadoor", sum := "1b2462cf9feb39d3911725673b94dfe8caffc43133b97305dc222ce976c43e35", func := "seedcorn/seedcornlaw41.JournalReads", spec := "journalReads", inPlace := ["internal/abi.NoEscape", "internal/bytealg.MakeNoZero"], unfollowed := true, recurses := true, named := ["seedcorn/digest.places"], plainKeys := false, apart := false, laid := [("seedcorn/digest.places", laid_seedcorn_digest_places)] }
def JournalReadsSaid : Prop := journalReadsRow.holds Tryd.pinned (OpenSpec.ofChange journalReadsSpec)

/-- ITS FALSE NEIGHBOUR: 'it returns false'. Refute it at one input. -/
def journalReadsWrong : ChangeSpec := { name := "journalReads", fn := fun _ => fun
  | [d] => { results := [.lit (.bool false)], args := [d] }
  | _ => none }
def JournalReadsWrongFalsely : Prop := journalReadsRow.holds Tryd.pinned (OpenSpec.ofChange journalReadsWrong)

/-- 'seedcornlaw41.JournalCut': WHATEVER THE INPUT: true; the input reads as it did. -/
def journalCutSpec : ChangeSpec := { name := "journalCut", fn := fun _ => fun
  | [d1, d2] => { results := [.lit (.bool true)], args := [d1, d2] }
  | _ => none }
def journalCutRow : OpenClaim := { program := "ythmepecedjamcaadoor", sum := "1b2462cf9feb39d3911725673b94dfe8caffc43133b97305dc222ce976c43e35", func := "seedcorn/seedcornlaw41.JournalCut", spec := "journalCut", inPlace := ["internal/abi.NoEscape", "internal/bytealg.MakeNoZero"], unfollowed := true, recurses := true, named := ["seedcorn/digest.places"], plainKeys := false, apart := false, laid := [("seedcorn/digest.places", laid_seedcorn_digest_places)] }
def JournalCutSaid : Prop := journalCutRow.holds Tryd.pinned (OpenSpec.ofChange journalCutSpec)

/-- ITS FALSE NEIGHBOUR: 'it returns false'. Refute it at one input. -/
def journalCutWrong : ChangeSpec := { name := "journalCut", fn := fun _ => fun
  | [d1, d2] => { results := [.lit (.bool false)], args := [d1, d2] }
  | _ => none }
def JournalCutWrongFalsely : Prop := journalCutRow.holds Tryd.pinned (OpenSpec.ofChange journalCutWrong)

/-- 'seedcornlaw41.JournalSpoilt': WHATEVER THE INPUT: true; the input reads as it did. -/
def journalSpoiltSpec : ChangeSpec := { name := "journalSpoilt", fn := fun _ => fun
  | [d1, d2, d3] => { results := [.lit (.bool true)], args := [d1, d2, d3] }
  | _ => none }
def journalSpoiltRow : OpenClaim := { program := "ythmepecedjamcaadoor", sum := "1b2462cf9feb39d3911725673b94dfe8caffc43133b97305dc222ce976c43e35", func := "seedcorn/seedcornlaw41.JournalSpoilt", spec := "journalSpoilt", inPlace := ["internal/abi.NoEscape", "internal/bytealg.MakeNoZero"], unfollowed := true, recurses := true, named := ["seedcorn/digest.places"], plainKeys := false, apart := false, laid := [("seedcorn/digest.places", laid_seedcorn_digest_places)] }
def JournalSpoiltSaid : Prop := journalSpoiltRow.holds Tryd.pinned (OpenSpec.ofChange journalSpoiltSpec)

/-- ITS FALSE NEIGHBOUR: 'it returns false'. Refute it at one input. -/
def journalSpoiltWrong : ChangeSpec := { name := "journalSpoilt", fn := fun _ => fun
  | [d1, d2, d3] => { results := [.lit (.bool false)], args := [d1, d2, d3] }
  | _ => none }
def JournalSpoiltWrongFalsely : Prop := journalSpoiltRow.holds Tryd.pinned (OpenSpec.ofChange journalSpoiltWrong)

/-- 'seedcornlaw41.JournalMore': WHATEVER THE INPUT: true; the input reads as it did. -/
def journalMoreSpec : ChangeSpec := { name := "journalMore", fn := fun _ => fun
  | [d1, d2, d3] => { results := [.lit (.bool true)], args := [d1, d2, d3] }
  | _ => none }
def journalMoreRow : OpenClaim := { program := "ythmepecedjamcaadoor", sum := "1b2462cf9feb39d3911725673b94dfe8caffc43133b97305dc222ce976c43e35", func := "seedcorn/seedcornlaw41.JournalMore", spec := "journalMore", inPlace := ["internal/abi.NoEscape", "internal/bytealg.MakeNoZero"], unfollowed := true, recurses := true, named := ["seedcorn/digest.places"], plainKeys := false, apart := false, laid := [("seedcorn/digest.places", laid_seedcorn_digest_places)] }
def JournalMoreSaid : Prop := journalMoreRow.holds Tryd.pinned (OpenSpec.ofChange journalMoreSpec)

/-- ITS FALSE NEIGHBOUR: 'it returns false'. Refute it at one input. -/
def journalMoreWrong : ChangeSpec := { name := "journalMore", fn := fun _ => fun
  | [d1, d2, d3] => { results := [.lit (.bool false)], args := [d1, d2, d3] }
  | _ => none }
def JournalMoreWrongFalsely : Prop := journalMoreRow.holds Tryd.pinned (OpenSpec.ofChange journalMoreWrong)

/-- 'seedcornlaw41.JournalRest': WHATEVER THE INPUT: true; the input reads as it did. -/
def journalRestSpec : ChangeSpec := { name := "journalRest", fn := fun _ => fun
  | [d] => { results := [.lit (.bool true)], args := [d] }
  | _ => none }
def journalRestRow : OpenClaim := { program := "ythmepecedjamcaadoor", sum := "1b2462cf9feb39d3911725673b94dfe8caffc43133b97305dc222ce976c43e35", func := "seedcorn/seedcornlaw41.JournalRest", spec := "journalRest", inPlace := ["internal/abi.NoEscape", "internal/bytealg.MakeNoZero"], unfollowed := true, recurses := true, named := ["seedcorn/digest.places"], plainKeys := false, apart := false, laid := [("seedcorn/digest.places", laid_seedcorn_digest_places)] }
def JournalRestSaid : Prop := journalRestRow.holds Tryd.pinned (OpenSpec.ofChange journalRestSpec)

/-- ITS FALSE NEIGHBOUR: 'it returns false'. Refute it at one input. -/
def journalRestWrong : ChangeSpec := { name := "journalRest", fn := fun _ => fun
  | [d] => { results := [.lit (.bool false)], args := [d] }
  | _ => none }
def JournalRestWrongFalsely : Prop := journalRestRow.holds Tryd.pinned (OpenSpec.ofChange journalRestWrong)

/-- 'seedcornlaw41.JournalRecovers': WHATEVER THE INPUT: true; the input reads as it did. -/
def journalRecoversSpec : ChangeSpec := { name := "journalRecovers", fn := fun _ => fun
  | [d1, d2, d3] => { results := [.lit (.bool true)], args := [d1, d2, d3] }
  | _ => none }
def journalRecoversRow : OpenClaim := { program := "ythmepecedjamcaadoor", sum := "1b2462cf9feb39d3911725673b94dfe8caffc43133b97305dc222ce976c43e35", func := "seedcorn/seedcornlaw41.JournalRecovers", spec := "journalRecovers", inPlace := ["internal/abi.NoEscape", "internal/bytealg.MakeNoZero"], unfollowed := true, recurses := true, named := ["seedcorn/digest.places"], plainKeys := false, apart := false, laid := [("seedcorn/digest.places", laid_seedcorn_digest_places)] }
def JournalRecoversSaid : Prop := journalRecoversRow.holds Tryd.pinned (OpenSpec.ofChange journalRecoversSpec)

/-- ITS FALSE NEIGHBOUR: 'it returns false'. Refute it at one input. -/
def journalRecoversWrong : ChangeSpec := { name := "journalRecovers", fn := fun _ => fun
  | [d1, d2, d3] => { results := [.lit (.bool false)], args := [d1, d2, d3] }
  | _ => none }
def JournalRecoversWrongFalsely : Prop := journalRecoversRow.holds Tryd.pinned (OpenSpec.ofChange journalRecoversWrong)

/-- 'seedcornlaw42.StoreTwice': WHATEVER THE INPUT: true; the input reads as it did. -/
def storeTwiceSpec : ChangeSpec := { name := "storeTwice", fn := fun _ => fun
  | [d] => { results := [.lit (.bool true)], args := [d] }
  | _ => none }
def storeTwiceRow : OpenClaim := { program := "ythmepecedjamcaadoor", sum := "1b2462cf9feb39d3911725673b94dfe8caffc43133b97305dc222ce976c43e35", func := "seedcorn/seedcornlaw42.StoreTwice", spec := "storeTwice", unfollowed := true, recurses := true, named := ["seedcorn/digest.places"], plainKeys := false, apart := false, laid := [("seedcorn/digest.places", laid_seedcorn_digest_places)] }
def StoreTwiceSaid : Prop := storeTwiceRow.holds Tryd.pinned (OpenSpec.ofChange storeTwiceSpec)

/-- ITS FALSE NEIGHBOUR: 'it returns false'. Refute it at one input. -/
def storeTwiceWrong : ChangeSpec := { name := "storeTwice", fn := fun _ => fun
  | [d] => { results := [.lit (.bool false)], args := [d] }
  | _ => none }
def StoreTwiceWrongFalsely : Prop := storeTwiceRow.holds Tryd.pinned (OpenSpec.ofChange storeTwiceWrong)

/-- 'seedcornlaw42.StoreSaves': WHATEVER THE INPUT: true; the input reads as it did. -/
def storeSavesSpec : ChangeSpec := { name := "storeSaves", fn := fun _ => fun
  | [d1, d2] => { results := [.lit (.bool true)], args := [d1, d2] }
  | _ => none }
def storeSavesRow : OpenClaim := { program := "ythmepecedjamcaadoor", sum := "1b2462cf9feb39d3911725673b94dfe8caffc43133b97305dc222ce976c43e35", func := "seedcorn/seedcornlaw42.StoreSaves", spec := "storeSaves", inPlace := ["internal/abi.NoEscape", "internal/bytealg.MakeNoZero"], unfollowed := true, recurses := true, named := ["seedcorn/digest.places"], plainKeys := false, apart := false, laid := [("seedcorn/digest.places", laid_seedcorn_digest_places)] }
def StoreSavesSaid : Prop := storeSavesRow.holds Tryd.pinned (OpenSpec.ofChange storeSavesSpec)

/-- ITS FALSE NEIGHBOUR: 'it returns false'. Refute it at one input. -/
def storeSavesWrong : ChangeSpec := { name := "storeSaves", fn := fun _ => fun
  | [d1, d2] => { results := [.lit (.bool false)], args := [d1, d2] }
  | _ => none }
def StoreSavesWrongFalsely : Prop := storeSavesRow.holds Tryd.pinned (OpenSpec.ofChange storeSavesWrong)

/-- 'seedcornlaw42.StoreOpens': WHATEVER THE INPUT: true; the input reads as it did. -/
def storeOpensSpec : ChangeSpec := { name := "storeOpens", fn := fun _ => fun
  | [d1, d2] => { results := [.lit (.bool true)], args := [d1, d2] }
  | _ => none }
def storeOpensRow : OpenClaim := { program := "ythmepecedjamcaadoor", sum := "1b2462cf9feb39d3911725673b94dfe8caffc43133b97305dc222ce976c43e35", func := "seedcorn/seedcornlaw42.StoreOpens", spec := "storeOpens", inPlace := ["internal/abi.NoEscape", "internal/bytealg.MakeNoZero"], unfollowed := true, recurses := true, named := ["seedcorn/digest.places"], plainKeys := false, apart := false, laid := [("seedcorn/digest.places", laid_seedcorn_digest_places)] }
def StoreOpensSaid : Prop := storeOpensRow.holds Tryd.pinned (OpenSpec.ofChange storeOpensSpec)

/-- ITS FALSE NEIGHBOUR: 'it returns false'. Refute it at one input. -/
def storeOpensWrong : ChangeSpec := { name := "storeOpens", fn := fun _ => fun
  | [d1, d2] => { results := [.lit (.bool false)], args := [d1, d2] }
  | _ => none }
def StoreOpensWrongFalsely : Prop := storeOpensRow.holds Tryd.pinned (OpenSpec.ofChange storeOpensWrong)

/- THE SECOND FORM. 'bulk': how many values and letters a reading holds, each counted each time it is reached (what is shared counts as often as it is met; a slice's spare places count too). A statement '..UptoSaid' is the law's where the arguments, and the package variables that the reading takes, are together of bulk at most 1048576: NARROWER than '..Said'. Prove '..Said' where nothing that the law and all that it calls make is longer than what came in: it says more and counts as full. Else prove '..UptoSaid'. A law counts once. -/
mutual
def uptoBulk {H : Type} : DataW H → Nat
  | .lit (.string bytes) => bytes.length + 1
  | .lit _ => 1
  | .nil => 1
  | .ptr d => uptoBulk d + 1
  | .slice elems spare => uptoBulkAll elems + uptoBulkAll spare + 1
  | .agg parts => uptoBulkAll parts + 1
  | .iface _ d => uptoBulk d + 1
  | .map entries => uptoBulkEntries entries + 1
  | .held _ => 1
def uptoBulkAll {H : Type} : List (DataW H) → Nat
  | [] => 0
  | d :: r => uptoBulk d + uptoBulkAll r
def uptoBulkEntries {H : Type} : List (Lit × DataW H) → Nat
  | [] => 0
  | x :: r => uptoBulkEntry x + uptoBulkEntries r
def uptoBulkEntry {H : Type} : Lit × DataW H → Nat
  | (.string bytes, d) => bytes.length + uptoBulk d + 1
  | (_, d) => uptoBulk d + 1
 end
def uptoSmall : (H : Type) → List (DataW H) → Bool := fun _ ds => decide (uptoBulkAll ds ≤ 1048576)
def OpenSpec.upto (s : _root_.Go.ChangeSpec) : _root_.Go.OpenSpec := { _root_.Go.OpenSpec.ofChange s with cond := some uptoSmall }

/-- 'seedcorntop.SystemCut', WHERE WHAT IT READS IS OF BULK AT MOST 1048576: true; the input reads as it did. -/
def systemCutUptoRow : OpenClaim := { program := "ythmepecedjamcaadoor", sum := "1b2462cf9feb39d3911725673b94dfe8caffc43133b97305dc222ce976c43e35", func := "seedcorn/seedcorntop.SystemCut", spec := "systemCut", inPlace := ["internal/abi.NoEscape", "internal/bytealg.MakeNoZero"], unfollowed := true, recurses := true, named := ["seedcorn/digest.places"], plainKeys := false, apart := false, laid := [("seedcorn/digest.places", laid_seedcorn_digest_places)], narrowed := true }
def SystemCutUptoSaid : Prop := systemCutUptoRow.holds Tryd.pinned (OpenSpec.upto systemCutSpec)

/-- 'seedcornlaw41.JournalPuts', WHERE WHAT IT READS IS OF BULK AT MOST 1048576: true; the input reads as it did. -/
def journalPutsUptoRow : OpenClaim := { program := "ythmepecedjamcaadoor", sum := "1b2462cf9feb39d3911725673b94dfe8caffc43133b97305dc222ce976c43e35", func := "seedcorn/seedcornlaw41.JournalPuts", spec := "journalPuts", inPlace := ["internal/abi.NoEscape", "internal/bytealg.MakeNoZero"], unfollowed := true, recurses := true, named := ["seedcorn/digest.places"], plainKeys := false, apart := false, laid := [("seedcorn/digest.places", laid_seedcorn_digest_places)], narrowed := true }
def JournalPutsUptoSaid : Prop := journalPutsUptoRow.holds Tryd.pinned (OpenSpec.upto journalPutsSpec)

/-- 'seedcornlaw41.JournalReads', WHERE WHAT IT READS IS OF BULK AT MOST 1048576: true; the input reads as it did. -/
def journalReadsUptoRow : OpenClaim := { program := "ythmepecedjamcaadoor", sum := "1b2462cf9feb39d3911725673b94dfe8caffc43133b97305dc222ce976c43e35", func := "seedcorn/seedcornlaw41.JournalReads", spec := "journalReads", inPlace := ["internal/abi.NoEscape", "internal/bytealg.MakeNoZero"], unfollowed := true, recurses := true, named := ["seedcorn/digest.places"], plainKeys := false, apart := false, laid := [("seedcorn/digest.places", laid_seedcorn_digest_places)], narrowed := true }
def JournalReadsUptoSaid : Prop := journalReadsUptoRow.holds Tryd.pinned (OpenSpec.upto journalReadsSpec)

/-- 'seedcornlaw41.JournalCut', WHERE WHAT IT READS IS OF BULK AT MOST 1048576: true; the input reads as it did. -/
def journalCutUptoRow : OpenClaim := { program := "ythmepecedjamcaadoor", sum := "1b2462cf9feb39d3911725673b94dfe8caffc43133b97305dc222ce976c43e35", func := "seedcorn/seedcornlaw41.JournalCut", spec := "journalCut", inPlace := ["internal/abi.NoEscape", "internal/bytealg.MakeNoZero"], unfollowed := true, recurses := true, named := ["seedcorn/digest.places"], plainKeys := false, apart := false, laid := [("seedcorn/digest.places", laid_seedcorn_digest_places)], narrowed := true }
def JournalCutUptoSaid : Prop := journalCutUptoRow.holds Tryd.pinned (OpenSpec.upto journalCutSpec)

/-- 'seedcornlaw41.JournalSpoilt', WHERE WHAT IT READS IS OF BULK AT MOST 1048576: true; the input reads as it did. -/
def journalSpoiltUptoRow : OpenClaim := { program := "ythmepecedjamcaadoor", sum := "1b2462cf9feb39d3911725673b94dfe8caffc43133b97305dc222ce976c43e35", func := "seedcorn/seedcornlaw41.JournalSpoilt", spec := "journalSpoilt", inPlace := ["internal/abi.NoEscape", "internal/bytealg.MakeNoZero"], unfollowed := true, recurses := true, named := ["seedcorn/digest.places"], plainKeys := false, apart := false, laid := [("seedcorn/digest.places", laid_seedcorn_digest_places)], narrowed := true }
def JournalSpoiltUptoSaid : Prop := journalSpoiltUptoRow.holds Tryd.pinned (OpenSpec.upto journalSpoiltSpec)

/-- 'seedcornlaw41.JournalMore', WHERE WHAT IT READS IS OF BULK AT MOST 1048576: true; the input reads as it did. -/
def journalMoreUptoRow : OpenClaim := { program := "ythmepecedjamcaadoor", sum := "1b2462cf9feb39d3911725673b94dfe8caffc43133b97305dc222ce976c43e35", func := "seedcorn/seedcornlaw41.JournalMore", spec := "journalMore", inPlace := ["internal/abi.NoEscape", "internal/bytealg.MakeNoZero"], unfollowed := true, recurses := true, named := ["seedcorn/digest.places"], plainKeys := false, apart := false, laid := [("seedcorn/digest.places", laid_seedcorn_digest_places)], narrowed := true }
def JournalMoreUptoSaid : Prop := journalMoreUptoRow.holds Tryd.pinned (OpenSpec.upto journalMoreSpec)

/-- 'seedcornlaw41.JournalRest', WHERE WHAT IT READS IS OF BULK AT MOST 1048576: true; the input reads as it did. -/
def journalRestUptoRow : OpenClaim := { program := "ythmepecedjamcaadoor", sum := "1b2462cf9feb39d3911725673b94dfe8caffc43133b97305dc222ce976c43e35", func := "seedcorn/seedcornlaw41.JournalRest", spec := "journalRest", inPlace := ["internal/abi.NoEscape", "internal/bytealg.MakeNoZero"], unfollowed := true, recurses := true, named := ["seedcorn/digest.places"], plainKeys := false, apart := false, laid := [("seedcorn/digest.places", laid_seedcorn_digest_places)], narrowed := true }
def JournalRestUptoSaid : Prop := journalRestUptoRow.holds Tryd.pinned (OpenSpec.upto journalRestSpec)

/-- 'seedcornlaw41.JournalRecovers', WHERE WHAT IT READS IS OF BULK AT MOST 1048576: true; the input reads as it did. -/
def journalRecoversUptoRow : OpenClaim := { program := "ythmepecedjamcaadoor", sum := "1b2462cf9feb39d3911725673b94dfe8caffc43133b97305dc222ce976c43e35", func := "seedcorn/seedcornlaw41.JournalRecovers", spec := "journalRecovers", inPlace := ["internal/abi.NoEscape", "internal/bytealg.MakeNoZero"], unfollowed := true, recurses := true, named := ["seedcorn/digest.places"], plainKeys := false, apart := false, laid := [("seedcorn/digest.places", laid_seedcorn_digest_places)], narrowed := true }
def JournalRecoversUptoSaid : Prop := journalRecoversUptoRow.holds Tryd.pinned (OpenSpec.upto journalRecoversSpec)

/-- 'seedcornlaw42.StoreTwice', WHERE WHAT IT READS IS OF BULK AT MOST 1048576: true; the input reads as it did. -/
def storeTwiceUptoRow : OpenClaim := { program := "ythmepecedjamcaadoor", sum := "1b2462cf9feb39d3911725673b94dfe8caffc43133b97305dc222ce976c43e35", func := "seedcorn/seedcornlaw42.StoreTwice", spec := "storeTwice", unfollowed := true, recurses := true, named := ["seedcorn/digest.places"], plainKeys := false, apart := false, laid := [("seedcorn/digest.places", laid_seedcorn_digest_places)], narrowed := true }
def StoreTwiceUptoSaid : Prop := storeTwiceUptoRow.holds Tryd.pinned (OpenSpec.upto storeTwiceSpec)

/-- 'seedcornlaw42.StoreSaves', WHERE WHAT IT READS IS OF BULK AT MOST 1048576: true; the input reads as it did. -/
def storeSavesUptoRow : OpenClaim := { program := "ythmepecedjamcaadoor", sum := "1b2462cf9feb39d3911725673b94dfe8caffc43133b97305dc222ce976c43e35", func := "seedcorn/seedcornlaw42.StoreSaves", spec := "storeSaves", inPlace := ["internal/abi.NoEscape", "internal/bytealg.MakeNoZero"], unfollowed := true, recurses := true, named := ["seedcorn/digest.places"], plainKeys := false, apart := false, laid := [("seedcorn/digest.places", laid_seedcorn_digest_places)], narrowed := true }
def StoreSavesUptoSaid : Prop := storeSavesUptoRow.holds Tryd.pinned (OpenSpec.upto storeSavesSpec)

/-- 'seedcornlaw42.StoreOpens', WHERE WHAT IT READS IS OF BULK AT MOST 1048576: true; the input reads as it did. -/
def storeOpensUptoRow : OpenClaim := { program := "ythmepecedjamcaadoor", sum := "1b2462cf9feb39d3911725673b94dfe8caffc43133b97305dc222ce976c43e35", func := "seedcorn/seedcornlaw42.StoreOpens", spec := "storeOpens", inPlace := ["internal/abi.NoEscape", "internal/bytealg.MakeNoZero"], unfollowed := true, recurses := true, named := ["seedcorn/digest.places"], plainKeys := false, apart := false, laid := [("seedcorn/digest.places", laid_seedcorn_digest_places)], narrowed := true }
def StoreOpensUptoSaid : Prop := storeOpensUptoRow.holds Tryd.pinned (OpenSpec.upto storeOpensSpec)

end Rows
end Go.Proofs.YthmepecedjamcaaDoor
