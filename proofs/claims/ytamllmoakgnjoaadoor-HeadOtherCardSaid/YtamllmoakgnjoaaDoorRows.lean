/-
  NARROWER THAN 'FOR EVERY INPUT', by the rows' own cells (each row's printed sentence says how): HeadLost: laid · HeadOf: laid · MerkleShort: laid · StoreAdds: laid · StoreGrows: laid · HeadTail: laid · HeadOther: laid · StoreSame: laid · MerkleClashes: laid · MerkleProves: laid · MerkleChecks: laid · MerkleOther: laid · HeadOn: laid · MerkleGoesOn: laid · MerkleChecksOn: laid · StoreProves: laid · HeadGoes: laid · StoreHolds: laid.
  DERIVED. THE GIVEN ROWS OF THIS SEAT. 18 by the template 'for every input the law returns true; each argument reads behind the call as it read before'; 0 by the template 'total and deterministic' (their statements: YtamllmoakgnjoaaDoorTotals.lean).
  GIVEN WITH THE SEED: the statements are not yours to turn. If you find one false, say at which input.
  Laid BY PROGRAM, IN A SANDBOX (cutbox-rows.mjs): the forced cells as the released guide's own fill.sh prints them over the translation 02d215a1f263b806… (all of the seat's roots in one cut). By AI agents, Wed Nov 11 2026. No macro, syntax, notation, axiom, sorry.
-/
import Derived.Test.YtamllmoakgnjoaaDoorChecked
import GoSem.Claim
import GoSem.ClaimJoined
import GoSem.ClaimMapViews
import Derived.JoinedTies
import Derived.KernelRfl
namespace Go.Proofs.YtamllmoakgnjoaaDoor
/- THE CELL 'sum', in the pinned program and in every row, IS THE sha256 OF THE DUMP (.gsa) THAT YtamllmoakgnjoaaDoorProg.lean LOADS. Nothing in Lean hashes anything: it is a label: what it is worth is what the hold of that sum in a sandbox is worth. -/
noncomputable def Tryd.pinned : Pinned := { name := "ytamllmoakgnjoaadoor", sum := "02d215a1f263b806e6e69b97dda0cae988b461d2ae43d1197322d2eafd0a84e8", checked := Tryd.checked }
namespace Rows
def none {H : Type} : Left H := { results := [], args := [] }

/- WHAT THE LISTED PACKAGE-LEVEL VARIABLES READ AS WHEN THE CALL BEGINS. Each datum BY PROGRAM (the guide's laid-datum.mjs) off the statement by which the dump's own 'gosem.cut.vars' lays the variable. In a bare row this is a premise. The card (YtamllmoakgnjoaaDoorCards.lean) ties it to the program's text. -/
def laid_seedcorn_digest_places {H : Type} : DataW H := .agg [.lit (.int .i64 7), .lit (.int .i64 9), .lit (.int .i64 13), .lit (.int .i64 18)]

/-- 'seedcornlaw43.HeadLost': WHATEVER THE INPUT: true; the input reads as it did. -/
def headLostSpec : ChangeSpec := { name := "headLost", fn := fun _ => fun
  | [d1, d2] => { results := [.lit (.bool true)], args := [d1, d2] }
  | _ => none }
def headLostRow : OpenClaim := { program := "ytamllmoakgnjoaadoor", sum := "02d215a1f263b806e6e69b97dda0cae988b461d2ae43d1197322d2eafd0a84e8", func := "seedcorn/seedcornlaw43.HeadLost", spec := "headLost", recurses := true, named := ["seedcorn/digest.places"], apart := false, laid := [("seedcorn/digest.places", laid_seedcorn_digest_places)] }
def HeadLostSaid : Prop := headLostRow.holds Tryd.pinned (OpenSpec.ofChange headLostSpec)

/-- ITS FALSE NEIGHBOUR: 'it returns false'. Refute it at one input. -/
def headLostWrong : ChangeSpec := { name := "headLost", fn := fun _ => fun
  | [d1, d2] => { results := [.lit (.bool false)], args := [d1, d2] }
  | _ => none }
def HeadLostWrongFalsely : Prop := headLostRow.holds Tryd.pinned (OpenSpec.ofChange headLostWrong)

/-- 'seedcornlaw43.HeadOf': WHATEVER THE INPUT: true; the input reads as it did. -/
def headOfSpec : ChangeSpec := { name := "headOf", fn := fun _ => fun
  | [d1, d2] => { results := [.lit (.bool true)], args := [d1, d2] }
  | _ => none }
def headOfRow : OpenClaim := { program := "ytamllmoakgnjoaadoor", sum := "02d215a1f263b806e6e69b97dda0cae988b461d2ae43d1197322d2eafd0a84e8", func := "seedcorn/seedcornlaw43.HeadOf", spec := "headOf", recurses := true, named := ["seedcorn/digest.places"], apart := false, laid := [("seedcorn/digest.places", laid_seedcorn_digest_places)] }
def HeadOfSaid : Prop := headOfRow.holds Tryd.pinned (OpenSpec.ofChange headOfSpec)

/-- ITS FALSE NEIGHBOUR: 'it returns false'. Refute it at one input. -/
def headOfWrong : ChangeSpec := { name := "headOf", fn := fun _ => fun
  | [d1, d2] => { results := [.lit (.bool false)], args := [d1, d2] }
  | _ => none }
def HeadOfWrongFalsely : Prop := headOfRow.holds Tryd.pinned (OpenSpec.ofChange headOfWrong)

/-- 'seedcornlaw04.MerkleShort': WHATEVER THE INPUT: true; the input reads as it did. -/
def merkleShortSpec : ChangeSpec := { name := "merkleShort", fn := fun _ => fun
  | [d1, d2, d3] => { results := [.lit (.bool true)], args := [d1, d2, d3] }
  | _ => none }
def merkleShortRow : OpenClaim := { program := "ytamllmoakgnjoaadoor", sum := "02d215a1f263b806e6e69b97dda0cae988b461d2ae43d1197322d2eafd0a84e8", func := "seedcorn/seedcornlaw04.MerkleShort", spec := "merkleShort", recurses := true, named := ["seedcorn/digest.places"], apart := false, laid := [("seedcorn/digest.places", laid_seedcorn_digest_places)] }
def MerkleShortSaid : Prop := merkleShortRow.holds Tryd.pinned (OpenSpec.ofChange merkleShortSpec)

/-- ITS FALSE NEIGHBOUR: 'it returns false'. Refute it at one input. -/
def merkleShortWrong : ChangeSpec := { name := "merkleShort", fn := fun _ => fun
  | [d1, d2, d3] => { results := [.lit (.bool false)], args := [d1, d2, d3] }
  | _ => none }
def MerkleShortWrongFalsely : Prop := merkleShortRow.holds Tryd.pinned (OpenSpec.ofChange merkleShortWrong)

/-- 'seedcornlaw42.StoreAdds': WHATEVER THE INPUT: true; the input reads as it did. -/
def storeAddsSpec : ChangeSpec := { name := "storeAdds", fn := fun _ => fun
  | [d1, d2, d3] => { results := [.lit (.bool true)], args := [d1, d2, d3] }
  | _ => none }
def storeAddsRow : OpenClaim := { program := "ytamllmoakgnjoaadoor", sum := "02d215a1f263b806e6e69b97dda0cae988b461d2ae43d1197322d2eafd0a84e8", func := "seedcorn/seedcornlaw42.StoreAdds", spec := "storeAdds", unfollowed := true, recurses := true, named := ["seedcorn/digest.places"], apart := false, laid := [("seedcorn/digest.places", laid_seedcorn_digest_places)] }
def StoreAddsSaid : Prop := storeAddsRow.holds Tryd.pinned (OpenSpec.ofChange storeAddsSpec)

/-- ITS FALSE NEIGHBOUR: 'it returns false'. Refute it at one input. -/
def storeAddsWrong : ChangeSpec := { name := "storeAdds", fn := fun _ => fun
  | [d1, d2, d3] => { results := [.lit (.bool false)], args := [d1, d2, d3] }
  | _ => none }
def StoreAddsWrongFalsely : Prop := storeAddsRow.holds Tryd.pinned (OpenSpec.ofChange storeAddsWrong)

/-- 'seedcornlaw42.StoreGrows': WHATEVER THE INPUT: true; the input reads as it did. -/
def storeGrowsSpec : ChangeSpec := { name := "storeGrows", fn := fun _ => fun
  | [d1, d2] => { results := [.lit (.bool true)], args := [d1, d2] }
  | _ => none }
def storeGrowsRow : OpenClaim := { program := "ytamllmoakgnjoaadoor", sum := "02d215a1f263b806e6e69b97dda0cae988b461d2ae43d1197322d2eafd0a84e8", func := "seedcorn/seedcornlaw42.StoreGrows", spec := "storeGrows", unfollowed := true, recurses := true, named := ["seedcorn/digest.places"], apart := false, laid := [("seedcorn/digest.places", laid_seedcorn_digest_places)] }
def StoreGrowsSaid : Prop := storeGrowsRow.holds Tryd.pinned (OpenSpec.ofChange storeGrowsSpec)

/-- ITS FALSE NEIGHBOUR: 'it returns false'. Refute it at one input. -/
def storeGrowsWrong : ChangeSpec := { name := "storeGrows", fn := fun _ => fun
  | [d1, d2] => { results := [.lit (.bool false)], args := [d1, d2] }
  | _ => none }
def StoreGrowsWrongFalsely : Prop := storeGrowsRow.holds Tryd.pinned (OpenSpec.ofChange storeGrowsWrong)

/-- 'seedcornlaw43.HeadTail': WHATEVER THE INPUT: true; the input reads as it did. -/
def headTailSpec : ChangeSpec := { name := "headTail", fn := fun _ => fun
  | [d1, d2, d3] => { results := [.lit (.bool true)], args := [d1, d2, d3] }
  | _ => none }
def headTailRow : OpenClaim := { program := "ytamllmoakgnjoaadoor", sum := "02d215a1f263b806e6e69b97dda0cae988b461d2ae43d1197322d2eafd0a84e8", func := "seedcorn/seedcornlaw43.HeadTail", spec := "headTail", unfollowed := true, recurses := true, named := ["seedcorn/digest.places"], apart := false, laid := [("seedcorn/digest.places", laid_seedcorn_digest_places)] }
def HeadTailSaid : Prop := headTailRow.holds Tryd.pinned (OpenSpec.ofChange headTailSpec)

/-- ITS FALSE NEIGHBOUR: 'it returns false'. Refute it at one input. -/
def headTailWrong : ChangeSpec := { name := "headTail", fn := fun _ => fun
  | [d1, d2, d3] => { results := [.lit (.bool false)], args := [d1, d2, d3] }
  | _ => none }
def HeadTailWrongFalsely : Prop := headTailRow.holds Tryd.pinned (OpenSpec.ofChange headTailWrong)

/-- 'seedcornlaw43.HeadOther': WHATEVER THE INPUT: true; the input reads as it did. -/
def headOtherSpec : ChangeSpec := { name := "headOther", fn := fun _ => fun
  | [d1, d2, d3] => { results := [.lit (.bool true)], args := [d1, d2, d3] }
  | _ => none }
def headOtherRow : OpenClaim := { program := "ytamllmoakgnjoaadoor", sum := "02d215a1f263b806e6e69b97dda0cae988b461d2ae43d1197322d2eafd0a84e8", func := "seedcorn/seedcornlaw43.HeadOther", spec := "headOther", recurses := true, named := ["seedcorn/digest.places"], apart := false, laid := [("seedcorn/digest.places", laid_seedcorn_digest_places)] }
def HeadOtherSaid : Prop := headOtherRow.holds Tryd.pinned (OpenSpec.ofChange headOtherSpec)

/-- ITS FALSE NEIGHBOUR: 'it returns false'. Refute it at one input. -/
def headOtherWrong : ChangeSpec := { name := "headOther", fn := fun _ => fun
  | [d1, d2, d3] => { results := [.lit (.bool false)], args := [d1, d2, d3] }
  | _ => none }
def HeadOtherWrongFalsely : Prop := headOtherRow.holds Tryd.pinned (OpenSpec.ofChange headOtherWrong)

/-- 'seedcornlaw42.StoreSame': WHATEVER THE INPUT: true; the input reads as it did. -/
def storeSameSpec : ChangeSpec := { name := "storeSame", fn := fun _ => fun
  | [d1, d2] => { results := [.lit (.bool true)], args := [d1, d2] }
  | _ => none }
def storeSameRow : OpenClaim := { program := "ytamllmoakgnjoaadoor", sum := "02d215a1f263b806e6e69b97dda0cae988b461d2ae43d1197322d2eafd0a84e8", func := "seedcorn/seedcornlaw42.StoreSame", spec := "storeSame", unfollowed := true, recurses := true, named := ["seedcorn/digest.places"], apart := false, laid := [("seedcorn/digest.places", laid_seedcorn_digest_places)] }
def StoreSameSaid : Prop := storeSameRow.holds Tryd.pinned (OpenSpec.ofChange storeSameSpec)

/-- ITS FALSE NEIGHBOUR: 'it returns false'. Refute it at one input. -/
def storeSameWrong : ChangeSpec := { name := "storeSame", fn := fun _ => fun
  | [d1, d2] => { results := [.lit (.bool false)], args := [d1, d2] }
  | _ => none }
def StoreSameWrongFalsely : Prop := storeSameRow.holds Tryd.pinned (OpenSpec.ofChange storeSameWrong)

/-- 'seedcornlaw04.MerkleClashes': WHATEVER THE INPUT: true; the input reads as it did. -/
def merkleClashesSpec : ChangeSpec := { name := "merkleClashes", fn := fun _ => fun
  | [d1, d2] => { results := [.lit (.bool true)], args := [d1, d2] }
  | _ => none }
def merkleClashesRow : OpenClaim := { program := "ytamllmoakgnjoaadoor", sum := "02d215a1f263b806e6e69b97dda0cae988b461d2ae43d1197322d2eafd0a84e8", func := "seedcorn/seedcornlaw04.MerkleClashes", spec := "merkleClashes", recurses := true, named := ["seedcorn/digest.places"], apart := false, laid := [("seedcorn/digest.places", laid_seedcorn_digest_places)] }
def MerkleClashesSaid : Prop := merkleClashesRow.holds Tryd.pinned (OpenSpec.ofChange merkleClashesSpec)

/-- ITS FALSE NEIGHBOUR: 'it returns false'. Refute it at one input. -/
def merkleClashesWrong : ChangeSpec := { name := "merkleClashes", fn := fun _ => fun
  | [d1, d2] => { results := [.lit (.bool false)], args := [d1, d2] }
  | _ => none }
def MerkleClashesWrongFalsely : Prop := merkleClashesRow.holds Tryd.pinned (OpenSpec.ofChange merkleClashesWrong)

/-- 'seedcornlaw04.MerkleProves': WHATEVER THE INPUT: true; the input reads as it did. -/
def merkleProvesSpec : ChangeSpec := { name := "merkleProves", fn := fun _ => fun
  | [d1, d2] => { results := [.lit (.bool true)], args := [d1, d2] }
  | _ => none }
def merkleProvesRow : OpenClaim := { program := "ytamllmoakgnjoaadoor", sum := "02d215a1f263b806e6e69b97dda0cae988b461d2ae43d1197322d2eafd0a84e8", func := "seedcorn/seedcornlaw04.MerkleProves", spec := "merkleProves", recurses := true, named := ["seedcorn/digest.places"], apart := false, laid := [("seedcorn/digest.places", laid_seedcorn_digest_places)] }
def MerkleProvesSaid : Prop := merkleProvesRow.holds Tryd.pinned (OpenSpec.ofChange merkleProvesSpec)

/-- ITS FALSE NEIGHBOUR: 'it returns false'. Refute it at one input. -/
def merkleProvesWrong : ChangeSpec := { name := "merkleProves", fn := fun _ => fun
  | [d1, d2] => { results := [.lit (.bool false)], args := [d1, d2] }
  | _ => none }
def MerkleProvesWrongFalsely : Prop := merkleProvesRow.holds Tryd.pinned (OpenSpec.ofChange merkleProvesWrong)

/-- 'seedcornlaw04.MerkleChecks': WHATEVER THE INPUT: true; the input reads as it did. -/
def merkleChecksSpec : ChangeSpec := { name := "merkleChecks", fn := fun _ => fun
  | [d] => { results := [.lit (.bool true)], args := [d] }
  | _ => none }
def merkleChecksRow : OpenClaim := { program := "ytamllmoakgnjoaadoor", sum := "02d215a1f263b806e6e69b97dda0cae988b461d2ae43d1197322d2eafd0a84e8", func := "seedcorn/seedcornlaw04.MerkleChecks", spec := "merkleChecks", recurses := true, named := ["seedcorn/digest.places"], apart := false, laid := [("seedcorn/digest.places", laid_seedcorn_digest_places)] }
def MerkleChecksSaid : Prop := merkleChecksRow.holds Tryd.pinned (OpenSpec.ofChange merkleChecksSpec)

/-- ITS FALSE NEIGHBOUR: 'it returns false'. Refute it at one input. -/
def merkleChecksWrong : ChangeSpec := { name := "merkleChecks", fn := fun _ => fun
  | [d] => { results := [.lit (.bool false)], args := [d] }
  | _ => none }
def MerkleChecksWrongFalsely : Prop := merkleChecksRow.holds Tryd.pinned (OpenSpec.ofChange merkleChecksWrong)

/-- 'seedcornlaw04.MerkleOther': WHATEVER THE INPUT: true; the input reads as it did. -/
def merkleOtherSpec : ChangeSpec := { name := "merkleOther", fn := fun _ => fun
  | [d1, d2, d3] => { results := [.lit (.bool true)], args := [d1, d2, d3] }
  | _ => none }
def merkleOtherRow : OpenClaim := { program := "ytamllmoakgnjoaadoor", sum := "02d215a1f263b806e6e69b97dda0cae988b461d2ae43d1197322d2eafd0a84e8", func := "seedcorn/seedcornlaw04.MerkleOther", spec := "merkleOther", recurses := true, named := ["seedcorn/digest.places"], apart := false, laid := [("seedcorn/digest.places", laid_seedcorn_digest_places)] }
def MerkleOtherSaid : Prop := merkleOtherRow.holds Tryd.pinned (OpenSpec.ofChange merkleOtherSpec)

/-- ITS FALSE NEIGHBOUR: 'it returns false'. Refute it at one input. -/
def merkleOtherWrong : ChangeSpec := { name := "merkleOther", fn := fun _ => fun
  | [d1, d2, d3] => { results := [.lit (.bool false)], args := [d1, d2, d3] }
  | _ => none }
def MerkleOtherWrongFalsely : Prop := merkleOtherRow.holds Tryd.pinned (OpenSpec.ofChange merkleOtherWrong)

/-- 'seedcornlaw43.HeadOn': WHATEVER THE INPUT: true; the input reads as it did. -/
def headOnSpec : ChangeSpec := { name := "headOn", fn := fun _ => fun
  | [d] => { results := [.lit (.bool true)], args := [d] }
  | _ => none }
def headOnRow : OpenClaim := { program := "ytamllmoakgnjoaadoor", sum := "02d215a1f263b806e6e69b97dda0cae988b461d2ae43d1197322d2eafd0a84e8", func := "seedcorn/seedcornlaw43.HeadOn", spec := "headOn", recurses := true, named := ["seedcorn/digest.places"], apart := false, laid := [("seedcorn/digest.places", laid_seedcorn_digest_places)] }
def HeadOnSaid : Prop := headOnRow.holds Tryd.pinned (OpenSpec.ofChange headOnSpec)

/-- ITS FALSE NEIGHBOUR: 'it returns false'. Refute it at one input. -/
def headOnWrong : ChangeSpec := { name := "headOn", fn := fun _ => fun
  | [d] => { results := [.lit (.bool false)], args := [d] }
  | _ => none }
def HeadOnWrongFalsely : Prop := headOnRow.holds Tryd.pinned (OpenSpec.ofChange headOnWrong)

/-- 'seedcornlaw04.MerkleGoesOn': WHATEVER THE INPUT: true; the input reads as it did. -/
def merkleGoesOnSpec : ChangeSpec := { name := "merkleGoesOn", fn := fun _ => fun
  | [d1, d2] => { results := [.lit (.bool true)], args := [d1, d2] }
  | _ => none }
def merkleGoesOnRow : OpenClaim := { program := "ytamllmoakgnjoaadoor", sum := "02d215a1f263b806e6e69b97dda0cae988b461d2ae43d1197322d2eafd0a84e8", func := "seedcorn/seedcornlaw04.MerkleGoesOn", spec := "merkleGoesOn", recurses := true, named := ["seedcorn/digest.places"], apart := false, laid := [("seedcorn/digest.places", laid_seedcorn_digest_places)] }
def MerkleGoesOnSaid : Prop := merkleGoesOnRow.holds Tryd.pinned (OpenSpec.ofChange merkleGoesOnSpec)

/-- ITS FALSE NEIGHBOUR: 'it returns false'. Refute it at one input. -/
def merkleGoesOnWrong : ChangeSpec := { name := "merkleGoesOn", fn := fun _ => fun
  | [d1, d2] => { results := [.lit (.bool false)], args := [d1, d2] }
  | _ => none }
def MerkleGoesOnWrongFalsely : Prop := merkleGoesOnRow.holds Tryd.pinned (OpenSpec.ofChange merkleGoesOnWrong)

/-- 'seedcornlaw04.MerkleChecksOn': WHATEVER THE INPUT: true; the input reads as it did. -/
def merkleChecksOnSpec : ChangeSpec := { name := "merkleChecksOn", fn := fun _ => fun
  | [d] => { results := [.lit (.bool true)], args := [d] }
  | _ => none }
def merkleChecksOnRow : OpenClaim := { program := "ytamllmoakgnjoaadoor", sum := "02d215a1f263b806e6e69b97dda0cae988b461d2ae43d1197322d2eafd0a84e8", func := "seedcorn/seedcornlaw04.MerkleChecksOn", spec := "merkleChecksOn", recurses := true, named := ["seedcorn/digest.places"], apart := false, laid := [("seedcorn/digest.places", laid_seedcorn_digest_places)] }
def MerkleChecksOnSaid : Prop := merkleChecksOnRow.holds Tryd.pinned (OpenSpec.ofChange merkleChecksOnSpec)

/-- ITS FALSE NEIGHBOUR: 'it returns false'. Refute it at one input. -/
def merkleChecksOnWrong : ChangeSpec := { name := "merkleChecksOn", fn := fun _ => fun
  | [d] => { results := [.lit (.bool false)], args := [d] }
  | _ => none }
def MerkleChecksOnWrongFalsely : Prop := merkleChecksOnRow.holds Tryd.pinned (OpenSpec.ofChange merkleChecksOnWrong)

/-- 'seedcornlaw42.StoreProves': WHATEVER THE INPUT: true; the input reads as it did. -/
def storeProvesSpec : ChangeSpec := { name := "storeProves", fn := fun _ => fun
  | [d1, d2] => { results := [.lit (.bool true)], args := [d1, d2] }
  | _ => none }
def storeProvesRow : OpenClaim := { program := "ytamllmoakgnjoaadoor", sum := "02d215a1f263b806e6e69b97dda0cae988b461d2ae43d1197322d2eafd0a84e8", func := "seedcorn/seedcornlaw42.StoreProves", spec := "storeProves", unfollowed := true, recurses := true, named := ["seedcorn/digest.places"], apart := false, laid := [("seedcorn/digest.places", laid_seedcorn_digest_places)] }
def StoreProvesSaid : Prop := storeProvesRow.holds Tryd.pinned (OpenSpec.ofChange storeProvesSpec)

/-- ITS FALSE NEIGHBOUR: 'it returns false'. Refute it at one input. -/
def storeProvesWrong : ChangeSpec := { name := "storeProves", fn := fun _ => fun
  | [d1, d2] => { results := [.lit (.bool false)], args := [d1, d2] }
  | _ => none }
def StoreProvesWrongFalsely : Prop := storeProvesRow.holds Tryd.pinned (OpenSpec.ofChange storeProvesWrong)

/-- 'seedcornlaw43.HeadGoes': WHATEVER THE INPUT: true; the input reads as it did. -/
def headGoesSpec : ChangeSpec := { name := "headGoes", fn := fun _ => fun
  | [d1, d2] => { results := [.lit (.bool true)], args := [d1, d2] }
  | _ => none }
def headGoesRow : OpenClaim := { program := "ytamllmoakgnjoaadoor", sum := "02d215a1f263b806e6e69b97dda0cae988b461d2ae43d1197322d2eafd0a84e8", func := "seedcorn/seedcornlaw43.HeadGoes", spec := "headGoes", recurses := true, named := ["seedcorn/digest.places"], apart := false, laid := [("seedcorn/digest.places", laid_seedcorn_digest_places)] }
def HeadGoesSaid : Prop := headGoesRow.holds Tryd.pinned (OpenSpec.ofChange headGoesSpec)

/-- ITS FALSE NEIGHBOUR: 'it returns false'. Refute it at one input. -/
def headGoesWrong : ChangeSpec := { name := "headGoes", fn := fun _ => fun
  | [d1, d2] => { results := [.lit (.bool false)], args := [d1, d2] }
  | _ => none }
def HeadGoesWrongFalsely : Prop := headGoesRow.holds Tryd.pinned (OpenSpec.ofChange headGoesWrong)

/-- 'seedcornlaw42.StoreHolds': WHATEVER THE INPUT: true; the input reads as it did. -/
def storeHoldsSpec : ChangeSpec := { name := "storeHolds", fn := fun _ => fun
  | [d1, d2] => { results := [.lit (.bool true)], args := [d1, d2] }
  | _ => none }
def storeHoldsRow : OpenClaim := { program := "ytamllmoakgnjoaadoor", sum := "02d215a1f263b806e6e69b97dda0cae988b461d2ae43d1197322d2eafd0a84e8", func := "seedcorn/seedcornlaw42.StoreHolds", spec := "storeHolds", unfollowed := true, recurses := true, named := ["seedcorn/digest.places"], apart := false, laid := [("seedcorn/digest.places", laid_seedcorn_digest_places)] }
def StoreHoldsSaid : Prop := storeHoldsRow.holds Tryd.pinned (OpenSpec.ofChange storeHoldsSpec)

/-- ITS FALSE NEIGHBOUR: 'it returns false'. Refute it at one input. -/
def storeHoldsWrong : ChangeSpec := { name := "storeHolds", fn := fun _ => fun
  | [d1, d2] => { results := [.lit (.bool false)], args := [d1, d2] }
  | _ => none }
def StoreHoldsWrongFalsely : Prop := storeHoldsRow.holds Tryd.pinned (OpenSpec.ofChange storeHoldsWrong)

/- THE SECOND FORM. 'bulk': how many values and letters a reading holds, each counted each time it is reached (what is shared counts as often as it is met; a slice's spare places count too). A statement '..UptoSaid' is the law's where the arguments, and the package variables that the reading takes, are together of bulk at most 1048576: NARROWER than '..Said'. Prove '..Said' where nothing that the law and all that it calls make is longer than what came in: it says more and counts as full. Else prove '..UptoSaid'. A law counts once. -/
mutual
def uptoBulk {H : Type} : DataW H → Nat
  | .lit (.string bytes) => bytes.length + 1
  | .lit _ => 1
  | .nil => 1
  | .ptr d => uptoBulk d + 1
  | .slice elems spare => uptoBulkAll elems + uptoBulkAll spare + 1
  | .agg parts => uptoBulkAll parts + 1
  | .iface _ d => uptoBulk d + 1
  | .map entries => uptoBulkEntries entries + 1
  | .held _ => 1
def uptoBulkAll {H : Type} : List (DataW H) → Nat
  | [] => 0
  | d :: r => uptoBulk d + uptoBulkAll r
def uptoBulkEntries {H : Type} : List (Lit × DataW H) → Nat
  | [] => 0
  | x :: r => uptoBulkEntry x + uptoBulkEntries r
def uptoBulkEntry {H : Type} : Lit × DataW H → Nat
  | (.string bytes, d) => bytes.length + uptoBulk d + 1
  | (_, d) => uptoBulk d + 1
 end
def uptoSmall : (H : Type) → List (DataW H) → Bool := fun _ ds => decide (uptoBulkAll ds ≤ 1048576)
def OpenSpec.upto (s : _root_.Go.ChangeSpec) : _root_.Go.OpenSpec := { _root_.Go.OpenSpec.ofChange s with cond := some uptoSmall }

/-- 'seedcornlaw43.HeadLost', WHERE WHAT IT READS IS OF BULK AT MOST 1048576: true; the input reads as it did. -/
def headLostUptoRow : OpenClaim := { program := "ytamllmoakgnjoaadoor", sum := "02d215a1f263b806e6e69b97dda0cae988b461d2ae43d1197322d2eafd0a84e8", func := "seedcorn/seedcornlaw43.HeadLost", spec := "headLost", recurses := true, named := ["seedcorn/digest.places"], apart := false, laid := [("seedcorn/digest.places", laid_seedcorn_digest_places)], narrowed := true }
def HeadLostUptoSaid : Prop := headLostUptoRow.holds Tryd.pinned (OpenSpec.upto headLostSpec)

/-- 'seedcornlaw43.HeadOf', WHERE WHAT IT READS IS OF BULK AT MOST 1048576: true; the input reads as it did. -/
def headOfUptoRow : OpenClaim := { program := "ytamllmoakgnjoaadoor", sum := "02d215a1f263b806e6e69b97dda0cae988b461d2ae43d1197322d2eafd0a84e8", func := "seedcorn/seedcornlaw43.HeadOf", spec := "headOf", recurses := true, named := ["seedcorn/digest.places"], apart := false, laid := [("seedcorn/digest.places", laid_seedcorn_digest_places)], narrowed := true }
def HeadOfUptoSaid : Prop := headOfUptoRow.holds Tryd.pinned (OpenSpec.upto headOfSpec)

/-- 'seedcornlaw04.MerkleShort', WHERE WHAT IT READS IS OF BULK AT MOST 1048576: true; the input reads as it did. -/
def merkleShortUptoRow : OpenClaim := { program := "ytamllmoakgnjoaadoor", sum := "02d215a1f263b806e6e69b97dda0cae988b461d2ae43d1197322d2eafd0a84e8", func := "seedcorn/seedcornlaw04.MerkleShort", spec := "merkleShort", recurses := true, named := ["seedcorn/digest.places"], apart := false, laid := [("seedcorn/digest.places", laid_seedcorn_digest_places)], narrowed := true }
def MerkleShortUptoSaid : Prop := merkleShortUptoRow.holds Tryd.pinned (OpenSpec.upto merkleShortSpec)

/-- 'seedcornlaw42.StoreAdds', WHERE WHAT IT READS IS OF BULK AT MOST 1048576: true; the input reads as it did. -/
def storeAddsUptoRow : OpenClaim := { program := "ytamllmoakgnjoaadoor", sum := "02d215a1f263b806e6e69b97dda0cae988b461d2ae43d1197322d2eafd0a84e8", func := "seedcorn/seedcornlaw42.StoreAdds", spec := "storeAdds", unfollowed := true, recurses := true, named := ["seedcorn/digest.places"], apart := false, laid := [("seedcorn/digest.places", laid_seedcorn_digest_places)], narrowed := true }
def StoreAddsUptoSaid : Prop := storeAddsUptoRow.holds Tryd.pinned (OpenSpec.upto storeAddsSpec)

/-- 'seedcornlaw42.StoreGrows', WHERE WHAT IT READS IS OF BULK AT MOST 1048576: true; the input reads as it did. -/
def storeGrowsUptoRow : OpenClaim := { program := "ytamllmoakgnjoaadoor", sum := "02d215a1f263b806e6e69b97dda0cae988b461d2ae43d1197322d2eafd0a84e8", func := "seedcorn/seedcornlaw42.StoreGrows", spec := "storeGrows", unfollowed := true, recurses := true, named := ["seedcorn/digest.places"], apart := false, laid := [("seedcorn/digest.places", laid_seedcorn_digest_places)], narrowed := true }
def StoreGrowsUptoSaid : Prop := storeGrowsUptoRow.holds Tryd.pinned (OpenSpec.upto storeGrowsSpec)

/-- 'seedcornlaw43.HeadTail', WHERE WHAT IT READS IS OF BULK AT MOST 1048576: true; the input reads as it did. -/
def headTailUptoRow : OpenClaim := { program := "ytamllmoakgnjoaadoor", sum := "02d215a1f263b806e6e69b97dda0cae988b461d2ae43d1197322d2eafd0a84e8", func := "seedcorn/seedcornlaw43.HeadTail", spec := "headTail", unfollowed := true, recurses := true, named := ["seedcorn/digest.places"], apart := false, laid := [("seedcorn/digest.places", laid_seedcorn_digest_places)], narrowed := true }
def HeadTailUptoSaid : Prop := headTailUptoRow.holds Tryd.pinned (OpenSpec.upto headTailSpec)

/-- 'seedcornlaw43.HeadOther', WHERE WHAT IT READS IS OF BULK AT MOST 1048576: true; the input reads as it did. -/
def headOtherUptoRow : OpenClaim := { program := "ytamllmoakgnjoaadoor", sum := "02d215a1f263b806e6e69b97dda0cae988b461d2ae43d1197322d2eafd0a84e8", func := "seedcorn/seedcornlaw43.HeadOther", spec := "headOther", recurses := true, named := ["seedcorn/digest.places"], apart := false, laid := [("seedcorn/digest.places", laid_seedcorn_digest_places)], narrowed := true }
def HeadOtherUptoSaid : Prop := headOtherUptoRow.holds Tryd.pinned (OpenSpec.upto headOtherSpec)

/-- 'seedcornlaw42.StoreSame', WHERE WHAT IT READS IS OF BULK AT MOST 1048576: true; the input reads as it did. -/
def storeSameUptoRow : OpenClaim := { program := "ytamllmoakgnjoaadoor", sum := "02d215a1f263b806e6e69b97dda0cae988b461d2ae43d1197322d2eafd0a84e8", func := "seedcorn/seedcornlaw42.StoreSame", spec := "storeSame", unfollowed := true, recurses := true, named := ["seedcorn/digest.places"], apart := false, laid := [("seedcorn/digest.places", laid_seedcorn_digest_places)], narrowed := true }
def StoreSameUptoSaid : Prop := storeSameUptoRow.holds Tryd.pinned (OpenSpec.upto storeSameSpec)

/-- 'seedcornlaw04.MerkleClashes', WHERE WHAT IT READS IS OF BULK AT MOST 1048576: true; the input reads as it did. -/
def merkleClashesUptoRow : OpenClaim := { program := "ytamllmoakgnjoaadoor", sum := "02d215a1f263b806e6e69b97dda0cae988b461d2ae43d1197322d2eafd0a84e8", func := "seedcorn/seedcornlaw04.MerkleClashes", spec := "merkleClashes", recurses := true, named := ["seedcorn/digest.places"], apart := false, laid := [("seedcorn/digest.places", laid_seedcorn_digest_places)], narrowed := true }
def MerkleClashesUptoSaid : Prop := merkleClashesUptoRow.holds Tryd.pinned (OpenSpec.upto merkleClashesSpec)

/-- 'seedcornlaw04.MerkleProves', WHERE WHAT IT READS IS OF BULK AT MOST 1048576: true; the input reads as it did. -/
def merkleProvesUptoRow : OpenClaim := { program := "ytamllmoakgnjoaadoor", sum := "02d215a1f263b806e6e69b97dda0cae988b461d2ae43d1197322d2eafd0a84e8", func := "seedcorn/seedcornlaw04.MerkleProves", spec := "merkleProves", recurses := true, named := ["seedcorn/digest.places"], apart := false, laid := [("seedcorn/digest.places", laid_seedcorn_digest_places)], narrowed := true }
def MerkleProvesUptoSaid : Prop := merkleProvesUptoRow.holds Tryd.pinned (OpenSpec.upto merkleProvesSpec)

/-- 'seedcornlaw04.MerkleChecks', WHERE WHAT IT READS IS OF BULK AT MOST 1048576: true; the input reads as it did. -/
def merkleChecksUptoRow : OpenClaim := { program := "ytamllmoakgnjoaadoor", sum := "02d215a1f263b806e6e69b97dda0cae988b461d2ae43d1197322d2eafd0a84e8", func := "seedcorn/seedcornlaw04.MerkleChecks", spec := "merkleChecks", recurses := true, named := ["seedcorn/digest.places"], apart := false, laid := [("seedcorn/digest.places", laid_seedcorn_digest_places)], narrowed := true }
def MerkleChecksUptoSaid : Prop := merkleChecksUptoRow.holds Tryd.pinned (OpenSpec.upto merkleChecksSpec)

/-- 'seedcornlaw04.MerkleOther', WHERE WHAT IT READS IS OF BULK AT MOST 1048576: true; the input reads as it did. -/
def merkleOtherUptoRow : OpenClaim := { program := "ytamllmoakgnjoaadoor", sum := "02d215a1f263b806e6e69b97dda0cae988b461d2ae43d1197322d2eafd0a84e8", func := "seedcorn/seedcornlaw04.MerkleOther", spec := "merkleOther", recurses := true, named := ["seedcorn/digest.places"], apart := false, laid := [("seedcorn/digest.places", laid_seedcorn_digest_places)], narrowed := true }
def MerkleOtherUptoSaid : Prop := merkleOtherUptoRow.holds Tryd.pinned (OpenSpec.upto merkleOtherSpec)

/-- 'seedcornlaw43.HeadOn', WHERE WHAT IT READS IS OF BULK AT MOST 1048576: true; the input reads as it did. -/
def headOnUptoRow : OpenClaim := { program := "ytamllmoakgnjoaadoor", sum := "02d215a1f263b806e6e69b97dda0cae988b461d2ae43d1197322d2eafd0a84e8", func := "seedcorn/seedcornlaw43.HeadOn", spec := "headOn", recurses := true, named := ["seedcorn/digest.places"], apart := false, laid := [("seedcorn/digest.places", laid_seedcorn_digest_places)], narrowed := true }
def HeadOnUptoSaid : Prop := headOnUptoRow.holds Tryd.pinned (OpenSpec.upto headOnSpec)

/-- 'seedcornlaw04.MerkleGoesOn', WHERE WHAT IT READS IS OF BULK AT MOST 1048576: true; the input reads as it did. -/
def merkleGoesOnUptoRow : OpenClaim := { program := "ytamllmoakgnjoaadoor", sum := "02d215a1f263b806e6e69b97dda0cae988b461d2ae43d1197322d2eafd0a84e8", func := "seedcorn/seedcornlaw04.MerkleGoesOn", spec := "merkleGoesOn", recurses := true, named := ["seedcorn/digest.places"], apart := false, laid := [("seedcorn/digest.places", laid_seedcorn_digest_places)], narrowed := true }
def MerkleGoesOnUptoSaid : Prop := merkleGoesOnUptoRow.holds Tryd.pinned (OpenSpec.upto merkleGoesOnSpec)

/-- 'seedcornlaw04.MerkleChecksOn', WHERE WHAT IT READS IS OF BULK AT MOST 1048576: true; the input reads as it did. -/
def merkleChecksOnUptoRow : OpenClaim := { program := "ytamllmoakgnjoaadoor", sum := "02d215a1f263b806e6e69b97dda0cae988b461d2ae43d1197322d2eafd0a84e8", func := "seedcorn/seedcornlaw04.MerkleChecksOn", spec := "merkleChecksOn", recurses := true, named := ["seedcorn/digest.places"], apart := false, laid := [("seedcorn/digest.places", laid_seedcorn_digest_places)], narrowed := true }
def MerkleChecksOnUptoSaid : Prop := merkleChecksOnUptoRow.holds Tryd.pinned (OpenSpec.upto merkleChecksOnSpec)

/-- 'seedcornlaw42.StoreProves', WHERE WHAT IT READS IS OF BULK AT MOST 1048576: true; the input reads as it did. -/
def storeProvesUptoRow : OpenClaim := { program := "ytamllmoakgnjoaadoor", sum := "02d215a1f263b806e6e69b97dda0cae988b461d2ae43d1197322d2eafd0a84e8", func := "seedcorn/seedcornlaw42.StoreProves", spec := "storeProves", unfollowed := true, recurses := true, named := ["seedcorn/digest.places"], apart := false, laid := [("seedcorn/digest.places", laid_seedcorn_digest_places)], narrowed := true }
def StoreProvesUptoSaid : Prop := storeProvesUptoRow.holds Tryd.pinned (OpenSpec.upto storeProvesSpec)

/-- 'seedcornlaw43.HeadGoes', WHERE WHAT IT READS IS OF BULK AT MOST 1048576: true; the input reads as it did. -/
def headGoesUptoRow : OpenClaim := { program := "ytamllmoakgnjoaadoor", sum := "02d215a1f263b806e6e69b97dda0cae988b461d2ae43d1197322d2eafd0a84e8", func := "seedcorn/seedcornlaw43.HeadGoes", spec := "headGoes", recurses := true, named := ["seedcorn/digest.places"], apart := false, laid := [("seedcorn/digest.places", laid_seedcorn_digest_places)], narrowed := true }
def HeadGoesUptoSaid : Prop := headGoesUptoRow.holds Tryd.pinned (OpenSpec.upto headGoesSpec)

/-- 'seedcornlaw42.StoreHolds', WHERE WHAT IT READS IS OF BULK AT MOST 1048576: true; the input reads as it did. -/
def storeHoldsUptoRow : OpenClaim := { program := "ytamllmoakgnjoaadoor", sum := "02d215a1f263b806e6e69b97dda0cae988b461d2ae43d1197322d2eafd0a84e8", func := "seedcorn/seedcornlaw42.StoreHolds", spec := "storeHolds", unfollowed := true, recurses := true, named := ["seedcorn/digest.places"], apart := false, laid := [("seedcorn/digest.places", laid_seedcorn_digest_places)], narrowed := true }
def StoreHoldsUptoSaid : Prop := storeHoldsUptoRow.holds Tryd.pinned (OpenSpec.upto storeHoldsSpec)

end Rows
end Go.Proofs.YtamllmoakgnjoaaDoor
