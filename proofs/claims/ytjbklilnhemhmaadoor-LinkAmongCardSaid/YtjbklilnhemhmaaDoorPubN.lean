import Derived.Test.YtjbklilnhemhmaaDoorKeyP
/- The public key of one seed's first key, reckoned out in stages; it is not the seed of which it came. -/
namespace Go.Proofs.YtjbklilnhemhmaaDoor
open Go.RowKit
def seedA : D := ⟨[1, 2, 3, 4], rfl⟩
def kseedA : D := ⟨[2932823035, 2714752819, 3864096930, 2236979187], rfl⟩
set_option maxRecDepth 100000 in
theorem kseedA_eq : kseedE seedA 0 = kseedA := by decide +kernel
def endsA (i : Nat) : D := walkE (beginE kseedA i) 15
def keyA5 : D := ⟨[1961143739, 3536854172, 2619919968, 4281936074], rfl⟩
set_option maxRecDepth 100000 in
theorem keyA5_eq : ofTo endsA 5 = keyA5 := by decide +kernel
def keyA10 : D := ⟨[423060261, 4001866006, 389484492, 1953122148], rfl⟩
set_option maxRecDepth 100000 in
theorem keyA10_st : pairE (pairE (pairE (pairE (pairE (keyA5) (endsA 5)) (endsA 6)) (endsA 7)) (endsA 8)) (endsA 9) = keyA10 := by decide +kernel
theorem keyA10_eq : ofTo endsA 10 = keyA10 := by
  rw [ofTo_succ, ofTo_succ, ofTo_succ, ofTo_succ, ofTo_succ, keyA5_eq]
  exact keyA10_st
def keyA15 : D := ⟨[536292552, 898079788, 2597128342, 2079779569], rfl⟩
set_option maxRecDepth 100000 in
theorem keyA15_st : pairE (pairE (pairE (pairE (pairE (keyA10) (endsA 10)) (endsA 11)) (endsA 12)) (endsA 13)) (endsA 14) = keyA15 := by decide +kernel
theorem keyA15_eq : ofTo endsA 15 = keyA15 := by
  rw [ofTo_succ, ofTo_succ, ofTo_succ, ofTo_succ, ofTo_succ, keyA10_eq]
  exact keyA15_st
def keyA20 : D := ⟨[2767564205, 904403371, 1579668575, 1584921638], rfl⟩
set_option maxRecDepth 100000 in
theorem keyA20_st : pairE (pairE (pairE (pairE (pairE (keyA15) (endsA 15)) (endsA 16)) (endsA 17)) (endsA 18)) (endsA 19) = keyA20 := by decide +kernel
theorem keyA20_eq : ofTo endsA 20 = keyA20 := by
  rw [ofTo_succ, ofTo_succ, ofTo_succ, ofTo_succ, ofTo_succ, keyA15_eq]
  exact keyA20_st
def keyA25 : D := ⟨[1580468416, 4041835141, 1668015834, 2267344448], rfl⟩
set_option maxRecDepth 100000 in
theorem keyA25_st : pairE (pairE (pairE (pairE (pairE (keyA20) (endsA 20)) (endsA 21)) (endsA 22)) (endsA 23)) (endsA 24) = keyA25 := by decide +kernel
theorem keyA25_eq : ofTo endsA 25 = keyA25 := by
  rw [ofTo_succ, ofTo_succ, ofTo_succ, ofTo_succ, ofTo_succ, keyA20_eq]
  exact keyA25_st
def keyA30 : D := ⟨[2712341759, 1867496449, 719554501, 2539551653], rfl⟩
set_option maxRecDepth 100000 in
theorem keyA30_st : pairE (pairE (pairE (pairE (pairE (keyA25) (endsA 25)) (endsA 26)) (endsA 27)) (endsA 28)) (endsA 29) = keyA30 := by decide +kernel
theorem keyA30_eq : ofTo endsA 30 = keyA30 := by
  rw [ofTo_succ, ofTo_succ, ofTo_succ, ofTo_succ, ofTo_succ, keyA25_eq]
  exact keyA30_st
def keyA35 : D := ⟨[720850131, 3140779877, 3985937047, 4215054672], rfl⟩
set_option maxRecDepth 100000 in
theorem keyA35_st : pairE (pairE (pairE (pairE (pairE (keyA30) (endsA 30)) (endsA 31)) (endsA 32)) (endsA 33)) (endsA 34) = keyA35 := by decide +kernel
theorem keyA35_eq : ofTo endsA 35 = keyA35 := by
  rw [ofTo_succ, ofTo_succ, ofTo_succ, ofTo_succ, ofTo_succ, keyA30_eq]
  exact keyA35_st
theorem pubA_eq : publicE (kseedE seedA 0) = keyA35 := by
  rw [kseedA_eq]
  exact keyA35_eq
theorem pubA_ne : decide (publicE (kseedE seedA 0) = seedA) = false := by
  rw [pubA_eq]
  decide
end Go.Proofs.YtjbklilnhemhmaaDoor
