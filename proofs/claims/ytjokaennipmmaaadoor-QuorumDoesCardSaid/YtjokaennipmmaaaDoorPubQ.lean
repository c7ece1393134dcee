import Derived.Test.YtjokaennipmmaaaDoorKeyP
/- The public key of one seed's first key, reckoned out in stages; it is not the seed of which it came. -/
namespace Go.Proofs.YtjokaennipmmaaaDoor
open Go.RowKit
def seedQ : D := ⟨[2, 0, 0, 0], rfl⟩
def kseedQ : D := ⟨[2365490253, 3379581963, 260609817, 3905672543], rfl⟩
set_option maxRecDepth 100000 in
theorem kseedQ_eq : kseedE seedQ 0 = kseedQ := by decide +kernel
def endsQ (i : Nat) : D := walkE (beginE kseedQ i) 15
def keyQ5 : D := ⟨[2474306697, 243114143, 2862029953, 3970820049], rfl⟩
set_option maxRecDepth 100000 in
theorem keyQ5_eq : ofTo endsQ 5 = keyQ5 := by decide +kernel
def keyQ10 : D := ⟨[1684350517, 2963567800, 1072853002, 4016719459], rfl⟩
set_option maxRecDepth 100000 in
theorem keyQ10_st : pairE (pairE (pairE (pairE (pairE (keyQ5) (endsQ 5)) (endsQ 6)) (endsQ 7)) (endsQ 8)) (endsQ 9) = keyQ10 := by decide +kernel
theorem keyQ10_eq : ofTo endsQ 10 = keyQ10 := by
  rw [ofTo_succ, ofTo_succ, ofTo_succ, ofTo_succ, ofTo_succ, keyQ5_eq]
  exact keyQ10_st
def keyQ15 : D := ⟨[1459128228, 885632742, 2080447890, 3415129875], rfl⟩
set_option maxRecDepth 100000 in
theorem keyQ15_st : pairE (pairE (pairE (pairE (pairE (keyQ10) (endsQ 10)) (endsQ 11)) (endsQ 12)) (endsQ 13)) (endsQ 14) = keyQ15 := by decide +kernel
theorem keyQ15_eq : ofTo endsQ 15 = keyQ15 := by
  rw [ofTo_succ, ofTo_succ, ofTo_succ, ofTo_succ, ofTo_succ, keyQ10_eq]
  exact keyQ15_st
def keyQ20 : D := ⟨[633933688, 2062014986, 3241913801, 2422782106], rfl⟩
set_option maxRecDepth 100000 in
theorem keyQ20_st : pairE (pairE (pairE (pairE (pairE (keyQ15) (endsQ 15)) (endsQ 16)) (endsQ 17)) (endsQ 18)) (endsQ 19) = keyQ20 := by decide +kernel
theorem keyQ20_eq : ofTo endsQ 20 = keyQ20 := by
  rw [ofTo_succ, ofTo_succ, ofTo_succ, ofTo_succ, ofTo_succ, keyQ15_eq]
  exact keyQ20_st
def keyQ25 : D := ⟨[1975436072, 2175413898, 1333010714, 319327029], rfl⟩
set_option maxRecDepth 100000 in
theorem keyQ25_st : pairE (pairE (pairE (pairE (pairE (keyQ20) (endsQ 20)) (endsQ 21)) (endsQ 22)) (endsQ 23)) (endsQ 24) = keyQ25 := by decide +kernel
theorem keyQ25_eq : ofTo endsQ 25 = keyQ25 := by
  rw [ofTo_succ, ofTo_succ, ofTo_succ, ofTo_succ, ofTo_succ, keyQ20_eq]
  exact keyQ25_st
def keyQ30 : D := ⟨[2389204762, 2863655367, 2760538087, 3093872768], rfl⟩
set_option maxRecDepth 100000 in
theorem keyQ30_st : pairE (pairE (pairE (pairE (pairE (keyQ25) (endsQ 25)) (endsQ 26)) (endsQ 27)) (endsQ 28)) (endsQ 29) = keyQ30 := by decide +kernel
theorem keyQ30_eq : ofTo endsQ 30 = keyQ30 := by
  rw [ofTo_succ, ofTo_succ, ofTo_succ, ofTo_succ, ofTo_succ, keyQ25_eq]
  exact keyQ30_st
def keyQ35 : D := ⟨[3939309387, 1907289946, 2271014956, 1393973132], rfl⟩
set_option maxRecDepth 100000 in
theorem keyQ35_st : pairE (pairE (pairE (pairE (pairE (keyQ30) (endsQ 30)) (endsQ 31)) (endsQ 32)) (endsQ 33)) (endsQ 34) = keyQ35 := by decide +kernel
theorem keyQ35_eq : ofTo endsQ 35 = keyQ35 := by
  rw [ofTo_succ, ofTo_succ, ofTo_succ, ofTo_succ, ofTo_succ, keyQ30_eq]
  exact keyQ35_st
theorem pubQ_eq : publicE (kseedE seedQ 0) = keyQ35 := by
  rw [kseedQ_eq]
  exact keyQ35_eq
theorem pubQ_ne : decide (publicE (kseedE seedQ 0) = seedQ) = false := by
  rw [pubQ_eq]
  decide
end Go.Proofs.YtjokaennipmmaaaDoor
