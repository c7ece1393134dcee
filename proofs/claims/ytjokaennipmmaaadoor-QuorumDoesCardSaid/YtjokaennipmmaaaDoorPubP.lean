import Derived.Test.YtjokaennipmmaaaDoorKeyP
/- The public key of one seed's first key, reckoned out in stages; it is not the seed of which it came. -/
namespace Go.Proofs.YtjokaennipmmaaaDoor
open Go.RowKit
def seedP : D := ⟨[1, 0, 0, 0], rfl⟩
def kseedP : D := ⟨[2932823035, 3379581963, 260609817, 3905672543], rfl⟩
set_option maxRecDepth 100000 in
theorem kseedP_eq : kseedE seedP 0 = kseedP := by decide +kernel
def endsP (i : Nat) : D := walkE (beginE kseedP i) 15
def keyP5 : D := ⟨[1961143739, 243114143, 2862029953, 3970820049], rfl⟩
set_option maxRecDepth 100000 in
theorem keyP5_eq : ofTo endsP 5 = keyP5 := by decide +kernel
def keyP10 : D := ⟨[423060261, 2963567800, 1072853002, 4016719459], rfl⟩
set_option maxRecDepth 100000 in
theorem keyP10_st : pairE (pairE (pairE (pairE (pairE (keyP5) (endsP 5)) (endsP 6)) (endsP 7)) (endsP 8)) (endsP 9) = keyP10 := by decide +kernel
theorem keyP10_eq : ofTo endsP 10 = keyP10 := by
  rw [ofTo_succ, ofTo_succ, ofTo_succ, ofTo_succ, ofTo_succ, keyP5_eq]
  exact keyP10_st
def keyP15 : D := ⟨[536292552, 885632742, 2080447890, 3415129875], rfl⟩
set_option maxRecDepth 100000 in
theorem keyP15_st : pairE (pairE (pairE (pairE (pairE (keyP10) (endsP 10)) (endsP 11)) (endsP 12)) (endsP 13)) (endsP 14) = keyP15 := by decide +kernel
theorem keyP15_eq : ofTo endsP 15 = keyP15 := by
  rw [ofTo_succ, ofTo_succ, ofTo_succ, ofTo_succ, ofTo_succ, keyP10_eq]
  exact keyP15_st
def keyP20 : D := ⟨[2767564205, 2062014986, 3241913801, 2422782106], rfl⟩
set_option maxRecDepth 100000 in
theorem keyP20_st : pairE (pairE (pairE (pairE (pairE (keyP15) (endsP 15)) (endsP 16)) (endsP 17)) (endsP 18)) (endsP 19) = keyP20 := by decide +kernel
theorem keyP20_eq : ofTo endsP 20 = keyP20 := by
  rw [ofTo_succ, ofTo_succ, ofTo_succ, ofTo_succ, ofTo_succ, keyP15_eq]
  exact keyP20_st
def keyP25 : D := ⟨[1580468416, 2175413898, 1333010714, 319327029], rfl⟩
set_option maxRecDepth 100000 in
theorem keyP25_st : pairE (pairE (pairE (pairE (pairE (keyP20) (endsP 20)) (endsP 21)) (endsP 22)) (endsP 23)) (endsP 24) = keyP25 := by decide +kernel
theorem keyP25_eq : ofTo endsP 25 = keyP25 := by
  rw [ofTo_succ, ofTo_succ, ofTo_succ, ofTo_succ, ofTo_succ, keyP20_eq]
  exact keyP25_st
def keyP30 : D := ⟨[2712341759, 2863655367, 2760538087, 3093872768], rfl⟩
set_option maxRecDepth 100000 in
theorem keyP30_st : pairE (pairE (pairE (pairE (pairE (keyP25) (endsP 25)) (endsP 26)) (endsP 27)) (endsP 28)) (endsP 29) = keyP30 := by decide +kernel
theorem keyP30_eq : ofTo endsP 30 = keyP30 := by
  rw [ofTo_succ, ofTo_succ, ofTo_succ, ofTo_succ, ofTo_succ, keyP25_eq]
  exact keyP30_st
def keyP35 : D := ⟨[720850131, 1907289946, 2271014956, 1393973132], rfl⟩
set_option maxRecDepth 100000 in
theorem keyP35_st : pairE (pairE (pairE (pairE (pairE (keyP30) (endsP 30)) (endsP 31)) (endsP 32)) (endsP 33)) (endsP 34) = keyP35 := by decide +kernel
theorem keyP35_eq : ofTo endsP 35 = keyP35 := by
  rw [ofTo_succ, ofTo_succ, ofTo_succ, ofTo_succ, ofTo_succ, keyP30_eq]
  exact keyP35_st
theorem pubP_eq : publicE (kseedE seedP 0) = keyP35 := by
  rw [kseedP_eq]
  exact keyP35_eq
theorem pubP_ne : decide (publicE (kseedE seedP 0) = seedP) = false := by
  rw [pubP_eq]
  decide
end Go.Proofs.YtjokaennipmmaaaDoor
