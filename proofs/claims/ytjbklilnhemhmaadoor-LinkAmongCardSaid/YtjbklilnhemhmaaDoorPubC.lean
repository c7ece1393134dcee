import Derived.Test.YtjbklilnhemhmaaDoorKeyP
/- The public key of one seed's first key, reckoned out in stages; it is not the seed of which it came. -/
namespace Go.Proofs.YtjbklilnhemhmaaDoor
open Go.RowKit
def seedC : D := ⟨[3, 0, 0, 0], rfl⟩
def kseedC : D := ⟨[4224513239, 3379581963, 260609817, 3905672543], rfl⟩
set_option maxRecDepth 100000 in
theorem kseedC_eq : kseedE seedC 0 = kseedC := by decide +kernel
def endsC (i : Nat) : D := walkE (beginE kseedC i) 15
def keyC5 : D := ⟨[539448840, 243114143, 2862029953, 3970820049], rfl⟩
set_option maxRecDepth 100000 in
theorem keyC5_eq : ofTo endsC 5 = keyC5 := by decide +kernel
def keyC10 : D := ⟨[232442970, 2963567800, 1072853002, 4016719459], rfl⟩
set_option maxRecDepth 100000 in
theorem keyC10_st : pairE (pairE (pairE (pairE (pairE (keyC5) (endsC 5)) (endsC 6)) (endsC 7)) (endsC 8)) (endsC 9) = keyC10 := by decide +kernel
theorem keyC10_eq : ofTo endsC 10 = keyC10 := by
  rw [ofTo_succ, ofTo_succ, ofTo_succ, ofTo_succ, ofTo_succ, keyC5_eq]
  exact keyC10_st
def keyC15 : D := ⟨[2495183535, 885632742, 2080447890, 3415129875], rfl⟩
set_option maxRecDepth 100000 in
theorem keyC15_st : pairE (pairE (pairE (pairE (pairE (keyC10) (endsC 10)) (endsC 11)) (endsC 12)) (endsC 13)) (endsC 14) = keyC15 := by decide +kernel
theorem keyC15_eq : ofTo endsC 15 = keyC15 := by
  rw [ofTo_succ, ofTo_succ, ofTo_succ, ofTo_succ, ofTo_succ, keyC10_eq]
  exact keyC15_st
def keyC20 : D := ⟨[175375717, 2062014986, 3241913801, 2422782106], rfl⟩
set_option maxRecDepth 100000 in
theorem keyC20_st : pairE (pairE (pairE (pairE (pairE (keyC15) (endsC 15)) (endsC 16)) (endsC 17)) (endsC 18)) (endsC 19) = keyC20 := by decide +kernel
theorem keyC20_eq : ofTo endsC 20 = keyC20 := by
  rw [ofTo_succ, ofTo_succ, ofTo_succ, ofTo_succ, ofTo_succ, keyC15_eq]
  exact keyC20_st
def keyC25 : D := ⟨[3245777536, 2175413898, 1333010714, 319327029], rfl⟩
set_option maxRecDepth 100000 in
theorem keyC25_st : pairE (pairE (pairE (pairE (pairE (keyC20) (endsC 20)) (endsC 21)) (endsC 22)) (endsC 23)) (endsC 24) = keyC25 := by decide +kernel
theorem keyC25_eq : ofTo endsC 25 = keyC25 := by
  rw [ofTo_succ, ofTo_succ, ofTo_succ, ofTo_succ, ofTo_succ, keyC20_eq]
  exact keyC25_st
def keyC30 : D := ⟨[3179535987, 2863655367, 2760538087, 3093872768], rfl⟩
set_option maxRecDepth 100000 in
theorem keyC30_st : pairE (pairE (pairE (pairE (pairE (keyC25) (endsC 25)) (endsC 26)) (endsC 27)) (endsC 28)) (endsC 29) = keyC30 := by decide +kernel
theorem keyC30_eq : ofTo endsC 30 = keyC30 := by
  rw [ofTo_succ, ofTo_succ, ofTo_succ, ofTo_succ, ofTo_succ, keyC25_eq]
  exact keyC30_st
def keyC35 : D := ⟨[3071069278, 1907289946, 2271014956, 1393973132], rfl⟩
set_option maxRecDepth 100000 in
theorem keyC35_st : pairE (pairE (pairE (pairE (pairE (keyC30) (endsC 30)) (endsC 31)) (endsC 32)) (endsC 33)) (endsC 34) = keyC35 := by decide +kernel
theorem keyC35_eq : ofTo endsC 35 = keyC35 := by
  rw [ofTo_succ, ofTo_succ, ofTo_succ, ofTo_succ, ofTo_succ, keyC30_eq]
  exact keyC35_st
theorem pubC_eq : publicE (kseedE seedC 0) = keyC35 := by
  rw [kseedC_eq]
  exact keyC35_eq
theorem pubC_ne : decide (publicE (kseedE seedC 0) = seedC) = false := by
  rw [pubC_eq]
  decide
end Go.Proofs.YtjbklilnhemhmaaDoor
