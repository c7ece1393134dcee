/- Prove and ProveOn of the program and of the document: the proof, or the error. -/
import Derived.Test.YtamllmoakgnjoaaDoorGoes
namespace Go.Proofs.YtamllmoakgnjoaaDoor
open Go.RowKit
set_option maxHeartbeats 1000000 in
theorem prove_c (n : Nat) (hn : n ≤ 1000000) (i : Nat) (A : Option Addr) (c : Nat) (l : List D) (w : World) (hi : i < n) (hP : Places w) (hs : SlD w A n c l) :
    Calls Tryd.prog 28 #[.slice A n c, .int .i64 (i : Int)] w fun e w' => ∃ v, e = .returned (.tuple #[v, .int .i64 0]) ∧ w'.ownsRow w.heap.size 27 4 v (wayE noneE l i).length (dcells (wayE noneE l i)) ∧ Grow w w' := by
  have HP := Lib.hid hP
  have HS := Lib.hid hs
  clear hP hs
  have t1 : decide ((i : Int) < 0) = false := by simp
  have t2 : decide ((n : Int) ≤ (i : Int)) = false := by simp; omega
  have t3 : decide (n ≤ i) = false := by simp; omega
  go_enter Tryd.func28, Tryd.ntmps28
  go_wp2_with fail
  refine (way_c n n (Nat.le_refl _) hn i A c l _ hi HP.out HS.out).mono ?_
  rintro e w2 ⟨v, rfl, ho, hg⟩
  have HO := Lib.hid ho
  have HG := Lib.hid hg
  clear ho hg
  go_wp2_with fail
  go_ret2
  exact ⟨v, rfl, HO.out, HG.out⟩
set_option maxHeartbeats 1000000 in
theorem prove_no (n : Nat) (x : Int) (A : Option Addr) (c : Nat) (w : World) (h : x < 0 ∨ (n : Int) ≤ x) :
    Calls Tryd.prog 28 #[.slice A n c, .int .i64 x] w fun e w' => e = .returned (.tuple #[.slice none 0 0, .int .i64 1]) ∧ Grow w w' := by
  by_cases h1 : x < 0
  · have t1 : decide (x < 0) = true := decide_eq_true h1
    clear h h1
    go_enter Tryd.func28, Tryd.ntmps28
    go_wp2_with fail
    go_ret2
    exact ⟨rfl, Grow.refl _⟩
  · have t1 : decide (x < 0) = false := decide_eq_false h1
    have t2 : decide ((n : Int) ≤ x) = true := decide_eq_true (by omega)
    clear h h1
    go_enter Tryd.func28, Tryd.ntmps28
    go_wp2_with fail
    go_ret2
    exact ⟨rfl, Grow.refl _⟩
set_option maxHeartbeats 1000000 in
theorem rprove_c (n : Nat) (hn : n ≤ 1000000) (i : Nat) (A : Option Addr) (c : Nat) (l : List D) (w : World) (hi : i < n) (hP : Places w) (hs : SlD w A n c l) :
    Calls Tryd.prog 50 #[.slice A n c, .int .i64 (i : Int)] w fun e w' => ∃ v, e = .returned (.tuple #[v, .int .i64 0]) ∧ w'.ownsRow w.heap.size 27 4 v (wayE noneE l i).length (dcells (wayE noneE l i)) ∧ Grow w w' := by
  have HP := Lib.hid hP
  have HS := Lib.hid hs
  clear hP hs
  have t1 : decide ((i : Int) < 0) = false := by simp
  have t2 : decide ((n : Int) ≤ (i : Int)) = false := by simp; omega
  have t3 : decide (n ≤ i) = false := by simp; omega
  go_enter Tryd.func50, Tryd.ntmps50
  go_wp2_with fail
  refine (rway_c n n (Nat.le_refl _) hn i A c l _ hi HP.out HS.out).mono ?_
  rintro e w2 ⟨v, rfl, ho, hg⟩
  have HO := Lib.hid ho
  have HG := Lib.hid hg
  clear ho hg
  go_wp2_with fail
  go_ret2
  exact ⟨v, rfl, HO.out, HG.out⟩
set_option maxHeartbeats 1000000 in
theorem rprove_no (n : Nat) (x : Int) (A : Option Addr) (c : Nat) (w : World) (h : x < 0 ∨ (n : Int) ≤ x) :
    Calls Tryd.prog 50 #[.slice A n c, .int .i64 x] w fun e w' => e = .returned (.tuple #[.slice none 0 0, .int .i64 1]) ∧ Grow w w' := by
  by_cases h1 : x < 0
  · have t1 : decide (x < 0) = true := decide_eq_true h1
    clear h h1
    go_enter Tryd.func50, Tryd.ntmps50
    go_wp2_with fail
    go_ret2
    exact ⟨rfl, Grow.refl _⟩
  · have t1 : decide (x < 0) = false := decide_eq_false h1
    have t2 : decide ((n : Int) ≤ x) = true := decide_eq_true (by omega)
    clear h h1
    go_enter Tryd.func50, Tryd.ntmps50
    go_wp2_with fail
    go_ret2
    exact ⟨rfl, Grow.refl _⟩
set_option maxHeartbeats 1000000 in
theorem proveOn_c (n : Nat) (hn : n ≤ 1000000) (i : Nat) (A : Option Addr) (c : Nat) (l : List D) (w : World) (hi1 : 1 ≤ i) (hi : i ≤ n) (hP : Places w) (hs : SlD w A n c l) :
    Calls Tryd.prog 29 #[.slice A n c, .int .i64 (i : Int)] w fun e w' => ∃ v, e = .returned (.tuple #[v, .int .i64 0]) ∧ w'.ownsRow w.heap.size 27 4 v (goesE noneE l i true).length (dcells (goesE noneE l i true)) ∧ Grow w w' := by
  have HP := Lib.hid hP
  have HS := Lib.hid hs
  clear hP hs
  have t1 : decide ((i : Int) < 1) = false := by simp; omega
  have t2 : decide ((n : Int) < (i : Int)) = false := by simp; omega
  have t3 : decide (n < i) = false := by simp; omega
  go_enter Tryd.func29, Tryd.ntmps29
  go_wp2_with fail
  refine (goes_c n n (Nat.le_refl _) hn i true A c l _ hi1 hi HP.out HS.out).mono ?_
  rintro e w2 ⟨v, rfl, ho, hg⟩
  have HO := Lib.hid ho
  have HG := Lib.hid hg
  clear ho hg
  go_wp2_with fail
  go_ret2
  exact ⟨v, rfl, HO.out, HG.out⟩
set_option maxHeartbeats 1000000 in
theorem proveOn_no (n : Nat) (x : Int) (A : Option Addr) (c : Nat) (w : World) (h : x < 1 ∨ (n : Int) < x) :
    Calls Tryd.prog 29 #[.slice A n c, .int .i64 x] w fun e w' => e = .returned (.tuple #[.slice none 0 0, .int .i64 1]) ∧ Grow w w' := by
  by_cases h1 : x < 1
  · have t1 : decide (x < 1) = true := decide_eq_true h1
    clear h h1
    go_enter Tryd.func29, Tryd.ntmps29
    go_wp2_with fail
    go_ret2
    exact ⟨rfl, Grow.refl _⟩
  · have t1 : decide (x < 1) = false := decide_eq_false h1
    have t2 : decide ((n : Int) < x) = true := decide_eq_true (by omega)
    clear h h1
    go_enter Tryd.func29, Tryd.ntmps29
    go_wp2_with fail
    go_ret2
    exact ⟨rfl, Grow.refl _⟩
set_option maxHeartbeats 1000000 in
theorem rproveOn_c (n : Nat) (hn : n ≤ 1000000) (i : Nat) (A : Option Addr) (c : Nat) (l : List D) (w : World) (hi1 : 1 ≤ i) (hi : i ≤ n) (hP : Places w) (hs : SlD w A n c l) :
    Calls Tryd.prog 38 #[.slice A n c, .int .i64 (i : Int)] w fun e w' => ∃ v, e = .returned (.tuple #[v, .int .i64 0]) ∧ w'.ownsRow w.heap.size 27 4 v (goesE noneE l i true).length (dcells (goesE noneE l i true)) ∧ Grow w w' := by
  have HP := Lib.hid hP
  have HS := Lib.hid hs
  clear hP hs
  have t1 : decide ((i : Int) < 1) = false := by simp; omega
  have t2 : decide ((n : Int) < (i : Int)) = false := by simp; omega
  have t3 : decide (n < i) = false := by simp; omega
  go_enter Tryd.func38, Tryd.ntmps38
  go_wp2_with fail
  refine (rgoes_c n n (Nat.le_refl _) hn i true A c l _ hi1 hi HP.out HS.out).mono ?_
  rintro e w2 ⟨v, rfl, ho, hg⟩
  have HO := Lib.hid ho
  have HG := Lib.hid hg
  clear ho hg
  go_wp2_with fail
  go_ret2
  exact ⟨v, rfl, HO.out, HG.out⟩
set_option maxHeartbeats 1000000 in
theorem rproveOn_no (n : Nat) (x : Int) (A : Option Addr) (c : Nat) (w : World) (h : x < 1 ∨ (n : Int) < x) :
    Calls Tryd.prog 38 #[.slice A n c, .int .i64 x] w fun e w' => e = .returned (.tuple #[.slice none 0 0, .int .i64 1]) ∧ Grow w w' := by
  by_cases h1 : x < 1
  · have t1 : decide (x < 1) = true := decide_eq_true h1
    clear h h1
    go_enter Tryd.func38, Tryd.ntmps38
    go_wp2_with fail
    go_ret2
    exact ⟨rfl, Grow.refl _⟩
  · have t1 : decide (x < 1) = false := decide_eq_false h1
    have t2 : decide ((n : Int) < x) = true := decide_eq_true (by omega)
    clear h h1
    go_enter Tryd.func38, Tryd.ntmps38
    go_wp2_with fail
    go_ret2
    exact ⟨rfl, Grow.refl _⟩
end Go.Proofs.YtamllmoakgnjoaaDoor
