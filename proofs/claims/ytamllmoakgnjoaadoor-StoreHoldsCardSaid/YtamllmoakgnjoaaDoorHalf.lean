/- merkle.half and seedcornref04.Half: the greatest power of two below n. -/
import Derived.Test.YtamllmoakgnjoaaDoorGen
import Derived.Test.YtamllmoakgnjoaaDoorMkPure
namespace Go.Proofs.YtamllmoakgnjoaaDoor
open Go.RowKit
set_option maxHeartbeats 1000000 in
theorem half_c (n : Nat) (w : World) (h2 : 2 ≤ n) (hm : n ≤ 1000000) : Calls Tryd.prog 75 #[.int .i64 (n : Int)] w fun e w' => e = .returned (.int .i64 (halfE n : Int)) ∧ w = w' := by
  go_enter Tryd.func75, Tryd.ntmps75
  go_wp2_with fail
  go_loop [3] (fun k => ∃ j : Nat, k = .int .i64 ((2 ^ j : Nat) : Int) ∧ 2 ^ j < n) (fun k => n - (intOf k).toNat)
  case atStart => exact ⟨0, rfl, by simp; omega⟩
  case round =>
    obtain ⟨j, rfl, hj⟩ := hrel
    have Hs := Lib.hid (fun h : n ≤ 2 * 2 ^ j => halfE_stop (j := j) hj h)
    have Hn := Lib.hid (Nat.pow_succ (n := 2) (m := j))
    have hp := Nat.two_pow_pos j
    generalize hK : 2 ^ j = K at *
    have HK := Lib.hid hK
    clear hK
    by_cases hlt : 2 * K < n
    · have t : decide ((K : Int) < (n : Int) - (K : Int)) = true := by simp; omega
      go_wp2
      go_round
      case rel => exact ⟨j + 1, by rw [Hn.out]; go_num, by rw [Hn.out]; omega⟩
      case measure => simp [intOf]; omega
    · have t : decide ((K : Int) < (n : Int) - (K : Int)) = false := by simp; omega
      go_wp2
      go_ret
      exact ⟨ret_int (by rw [Hs.out (by omega)]), rfl⟩
set_option maxHeartbeats 1000000 in
theorem rhalf_c (n : Nat) (w : World) (h2 : 2 ≤ n) (hm : n ≤ 1000000) : Calls Tryd.prog 78 #[.int .i64 (n : Int)] w fun e w' => e = .returned (.int .i64 (halfE n : Int)) ∧ w = w' := by
  go_enter Tryd.func78, Tryd.ntmps78
  go_wp2_with fail
  go_loop [3] (fun k => ∃ j : Nat, k = .int .i64 ((2 ^ j : Nat) : Int) ∧ 2 ^ j < n) (fun k => n - (intOf k).toNat)
  case atStart => exact ⟨0, rfl, by simp; omega⟩
  case round =>
    obtain ⟨j, rfl, hj⟩ := hrel
    have Hs := Lib.hid (fun h : n ≤ 2 * 2 ^ j => halfE_stop (j := j) hj h)
    have Hn := Lib.hid (Nat.pow_succ (n := 2) (m := j))
    have hp := Nat.two_pow_pos j
    generalize hK : 2 ^ j = K at *
    have HK := Lib.hid hK
    clear hK
    by_cases hlt : 2 * K < n
    · have t : decide (2 * (K : Int) < (n : Int)) = true := by simp; omega
      go_wp2
      go_round
      case rel => exact ⟨j + 1, by rw [Hn.out]; go_num, by rw [Hn.out]; omega⟩
      case measure => simp [intOf]; omega
    · have t : decide (2 * (K : Int) < (n : Int)) = false := by simp; omega
      go_wp2
      go_ret
      exact ⟨ret_int (by rw [Hs.out (by omega)]), rfl⟩
end Go.Proofs.YtamllmoakgnjoaaDoor
