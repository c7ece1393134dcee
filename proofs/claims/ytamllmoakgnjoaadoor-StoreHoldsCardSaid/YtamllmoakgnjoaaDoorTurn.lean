/- word.Turn, math/bits.RotateLeft32 and the reference Turn, at the four places that the digest uses: all three turn a word alike. -/
import Derived.Test.YtamllmoakgnjoaaDoorRows
import Derived.Test.YtamllmoakgnjoaaDoorPure
namespace Go.Proofs.YtamllmoakgnjoaaDoor
open Go.RowKit
set_option maxHeartbeats 400000 in
theorem rotl_any (x : UInt32) (k : Int) (w : World) (hk : k = 7 ∨ k = 9 ∨ k = 13 ∨ k = 18) :
    Calls Tryd.prog 97 #[.int .u32 (x.toNat : Int), .int .i64 k] w fun e w' => e = .returned (.int .u32 ((rot k.toNat x).toNat : Int)) ∧ w = w' := by
  have hx := u32_lt x
  have e7 : bits BinOp.and IntKind.u64 7 31 = 7 := by kernel_rfl
  have e9 : bits BinOp.and IntKind.u64 9 31 = 9 := by kernel_rfl
  have e13 : bits BinOp.and IntKind.u64 13 31 = 13 := by kernel_rfl
  have e18 : bits BinOp.and IntKind.u64 18 31 = 18 := by kernel_rfl
  rcases hk with rfl | rfl | rfl | rfl
  all_goals
    go_enter Tryd.func97, Tryd.ntmps97
    go_wp2
    go_ret
    exact ⟨ret_int (u32_or_rot (Int.toNat _) x (by omega) _ _ (by simp only [Int.reduceToNat, Nat.reducePow]; omega) (by simp only [Int.reduceToNat, Nat.reducePow, Nat.reduceSub]; omega)), rfl⟩
set_option maxHeartbeats 400000 in
theorem turn_any (x : UInt32) (k : Int) (w : World) (hk : k = 7 ∨ k = 9 ∨ k = 13 ∨ k = 18) :
    Calls Tryd.prog 96 #[.int .u32 (x.toNat : Int), .int .i64 k] w fun e w' => e = .returned (.int .u32 ((rot k.toNat x).toNat : Int)) ∧ w = w' := by
  have hx := u32_lt x
  rcases hk with rfl | rfl | rfl | rfl
  all_goals
    go_enter Tryd.func96, Tryd.ntmps96
    go_wp2_with fail
    refine (rotl_any x _ _ (by decide)).mono ?_
    rintro e w' ⟨rfl, rfl⟩
    go_wp2
    go_ret
    exact ⟨rfl, rfl⟩
theorem val_u64 {a b : Int} (h : a = b) : Value.int .u64 a = .int .u64 b := by rw [h]
theorem rot_next (j : Nat) (x : UInt32) (hj : j < 32) : 2 * ((rot j x).toNat : Int) % 4294967296 + ((rot j x).toNat : Int) / 2147483648 = ((rot (j + 1) x).toNat : Int) := by
  have h := rot_step j x.toNat hj x.toNat_lt
  rw [← rot_toNat j x (by omega), ← rot_toNat (j + 1) x (by omega)] at h
  rw [← h]; omega
set_option maxHeartbeats 400000 in
theorem tref_any (x : UInt32) (k : Int) (w : World) (hk : k = 7 ∨ k = 9 ∨ k = 13 ∨ k = 18) :
    Calls Tryd.prog 95 #[.int .u32 (x.toNat : Int), .int .i64 k] w fun e w' => e = .returned (.int .u32 ((rot k.toNat x).toNat : Int)) ∧ w = w' := by
  have hx := u32_lt x
  obtain ⟨n, hn, hkn⟩ : ∃ n : Nat, (n : Int) = k ∧ n < 32 := ⟨k.toNat, by omega, by omega⟩
  rcases hk with rfl | rfl | rfl | rfl
  all_goals
    have Hn := Lib.hid hn
    clear hn
    go_enter Tryd.func95, Tryd.ntmps95
    go_wp2_with fail
    go_loop [6, 7] (fun y i => ∃ j : Nat, j ≤ n ∧ i = .int .i64 j ∧ y = .int .u64 ((rot j x).toNat : Int)) (fun _ i => n - (intOf i).toNat)
    case atStart => exact ⟨0, Nat.zero_le _, rfl, val_u64 (by rw [rot_toNat 0 x (by omega)]; simp; omega)⟩
    case round =>
      obtain ⟨j, hj, rfl, rfl⟩ := hrel
      have h1 := rot_next j x
      obtain ⟨y, h2⟩ : ∃ y, rot j x = y := ⟨_, rfl⟩
      rw [h2] at h1 ⊢
      have H1 := Lib.hid h1
      have H2 := Lib.hid h2
      clear h1 h2
      have hy := u32_lt y
      by_cases hlt : j < n
      · have hlt2 : (j : Int) < _ := Hn.out ▸ (Int.ofNat_lt.2 hlt)
        go_wp2
        go_round
        case rel => exact ⟨j + 1, by omega, by go_num, val_u64 (H1.out (by omega))⟩
        case measure => simp [intOf]; omega
      · have hlt2 : ¬ (j : Int) < _ := Hn.out ▸ (fun h => hlt (Int.ofNat_lt.1 h))
        go_wp2
        go_ret
        have e := Hn.out
        have e2 : j = n := by omega
        exact ⟨ret_int (by rw [← H2.out, e2]; first | rw [show n = 7 by omega] | rw [show n = 9 by omega] | rw [show n = 13 by omega] | rw [show n = 18 by omega]), rfl⟩
end Go.Proofs.YtamllmoakgnjoaaDoor
