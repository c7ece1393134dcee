/- The texts of the document: a byte's two signs, a digest's text. -/
import Derived.Test.YtjokaennipmmaaaDoorGen
import Derived.Test.YtjokaennipmmaaaDoorSteps
import Derived.Test.YtjokaennipmmaaaDoorMore
namespace Go.Proofs.YtjokaennipmmaaaDoor
open Go.RowKit
def sgn (n : Nat) : UInt8 := UInt8.ofNat (if n < 10 then 48 + n else 87 + n)
theorem sgn_toNat : ∀ n, n < 16 → (sgn n).toNat = if n < 10 then 48 + n else 87 + n := by decide
def hexE (l : List UInt8) : List UInt8 := l.flatMap fun b => [sgn (b.toNat / 16), sgn (b.toNat % 16)]
theorem hexE_length (l : List UInt8) : (hexE l).length = 2 * l.length := by
  induction l with
  | nil => rfl
  | cons b l ih => show (_ :: _ :: hexE l).length = _; simp [ih]; omega
theorem hexE_append (a b : List UInt8) : hexE (a ++ b) = hexE a ++ hexE b := by simp [hexE]
theorem hexE_succ (l : List UInt8) (j : Nat) (hj : j < l.length) : hexE (l.take (j + 1)) = hexE (l.take j) ++ [sgn ((l.getD j 0).toNat / 16), sgn ((l.getD j 0).toNat % 16)] := by
  rw [List.take_succ_eq_append_getElem hj, hexE_append]
  simp [hexE, List.getD_eq_getElem?_getD, hj]
def bytes4 (w : UInt32) : List UInt8 := [UInt8.ofNat (w.toNat / 16777216), UInt8.ofNat (w.toNat / 65536), UInt8.ofNat (w.toNat / 256), UInt8.ofNat w.toNat]
def rawTo (d : D) : Nat → List UInt8
  | 0 => []
  | n + 1 => rawTo d n ++ bytes4 (d.1.getD n 0)
theorem rawTo_length (d : D) (n : Nat) : (rawTo d n).length = 4 * n := by
  induction n with
  | zero => rfl
  | succ n ih => simp [rawTo, ih, bytes4]; omega
theorem hex_bytes4 (w : UInt32) : hexE (bytes4 w) = [digN w 0, digN w 1, digN w 2, digN w 3, digN w 4, digN w 5, digN w 6, digN w 7].map sgn := by
  have h := w.toNat_lt
  have hb : ∀ n, (UInt8.ofNat n).toNat = n % 256 := fun n => UInt8.toNat_ofNat' ..
  show [sgn _, sgn _, sgn _, sgn _, sgn _, sgn _, sgn _, sgn _] = [sgn _, sgn _, sgn _, sgn _, sgn _, sgn _, sgn _, sgn _]
  have e : ∀ {a b : Nat}, a = b → sgn a = sgn b := fun h => by rw [h]
  rw [hb, hb, hb, hb]
  unfold digN
  simp only [Nat.sub_zero, Nat.reduceSub, Nat.reducePow, Nat.pow_zero, Nat.div_one]
  congr 1
  · exact e (by omega)
  congr 1
  · exact e (by omega)
  congr 1
  · exact e (by omega)
  congr 1
  · exact e (by omega)
  congr 1
  · exact e (by omega)
  congr 1
  · exact e (by omega)
  congr 1
  · exact e (by omega)
  congr 1
  · exact e (by omega)
theorem digsTo_8 (d : D) (n : Nat) : digsTo d (8 * (n + 1)) = digsTo d (8 * n) ++ [digN (d.1.getD n 0) 0, digN (d.1.getD n 0) 1, digN (d.1.getD n 0) 2, digN (d.1.getD n 0) 3, digN (d.1.getD n 0) 4, digN (d.1.getD n 0) 5, digN (d.1.getD n 0) 6, digN (d.1.getD n 0) 7] := by
  show digsTo d (8 * n + 1 + 1 + 1 + 1 + 1 + 1 + 1 + 1) = _
  have h : ∀ k, k < 8 → digsTo d (8 * n + k + 1) = digsTo d (8 * n + k) ++ [digN (d.1.getD n 0) k] := fun k hk => by
    show digsTo d (8 * n + k) ++ [digN (d.1.getD ((8 * n + k) / 8) 0) ((8 * n + k) % 8)] = _
    rw [show (8 * n + k) / 8 = n by omega, show (8 * n + k) % 8 = k by omega]
  rw [h 7 (by omega), h 6 (by omega), h 5 (by omega), h 4 (by omega), h 3 (by omega), h 2 (by omega), h 1 (by omega), h 0 (by omega)]
  simp
theorem hex_raw (d : D) (n : Nat) : hexE (rawTo d n) = (digsTo d (8 * n)).map sgn := by
  induction n with
  | zero => rfl
  | succ n ih => rw [digsTo_8, List.map_append, ← ih, ← hex_bytes4, ← hexE_append]; rfl
/-- The document's text of a digest. -/
def txtE (d : D) : List UInt8 := (digsTo d 32).map sgn
theorem txtE_length (d : D) : (txtE d).length = 32 := by simp [txtE, digsTo_length]
theorem txtE_get (d : D) (i : Nat) (hi : i < 32) : (txtE d).getD i 0 = sgn (digN (d.1.getD (i / 8) 0) (i % 8)) := by
  have h := digsTo_length d 32
  have : (digsTo d 32)[i]? = some (digN (d.1.getD (i / 8) 0) (i % 8)) := by
    have : ∀ q, i < q → (digsTo d q)[i]? = some (digN (d.1.getD (i / 8) 0) (i % 8)) := by
      intro q hq
      induction q with
      | zero => omega
      | succ q ih =>
        show (digsTo d q ++ [digN (d.1.getD (q / 8) 0) (q % 8)])[i]? = _
        rcases Nat.lt_or_ge i q with h | h
        · rw [List.getElem?_append_left (by rw [digsTo_length]; exact h), ih h]
        · have : i = q := by omega
          subst this
          rw [List.getElem?_append_right (by rw [digsTo_length]; omega), digsTo_length, Nat.sub_self]
          rfl
    exact this 32 hi
  simp [txtE, List.getD_eq_getElem?_getD, this]
set_option maxHeartbeats 1000000 in
theorem rsign_c (n : Nat) (hn : n < 16) (w : World) : Calls Tryd.prog 68 #[.int .i64 (n : Int)] w fun e w' => e = .returned (.int .u8 ((sgn n).toNat : Int)) ∧ Grow w w' := by
  have hs := Lib.hid (sgn_toNat n hn)
  by_cases h : n < 10
  · have h1 : decide ((n : Int) < 10) = true := by simp; omega
    go_enter Tryd.func68, Tryd.ntmps68
    go_wp2_with fail
    go_ret
    refine ⟨ret_int ?_, Grow.refl _⟩
    rw [hs.out, if_pos h]
    go_num
  · have h1 : decide ((n : Int) < 10) = false := by simp; omega
    go_enter Tryd.func68, Tryd.ntmps68
    go_wp2_with fail
    go_ret
    refine ⟨ret_int ?_, Grow.refl _⟩
    rw [hs.out, if_neg h]
    go_num
end Go.Proofs.YtjokaennipmmaaaDoor
