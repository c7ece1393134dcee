/- The digest's plain functions on words of 32 bits; no program is named here. -/
import Derived.Test.YtamllmoakgnjoaaDoorLib
import Derived.Laws.BitsAllLaws
import Derived.Laws.BitsLemmas
namespace Go.Proofs.YtamllmoakgnjoaaDoor
open Go.RowKit

/-- x turned to the left by k places. -/
def rot (k : Nat) (x : UInt32) : UInt32 := UInt32.ofNat ((x.toNat * 2 ^ k) % 4294967296 + x.toNat / 2 ^ (32 - k))
theorem rot_lt (k n : Nat) (hk : k ≤ 32) (hn : n < 4294967296) : (n * 2 ^ k) % 4294967296 + n / 2 ^ (32 - k) < 4294967296 := by
  have h0 : (4294967296 : Nat) = 2 ^ (32 - k) * 2 ^ k := by rw [← Nat.pow_add, Nat.sub_add_cancel hk]
  have h2 : 0 < 2 ^ (32 - k) := Nat.two_pow_pos _
  have h3 : 0 < 2 ^ k := Nat.two_pow_pos _
  have h1 : (n * 2 ^ k) % 4294967296 = (n % 2 ^ (32 - k)) * 2 ^ k := by rw [h0, Nat.mul_mod_mul_right]
  have h4 : n / 2 ^ (32 - k) < 2 ^ k := by rw [Nat.div_lt_iff_lt_mul h2, Nat.mul_comm, ← h0]; exact hn
  have h5 : n % 2 ^ (32 - k) + 1 ≤ 2 ^ (32 - k) := Nat.mod_lt _ h2
  have h6 := Nat.mul_le_mul_right (2 ^ k) h5
  rw [← h0, Nat.add_mul, Nat.one_mul] at h6
  rw [h1]; omega
theorem rot_toNat (k : Nat) (x : UInt32) (hk : k ≤ 32) : (rot k x).toNat = (x.toNat * 2 ^ k) % 4294967296 + x.toNat / 2 ^ (32 - k) := by
  have := rot_lt k x.toNat hk x.toNat_lt
  unfold rot
  simp only [UInt32.toNat_ofNat']
  exact Nat.mod_eq_of_lt this
theorem rot_or (k n : Nat) (hk : k ≤ 32) (hn : n < 4294967296) : ((n * 2 ^ k) % 4294967296) ||| (n / 2 ^ (32 - k)) = (n * 2 ^ k) % 4294967296 + n / 2 ^ (32 - k) := by
  have h0 : (4294967296 : Nat) = 2 ^ (32 - k) * 2 ^ k := by rw [← Nat.pow_add, Nat.sub_add_cancel hk]
  have h1 : (n * 2 ^ k) % 4294967296 = (n % 2 ^ (32 - k)) * 2 ^ k := by rw [h0, Nat.mul_mod_mul_right]
  have h4 : n / 2 ^ (32 - k) < 2 ^ k := by rw [Nat.div_lt_iff_lt_mul (Nat.two_pow_pos _), Nat.mul_comm, ← h0]; exact hn
  rw [h1, ← Nat.shiftLeft_eq, ← Nat.shiftLeft_add_eq_or_of_lt h4]
theorem rot_step (k n : Nat) (hk : k < 32) (hn : n < 4294967296) : 2 * ((n * 2 ^ k) % 4294967296 + n / 2 ^ (32 - k)) % 4294967296 + ((n * 2 ^ k) % 4294967296 + n / 2 ^ (32 - k)) / 2147483648 = (n * 2 ^ (k + 1)) % 4294967296 + n / 2 ^ (32 - (k + 1)) := by
  have e : 32 - k = (32 - (k + 1)) + 1 := by omega
  have hp : 2 ^ (32 - k) = 2 * 2 ^ (32 - (k + 1)) := by rw [e, Nat.pow_succ, Nat.mul_comm]
  have h0 : (4294967296 : Nat) = (2 * 2 ^ (32 - (k + 1))) * 2 ^ k := by rw [← hp, ← Nat.pow_add, Nat.sub_add_cancel (by omega)]
  have h00 : (2147483648 : Nat) = 2 ^ (32 - (k + 1)) * 2 ^ k := by rw [← Nat.pow_add]; rw [show 32 - (k + 1) + k = 31 from by omega]
  rw [hp, Nat.pow_succ]
  generalize hA : 2 ^ (32 - (k + 1)) = A at *
  generalize hB : 2 ^ k = B at *
  have hA0 : 0 < A := by rw [← hA]; exact Nat.two_pow_pos _
  have hB0 : 0 < B := by rw [← hB]; exact Nat.two_pow_pos _
  -- n = (2A) q + r, r = A s + t
  have m1 : (n * B) % 4294967296 = (n % (2 * A)) * B := by rw [h0, Nat.mul_mod_mul_right]
  have m2 : (n * (B * 2)) % 4294967296 = (n % A) * (B * 2) := by
    rw [show (4294967296 : Nat) = A * (B * 2) from by rw [h0, Nat.mul_comm B 2, ← Nat.mul_assoc, Nat.mul_comm A 2], Nat.mul_mod_mul_right]
  have d1 : n / A = 2 * (n / (2 * A)) + (n % (2 * A)) / A := by
    have a1 := Nat.div_add_mod n (2 * A)
    have a2 : n = A * (2 * (n / (2 * A))) + n % (2 * A) := by
      conv => lhs; rw [← a1]
      rw [Nat.mul_comm 2 A, Nat.mul_assoc]
    conv => lhs; rw [a2, Nat.mul_add_div hA0]
  have d2 : n % A = n % (2 * A) % A := by rw [Nat.mod_mul_left_mod]
  have r1 : n % (2 * A) < 2 * A := Nat.mod_lt _ (by omega)
  have q1 : n / (2 * A) < B := by rw [Nat.div_lt_iff_lt_mul (by omega), Nat.mul_comm, ← h0]; exact hn
  rw [m1, m2, d1, d2]
  generalize n % (2 * A) = r at *
  generalize n / (2 * A) = q at *
  -- 2 (r B + q) mod (2 A B) + (r B + q) / (A B) = (r mod A) (2 B) + 2 q + r / A
  have hs : r / A ≤ 1 := by
    have : r / A < 2 := by rw [Nat.div_lt_iff_lt_mul hA0]; exact r1
    omega
  have hr := Nat.div_add_mod r A
  have ht : r % A < A := Nat.mod_lt _ hA0
  generalize r / A = s at *
  generalize r % A = t at *
  have ht' : (t + 1) * B ≤ A * B := Nat.mul_le_mul_right B ht
  rw [Nat.add_mul, Nat.one_mul] at ht'
  have h4 : (4294967296 : Nat) = 2 * (A * B) := by rw [h0, Nat.mul_assoc]
  rw [h4, h00]
  have hrB : r * B = s * (A * B) + t * B := by rw [← hr, Nat.add_mul, Nat.mul_comm A s, Nat.mul_assoc]
  rw [hrB, show t * (B * 2) = 2 * (t * B) from by rw [← Nat.mul_assoc, Nat.mul_comm]]
  generalize A * B = M at *
  generalize t * B = T at *
  have hs2 : s = 0 ∨ s = 1 := by omega
  rcases hs2 with rfl | rfl
  · rw [Nat.mod_eq_of_lt (by omega), Nat.div_eq_of_lt (by omega)]; omega
  · rw [show 2 * (1 * M + T + q) = 2 * M + 2 * (T + q) from by omega, Nat.add_mod_left, Nat.mod_eq_of_lt (by omega), show 1 * M + T + q = M + (T + q) from by omega, Nat.add_div_left _ (by omega), Nat.div_eq_of_lt (by omega)]; omega

/-- The places of the four pairs. -/
def placeN (j : Nat) : Nat := [7, 9, 13, 18].getD j 0
/-- One pair's step. -/
def innerStep (s : List UInt32) (j : Nat) : List UInt32 :=
  let s1 := s.set j (s.getD j 0 + s.getD (j + 4) 0)
  s1.set (j + 4) (rot (placeN j) (s1.getD (j + 4) 0 ^^^ s1.getD j 0))
def inner (s : List UInt32) : Nat → List UInt32
  | 0 => s
  | j + 1 => innerStep (inner s j) j
def shuf (old s : List UInt32) : Nat → List UInt32
  | 0 => s
  | j + 1 => (shuf old s j).set j (old.getD ((j + 3) % 8) 0)
def mixRound (s : List UInt32) (r : Nat) : List UInt32 :=
  let b := inner (s.set 0 (s.getD 0 0 + 2654435769 * (UInt32.ofNat r + 1))) 4
  shuf b b 8
def mixTo (s : List UInt32) : Nat → List UInt32
  | 0 => s
  | r + 1 => mixRound (mixTo s r) r
def mix (s : List UInt32) : List UInt32 := mixTo s 8
theorem inner_length (s : List UInt32) (j : Nat) : (inner s j).length = s.length := by
  induction j with
  | zero => rfl
  | succ j ih => simp [inner, innerStep, ih]
theorem shuf_length (o s : List UInt32) (j : Nat) : (shuf o s j).length = s.length := by
  induction j with
  | zero => rfl
  | succ j ih => simp [shuf, ih]
theorem mixTo_length (s : List UInt32) (r : Nat) : (mixTo s r).length = s.length := by
  induction r with
  | zero => rfl
  | succ r ih => simp [mixTo, mixRound, shuf_length, inner_length, ih]
theorem list8 {α : Type} (l : List α) (h : l.length = 8) : ∃ a b c d e f g k, l = [a, b, c, d, e, f, g, k] := by
  match l, h with
  | [a, b, c, d, e, f, g, k], _ => exact ⟨a, b, c, d, e, f, g, k, rfl⟩
theorem shuf_8 (o s t : List UInt32) (hs : s.length = 8) (ht : t.length = 8) : shuf o s 8 = shuf o t 8 := by
  obtain ⟨a, b, c, d, e, f, g, k, rfl⟩ := list8 s hs
  obtain ⟨a', b', c', d', e', f', g', k', rfl⟩ := list8 t ht
  simp [shuf]
/-- A block of four words taken in. -/
def xorIn (s b : List UInt32) : Nat → List UInt32
  | 0 => s
  | j + 1 => (xorIn s b j).set j ((xorIn s b j).getD j 0 ^^^ b.getD j 0)
theorem xorIn_length (s b : List UInt32) (j : Nat) : (xorIn s b j).length = s.length := by
  induction j with
  | zero => rfl
  | succ j ih => simp [xorIn, ih]
def takeIn (s b : List UInt32) : List UInt32 := mix (xorIn s b 4)
theorem takeIn_length (s b : List UInt32) : (takeIn s b).length = s.length := by simp [takeIn, mix, mixTo_length, xorIn_length]

def front (s : List UInt32) : List UInt32 := [s.getD 0 0, s.getD 1 0, s.getD 2 0, s.getD 3 0]
def pairD (a b : List UInt32) : List UInt32 := front (takeIn (takeIn [2, 0, 0, 0, 0, 0, 0, 0] a) b)
theorem pairD_length (a b : List UInt32) : (pairD a b).length = 4 := rfl
theorem u32_xor (x y : UInt32) : bits .xor .u32 (x.toNat : Int) (y.toNat : Int) = ((x ^^^ y).toNat : Int) := by
  have hx := x.toNat_lt; have hy := y.toNat_lt
  have hz : x.toNat ^^^ y.toNat < 2 ^ 32 := Nat.xor_lt_two_pow hx hy
  show IntKind.u32.wrap ((BitVec.ofInt 32 (x.toNat : Int) ^^^ BitVec.ofInt 32 (y.toNat : Int)).toNat : Int) = _
  rw [BitVec.toNat_xor, BitVec.ofInt_natCast, BitVec.ofInt_natCast, BitVec.toNat_ofNat, BitVec.toNat_ofNat, Nat.mod_eq_of_lt hx, Nat.mod_eq_of_lt hy, UInt32.toNat_xor]
  show (_ : Int) % 4294967296 = _
  omega
theorem u32_or_rot (k : Nat) (x : UInt32) (hk : k ≤ 32) (a b : Int) (ha : a = ((x.toNat * 2 ^ k) % 4294967296 : Nat)) (hb : b = ((x.toNat / 2 ^ (32 - k) : Nat) : Int)) : bits .or .u32 a b = ((rot k x).toNat : Int) := by
  subst ha hb
  have hx := x.toNat_lt
  have h1 : x.toNat * 2 ^ k % 4294967296 < 2 ^ 32 := Nat.mod_lt _ (by omega)
  have h2 : x.toNat / 2 ^ (32 - k) < 2 ^ 32 := Nat.lt_of_le_of_lt (Nat.div_le_self _ _) hx
  have h3 := rot_lt k x.toNat hk hx
  show IntKind.u32.wrap ((BitVec.ofInt 32 _ ||| BitVec.ofInt 32 _).toNat : Int) = _
  rw [BitVec.toNat_or, BitVec.ofInt_natCast, BitVec.ofInt_natCast, BitVec.toNat_ofNat, BitVec.toNat_ofNat, Nat.mod_eq_of_lt h1, Nat.mod_eq_of_lt h2, rot_or k _ hk hx, rot_toNat k x hk]
  exact Int.emod_eq_of_lt (Int.natCast_nonneg _) (Int.ofNat_lt.2 h3)
theorem u32_mul_step (k : Nat) (hk : k < 8) : IntKind.u32.wrap (2654435769 * ((k : Int) + 1)) = ((2654435769 * (UInt32.ofNat k + 1) : UInt32).toNat : Int) := by
  have h : k = 0 ∨ k = 1 ∨ k = 2 ∨ k = 3 ∨ k = 4 ∨ k = 5 ∨ k = 6 ∨ k = 7 := by omega
  rcases h with rfl | rfl | rfl | rfl | rfl | rfl | rfl | rfl <;> rfl
end Go.Proofs.YtamllmoakgnjoaaDoor
