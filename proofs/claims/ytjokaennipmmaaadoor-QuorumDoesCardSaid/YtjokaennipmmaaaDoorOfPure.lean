/- The digest of bytes as a plain function; no program is named here. -/
import Derived.Test.YtjokaennipmmaaaDoorB1
namespace Go.Proofs.YtjokaennipmmaaaDoor
open Go.RowKit
/-- The word of four bytes from a place on, the lowest one first. -/
def leW (b : List UInt8) (p : Nat) : UInt32 := UInt32.ofNat ((b.getD p 0).toNat + 256 * (b.getD (p + 1) 0).toNat + 65536 * (b.getD (p + 2) 0).toNat + 16777216 * (b.getD (p + 3) 0).toNat)
theorem leW_toNat (b : List UInt8) (p : Nat) : (leW b p).toNat = (b.getD p 0).toNat + 256 * (b.getD (p + 1) 0).toNat + 65536 * (b.getD (p + 2) 0).toNat + 16777216 * (b.getD (p + 3) 0).toNat := by
  unfold leW
  have h0 := (b.getD p 0).toNat_lt
  have h1 := (b.getD (p + 1) 0).toNat_lt
  have h2 := (b.getD (p + 2) 0).toNat_lt
  have h3 := (b.getD (p + 3) 0).toNat_lt
  rw [UInt32.toNat_ofNat', Nat.mod_eq_of_lt (by omega)]
def blkE (b : List UInt8) (p : Nat) : D := ⟨[leW b p, leW b (p + 4), leW b (p + 8), leW b (p + 12)], rfl⟩
/-- The state behind k blocks. -/
def absE (b : List UInt8) : Nat → List UInt32
  | 0 => [1, 0, 0, 0, 0, 0, 0, 0]
  | k + 1 => takeIn (absE b k) (blkE b (16 * k)).1
theorem absE_length (b : List UInt8) (k : Nat) : (absE b k).length = 8 := by
  induction k with
  | zero => rfl
  | succ k ih => simp [absE, takeIn_length, ih]
def le4 (n : Nat) : List UInt8 := [UInt8.ofNat n, UInt8.ofNat (n / 256), UInt8.ofNat (n / 65536), UInt8.ofNat (n / 16777216)]
/-- How many bytes 0 come behind the byte 128. -/
def zerosE (n : Nat) : Nat := (23 - n % 16) % 16
def frameE (b : List UInt8) : List UInt8 := b ++ [128] ++ List.replicate (zerosE b.length) 0
def padE (b : List UInt8) : List UInt8 := frameE b ++ le4 (b.length % 4294967296) ++ le4 (b.length / 4294967296)
theorem zerosE_spec (n : Nat) : (n + 1 + zerosE n) % 16 = 8 := by unfold zerosE; omega
theorem zerosE_lt (n : Nat) : zerosE n < 16 := by unfold zerosE; omega
theorem frameE_length (b : List UInt8) : (frameE b).length = b.length + 1 + zerosE b.length := by simp [frameE]; omega
theorem padE_length (b : List UInt8) : (padE b).length = b.length + 9 + zerosE b.length := by simp [padE, frameE_length, le4]; omega
theorem padE_mod (b : List UInt8) : (padE b).length % 16 = 0 := by
  rw [padE_length]; have := zerosE_spec b.length; omega
/-- The digest of bytes. -/
def ofE (b : List UInt8) : D := ⟨front (absE (padE b) ((padE b).length / 16)), rfl⟩
theorem leW_append (a b : List UInt8) (p : Nat) (h : p + 3 < a.length) : leW (a ++ b) p = leW a p := by
  have g : ∀ k, k ≤ 3 → (a ++ b).getD (p + k) 0 = a.getD (p + k) 0 := fun k hk => by
    rw [List.getD_eq_getElem?_getD, List.getD_eq_getElem?_getD, List.getElem?_append_left (by omega)]
  unfold leW
  rw [show (a ++ b).getD p 0 = a.getD p 0 from g 0 (by omega), g 1 (by omega), g 2 (by omega), g 3 (by omega)]
theorem leW_shift (a b : List UInt8) (p : Nat) : leW (a ++ b) (a.length + p) = leW b p := by
  have g : ∀ k, (a ++ b).getD (a.length + p + k) 0 = b.getD (p + k) 0 := fun k => by
    rw [List.getD_eq_getElem?_getD, List.getD_eq_getElem?_getD, List.getElem?_append_right (by omega), show a.length + p + k - a.length = p + k by omega]
  unfold leW
  rw [show (a ++ b).getD (a.length + p) 0 = b.getD p 0 from g 0, g 1, g 2, g 3]
theorem blkE_append (a b : List UInt8) (p : Nat) (h : p + 15 < a.length) : blkE (a ++ b) p = blkE a p := by
  unfold blkE
  simp only [leW_append a b p (by omega), leW_append a b (p + 4) (by omega), leW_append a b (p + 8) (by omega), leW_append a b (p + 12) (by omega)]
theorem blkE_shift (a b : List UInt8) (p : Nat) : blkE (a ++ b) (a.length + p) = blkE b p := by
  unfold blkE
  simp only [Nat.add_assoc, leW_shift a b]
theorem absE_append (a b : List UInt8) (k : Nat) (h : 16 * k ≤ a.length) : absE (a ++ b) k = absE a k := by
  induction k with
  | zero => rfl
  | succ k ih => simp only [absE]; rw [ih (by omega), blkE_append a b _ (by omega)]
/-- Words as bytes, four each, the lowest one first. -/
def bytesE (l : List UInt32) : List UInt8 := l.flatMap fun w => le4 w.toNat
theorem bytesE_nil : bytesE [] = [] := rfl
theorem bytesE_append (a b : List UInt32) : bytesE (a ++ b) = bytesE a ++ bytesE b := by simp [bytesE]
theorem bytesE_one (w : UInt32) : bytesE [w] = le4 w.toNat := by simp [bytesE]
theorem bytesE_length (l : List UInt32) : (bytesE l).length = 4 * l.length := by
  induction l with
  | nil => rfl
  | cons a l ih =>
    have : bytesE (a :: l) = le4 a.toNat ++ bytesE l := by simp [bytesE]
    rw [this, List.length_append, ih]
    simp [le4]; omega
theorem bytesE_take_succ (l : List UInt32) (j : Nat) (hj : j < l.length) : bytesE (l.take (j + 1)) = bytesE (l.take j) ++ le4 (l.getD j 0).toNat := by
  rw [List.take_succ_eq_append_getElem hj, bytesE_append, bytesE_one]
  simp [List.getD, hj]
theorem le4_words (lo hi : UInt32) : bytesE [lo, hi] = le4 lo.toNat ++ le4 hi.toNat := by simp [bytesE]
theorem u32_ofNat_toNat (n : Nat) : (UInt32.ofNat n).toNat = n % 4294967296 := by rw [UInt32.toNat_ofNat']
/-- Behind the whole blocks of the bytes themselves: what is left, and the frame. -/
def tailE (b : List UInt8) : List UInt8 := b.drop (b.length / 16 * 16) ++ [128] ++ List.replicate (zerosE b.length) 0 ++ bytesE [UInt32.ofNat b.length, UInt32.ofNat (b.length / 4294967296)]
theorem padE_split (b : List UInt8) (h : b.length < 18446744073709551616) : padE b = b.take (b.length / 16 * 16) ++ tailE b := by
  unfold padE tailE frameE
  rw [le4_words, u32_ofNat_toNat, u32_ofNat_toNat, Nat.mod_eq_of_lt (a := b.length / 4294967296) (by omega)]
  simp only [← List.append_assoc, List.take_append_drop]
theorem tailE_length (b : List UInt8) (h : b.length < 18446744073709551616) : (tailE b).length + b.length / 16 * 16 = (padE b).length := by
  rw [padE_split b h, List.length_append, List.length_take, Nat.min_eq_left (by omega)]; omega
theorem tailE_mod (b : List UInt8) (h : b.length < 18446744073709551616) : (tailE b).length % 16 = 0 := by
  have h1 := tailE_length b h
  have h2 := padE_mod b
  omega
theorem absE_own (b : List UInt8) (_h : b.length < 18446744073709551616) (k : Nat) (hk : k ≤ b.length / 16) : absE (padE b) k = absE b k := by
  unfold padE frameE
  rw [List.append_assoc, List.append_assoc, List.append_assoc, absE_append _ _ _ (by omega)]
theorem absE_tail (b : List UInt8) (h : b.length < 18446744073709551616) (j : Nat) : absE (padE b) (b.length / 16 + (j + 1)) = takeIn (absE (padE b) (b.length / 16 + j)) (blkE (tailE b) (16 * j)).1 := by
  rw [← Nat.add_assoc]
  simp only [absE]
  have hl : (b.take (b.length / 16 * 16)).length = b.length / 16 * 16 := by rw [List.length_take]; omega
  have := blkE_shift (b.take (b.length / 16 * 16)) (tailE b) (16 * j)
  rw [← padE_split b h, hl, show b.length / 16 * 16 + 16 * j = 16 * (b.length / 16 + j) by omega] at this
  rw [this]
theorem ofE_tail (b : List UInt8) (h : b.length < 18446744073709551616) : (ofE b).1 = front (absE (padE b) (b.length / 16 + (tailE b).length / 16)) := by
  have h1 := tailE_length b h
  have h2 := tailE_mod b h
  unfold ofE
  simp only
  rw [show (padE b).length / 16 = b.length / 16 + (tailE b).length / 16 by omega]
theorem leW_le4 (n : Nat) (r : List UInt8) (h : n < 4294967296) : leW (le4 n ++ r) 0 = UInt32.ofNat n := by
  rw [← UInt32.toNat_inj, leW_toNat, u32_ofNat_toNat]
  have e : ∀ k, (UInt8.ofNat k).toNat = k % 256 := fun k => UInt8.toNat_ofNat' ..
  simp only [le4, List.cons_append, List.getD_cons_zero, List.getD_cons_succ, Nat.zero_add, e]
  omega
def wordsOf (F : List UInt8) (q : Nat) : List UInt32 := (List.range q).map fun i => leW F (4 * i)
theorem padE_words (b : List UInt8) (q i : Nat) (hb : b.length < 18446744073709551616) (hq : (frameE b).length = 4 * q) (hi : i < q + 2) :
    (wordsOf (frameE b) q ++ [UInt32.ofNat b.length, UInt32.ofNat (b.length / 4294967296)]).getD i 0 = leW (padE b) (4 * i) := by
  have hp : padE b = frameE b ++ (le4 (b.length % 4294967296) ++ le4 (b.length / 4294967296)) := by unfold padE; rw [List.append_assoc]
  have hwl : (wordsOf (frameE b) q).length = q := by simp [wordsOf]
  by_cases h : i < q
  · rw [hp, leW_append _ _ _ (by omega), List.getD_eq_getElem?_getD, List.getElem?_append_left (by omega)]
    simp [wordsOf, h]
  · have hc : i = q ∨ i = q + 1 := by omega
    rcases hc with rfl | rfl
    · have := leW_shift (frameE b) (le4 (b.length % 4294967296) ++ le4 (b.length / 4294967296)) 0
      rw [hp, ← hq, ← Nat.add_zero (frameE b).length, this, leW_le4 _ _ (by omega), List.getD_eq_getElem?_getD, List.getElem?_append_right (by omega), hwl, Nat.sub_self]
      simp only [List.getElem?_cons_zero, Option.getD_some]
      rw [← UInt32.toNat_inj, u32_ofNat_toNat, u32_ofNat_toNat]; omega
    · have h1 := leW_shift (frameE b) (le4 (b.length % 4294967296) ++ le4 (b.length / 4294967296)) 4
      have h2 := leW_shift (le4 (b.length % 4294967296)) (le4 (b.length / 4294967296)) 0
      have h3 := leW_le4 (b.length / 4294967296) [] (by omega)
      rw [List.append_nil] at h3
      rw [hp, show 4 * (q + 1) = (frameE b).length + 4 by omega, h1, show (4 : Nat) = (le4 (b.length % 4294967296)).length + 0 from rfl, h2, h3, List.getD_eq_getElem?_getD, List.getElem?_append_right (by omega), hwl, show q + 1 - q = 1 by omega]
      simp
end Go.Proofs.YtjokaennipmmaaaDoor
