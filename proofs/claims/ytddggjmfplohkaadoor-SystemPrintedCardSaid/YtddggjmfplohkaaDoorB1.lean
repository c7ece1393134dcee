import Derived.WalkKit
import Derived.WalkSpells
import Derived.WalkLawsBesides
import Derived.Deep.QuietTactic
import Derived.BigQuiet
import Derived.StillTailTactics
import Derived.Deep.RegionHeld3
import Derived.Lib.Hide
import Derived.Deep.DeepFit
import Derived.Deep.Cut
import Derived.Deep.CutRange
import Derived.Deep.DeepCutAuto
import Derived.Deep.CutBlock
import Derived.Deep.MidRow
import Derived.Deep.WholeRow
import Derived.Laws.BitsAllLaws
import Derived.Laws.BitsLemmas
import Derived.Test.YtddggjmfplohkaaDoorRows
import Derived.StillTail
import Derived.Deep.Quiet
import Derived.Laws.StructEq
import Derived.Laws.AppendOwn
import Derived.Laws.MakeOwn
/- Lemmas of the prover's own on worlds, blocks and slices; no program is named here. -/
namespace Go.Proofs.YtddggjmfplohkaaDoor
open Go.RowKit

/-- From w to w' the heap has only grown: every block of w is as it was. -/
abbrev Grow (w w' : World) : Prop := Below w.heap.size w w'

theorem Grow.refl (w : World) : Grow w w := Below.refl _ _
theorem Grow.tr {a b c : World} (h : Grow a b) (k : Grow b c) : Grow a c := Below.trans h (Below.mono k h.size)
theorem Grow.drew {a b : World} (h : Grow a b) : Grow a b.drew := Below.drew h
theorem below_tr {n : Nat} {a b c : World} (h : Below n a b) (k : Grow b c) (hn : n ≤ b.heap.size) : Below n a c := Below.trans h (Below.mono k hn)
theorem below_drewN {B : Nat} {a w : World} (h : Below B a w) (n : Nat) : Below B a (w.drewN n) := ⟨h.os, h.tape, h.output, h.size, h.block⟩

theorem _root_.Go.RowKit.Below.setRow {B : Nat} {a w : World} (h : Below B a w) {g : Nat} (hg : B ≤ g) (cs : Array Value) : Below B a (w.setRow g cs) :=
  h.trans ⟨rfl, rfl, rfl, by simp, fun k hk => setRow_other w g k cs (by omega)⟩
/-- Block g is just the cells cs of element type t, none frozen. -/
def Blk (w : World) (g : Nat) (t : TypeId) (cs : Array Value) : Prop := w.heap[g]? = some (.cells cs t (0, 0))

section
variable {w w' : World} {g : Nat} {t : TypeId} {cs : Array Value}
theorem Blk.lt (h : Blk w g t cs) : g < w.heap.size := by
  rcases Nat.lt_or_ge g w.heap.size with hlt | hge
  · exact hlt
  · unfold Blk at h; rw [Array.getElem?_eq_none hge] at h; cases h
theorem Blk.cell (h : Blk w g t cs) (i : Nat) : w.cell? ⟨g, i, none⟩ = cs[i]? := cell_of_row w g i cs t (0, 0) h
theorem Blk.frozen (h : Blk w g t cs) (i : Nat) : w.frozen? ⟨g, i, none⟩ = false := by
  unfold Blk at h
  simp [World.frozen?, h]
theorem Blk.new (w : World) (t : TypeId) (cs : Array Value) : Blk (w.alloc (.cells cs t)) w.heap.size t cs := heap_alloc_new w _
theorem Blk.drew (h : Blk w g t cs) : Blk w.drew g t cs := h
theorem Blk.drewN (h : Blk w g t cs) (n : Nat) : Blk (w.drewN n) g t cs := h
theorem Blk.new1 (w : World) (t : TypeId) (cs : Array Value) (o : Obj) : Blk ((w.alloc o).alloc (.cells cs t)) (w.heap.size + 1) t cs := by
  have := Blk.new (w.alloc o) t cs; rwa [World.size_alloc] at this
theorem Blk.new2 (w : World) (t : TypeId) (cs : Array Value) (o o' : Obj) : Blk (((w.alloc o).alloc o').alloc (.cells cs t)) (w.heap.size + 1 + 1) t cs := by
  have := Blk.new ((w.alloc o).alloc o') t cs; rwa [World.size_alloc, World.size_alloc] at this
theorem Blk.alloc (h : Blk w g t cs) (o : Obj) : Blk (w.alloc o) g t cs := (Below.heap_alloc w o g h.lt).trans h
theorem Blk.set_ (h : Blk w g t cs) (i : Nat) (u : Value) : Blk (w.setCell ⟨g, i, none⟩ u) g t (cs.setIfInBounds i u) := by
  unfold Blk at h ⊢
  simp [World.setCell, Array.getElem?_modify, h]
theorem Blk.far (h : Blk w g t cs) {p : Addr} (hp : g ≠ p.block) (u : Value) : Blk (w.setCell p u) g t cs := (Below.heap_setCell w p u g hp).trans h
theorem Blk.setRow (h : Blk w g t cs) (c' : Array Value) : Blk (w.setRow g c') g t c' := setRow_heap w g cs c' t _ h
theorem Blk.setRow_far (h : Blk w g t cs) {g' : Nat} (hp : g ≠ g') (c' : Array Value) : Blk (w.setRow g' c') g t cs := (setRow_other w g' g c' hp).trans h
theorem Blk.below {B : Nat} (h : Blk w g t cs) (hb : Below B w w') (hg : g < B) : Blk w' g t cs := (hb.block g hg).trans h
theorem Blk.grow (h : Blk w g t cs) (hb : Grow w w') : Blk w' g t cs := (hb.block g h.lt).trans h
end

/-- A word of 32 bits as the model's value. -/
abbrev u (x : UInt32) : Value := .int .u32 (x.toNat : Int)
def us (l : List UInt32) : Array Value := (l.map u).toArray
theorem us_get (l : List UInt32) (i : Nat) (h : i < l.length) : (us l)[i]? = some (.int .u32 ((l.getD i 0).toNat : Int)) := by
  simp [us, List.getElem?_eq_getElem h, List.getD]
theorem us_set (l : List UInt32) (i : Nat) (x : UInt32) : (us l).setIfInBounds i (.int .u32 (x.toNat : Int)) = us (l.set i x) := by
  simp [us, List.map_set]
theorem ret_int {k : IntKind} {a b : Int} (h : a = b) : Ending.returned (.int k a) = .returned (.int k b) := by rw [h]
theorem ret_val {a b : Value} (h : a = b) : Ending.returned a = .returned b := by rw [h]
theorem val_int {k : IntKind} {a b : Int} (h : a = b) : Value.int k a = .int k b := by rw [h]
theorem u32_lt (x : UInt32) : (x.toNat : Int) < 4294967296 := by have := x.toNat_lt; omega
theorem u32_add (x y : UInt32) : IntKind.u32.wrap ((x.toNat : Int) + (y.toNat : Int)) = ((x + y).toNat : Int) := by
  rw [UInt32.toNat_add]; show ((x.toNat : Int) + (y.toNat : Int)) % 4294967296 = _; omega

theorem run_index_us {P : Program} {t e : TypeId} {n : Nat} (hu : P.underlying t = some (.array n e)) (hs : (P.info? e).map (·.size) = some 1) (ha : ∀ w, (isAgg e).run P w = .ok false w) (b : List UInt32) (hn : b.length = n) (j : Nat) (hj : j < n) (w : World) :
    (Instr.index t (.agg (us b)) (.int .i64 (j : Int))).run P w = .ok (.int .u32 ((b.getD j 0).toNat : Int)) w := by
  have hg := us_get b j (by omega)
  have h0 : (0 : Int) ≤ j ∧ (j : Int) < n := by omega
  cases hq : P.info? e with
  | none => simp [hq] at hs
  | some i =>
    have hi : i.size = 1 := by simpa [hq] using hs
    simp [Instr.index, run_underlying hu, asIntOf, h0, sizeOf, typeInfo, hq, hi, part, ha, hg]
    intro h; omega

end Go.Proofs.YtddggjmfplohkaaDoor
/- The digest's plain functions on words of 32 bits; no program is named here. -/
namespace Go.Proofs.YtddggjmfplohkaaDoor
open Go.RowKit

/-- x turned to the left by k places. -/
def rot (k : Nat) (x : UInt32) : UInt32 := UInt32.ofNat ((x.toNat * 2 ^ k) % 4294967296 + x.toNat / 2 ^ (32 - k))
theorem rot_lt (k n : Nat) (hk : k ≤ 32) (hn : n < 4294967296) : (n * 2 ^ k) % 4294967296 + n / 2 ^ (32 - k) < 4294967296 := by
  have h0 : (4294967296 : Nat) = 2 ^ (32 - k) * 2 ^ k := by rw [← Nat.pow_add, Nat.sub_add_cancel hk]
  have h2 : 0 < 2 ^ (32 - k) := Nat.two_pow_pos _
  have h3 : 0 < 2 ^ k := Nat.two_pow_pos _
  have h1 : (n * 2 ^ k) % 4294967296 = (n % 2 ^ (32 - k)) * 2 ^ k := by rw [h0, Nat.mul_mod_mul_right]
  have h4 : n / 2 ^ (32 - k) < 2 ^ k := by rw [Nat.div_lt_iff_lt_mul h2, Nat.mul_comm, ← h0]; exact hn
  have h5 : n % 2 ^ (32 - k) + 1 ≤ 2 ^ (32 - k) := Nat.mod_lt _ h2
  have h6 := Nat.mul_le_mul_right (2 ^ k) h5
  rw [← h0, Nat.add_mul, Nat.one_mul] at h6
  rw [h1]; omega
theorem rot_toNat (k : Nat) (x : UInt32) (hk : k ≤ 32) : (rot k x).toNat = (x.toNat * 2 ^ k) % 4294967296 + x.toNat / 2 ^ (32 - k) := by
  have := rot_lt k x.toNat hk x.toNat_lt
  unfold rot
  simp only [UInt32.toNat_ofNat']
  exact Nat.mod_eq_of_lt this
theorem rot_or (k n : Nat) (hk : k ≤ 32) (hn : n < 4294967296) : ((n * 2 ^ k) % 4294967296) ||| (n / 2 ^ (32 - k)) = (n * 2 ^ k) % 4294967296 + n / 2 ^ (32 - k) := by
  have h0 : (4294967296 : Nat) = 2 ^ (32 - k) * 2 ^ k := by rw [← Nat.pow_add, Nat.sub_add_cancel hk]
  have h1 : (n * 2 ^ k) % 4294967296 = (n % 2 ^ (32 - k)) * 2 ^ k := by rw [h0, Nat.mul_mod_mul_right]
  have h4 : n / 2 ^ (32 - k) < 2 ^ k := by rw [Nat.div_lt_iff_lt_mul (Nat.two_pow_pos _), Nat.mul_comm, ← h0]; exact hn
  rw [h1, ← Nat.shiftLeft_eq, ← Nat.shiftLeft_add_eq_or_of_lt h4]
theorem rot_step (k n : Nat) (hk : k < 32) (hn : n < 4294967296) : 2 * ((n * 2 ^ k) % 4294967296 + n / 2 ^ (32 - k)) % 4294967296 + ((n * 2 ^ k) % 4294967296 + n / 2 ^ (32 - k)) / 2147483648 = (n * 2 ^ (k + 1)) % 4294967296 + n / 2 ^ (32 - (k + 1)) := by
  have e : 32 - k = (32 - (k + 1)) + 1 := by omega
  have hp : 2 ^ (32 - k) = 2 * 2 ^ (32 - (k + 1)) := by rw [e, Nat.pow_succ, Nat.mul_comm]
  have h0 : (4294967296 : Nat) = (2 * 2 ^ (32 - (k + 1))) * 2 ^ k := by rw [← hp, ← Nat.pow_add, Nat.sub_add_cancel (by omega)]
  have h00 : (2147483648 : Nat) = 2 ^ (32 - (k + 1)) * 2 ^ k := by rw [← Nat.pow_add]; rw [show 32 - (k + 1) + k = 31 from by omega]
  rw [hp, Nat.pow_succ]
  generalize hA : 2 ^ (32 - (k + 1)) = A at *
  generalize hB : 2 ^ k = B at *
  have hA0 : 0 < A := by rw [← hA]; exact Nat.two_pow_pos _
  have hB0 : 0 < B := by rw [← hB]; exact Nat.two_pow_pos _
  -- n = (2A) q + r, r = A s + t
  have m1 : (n * B) % 4294967296 = (n % (2 * A)) * B := by rw [h0, Nat.mul_mod_mul_right]
  have m2 : (n * (B * 2)) % 4294967296 = (n % A) * (B * 2) := by
    rw [show (4294967296 : Nat) = A * (B * 2) from by rw [h0, Nat.mul_comm B 2, ← Nat.mul_assoc, Nat.mul_comm A 2], Nat.mul_mod_mul_right]
  have d1 : n / A = 2 * (n / (2 * A)) + (n % (2 * A)) / A := by
    have a1 := Nat.div_add_mod n (2 * A)
    have a2 : n = A * (2 * (n / (2 * A))) + n % (2 * A) := by
      conv => lhs; rw [← a1]
      rw [Nat.mul_comm 2 A, Nat.mul_assoc]
    conv => lhs; rw [a2, Nat.mul_add_div hA0]
  have d2 : n % A = n % (2 * A) % A := by rw [Nat.mod_mul_left_mod]
  have r1 : n % (2 * A) < 2 * A := Nat.mod_lt _ (by omega)
  have q1 : n / (2 * A) < B := by rw [Nat.div_lt_iff_lt_mul (by omega), Nat.mul_comm, ← h0]; exact hn
  rw [m1, m2, d1, d2]
  generalize n % (2 * A) = r at *
  generalize n / (2 * A) = q at *
  -- 2 (r B + q) mod (2 A B) + (r B + q) / (A B) = (r mod A) (2 B) + 2 q + r / A
  have hs : r / A ≤ 1 := by
    have : r / A < 2 := by rw [Nat.div_lt_iff_lt_mul hA0]; exact r1
    omega
  have hr := Nat.div_add_mod r A
  have ht : r % A < A := Nat.mod_lt _ hA0
  generalize r / A = s at *
  generalize r % A = t at *
  have ht' : (t + 1) * B ≤ A * B := Nat.mul_le_mul_right B ht
  rw [Nat.add_mul, Nat.one_mul] at ht'
  have h4 : (4294967296 : Nat) = 2 * (A * B) := by rw [h0, Nat.mul_assoc]
  rw [h4, h00]
  have hrB : r * B = s * (A * B) + t * B := by rw [← hr, Nat.add_mul, Nat.mul_comm A s, Nat.mul_assoc]
  rw [hrB, show t * (B * 2) = 2 * (t * B) from by rw [← Nat.mul_assoc, Nat.mul_comm]]
  generalize A * B = M at *
  generalize t * B = T at *
  have hs2 : s = 0 ∨ s = 1 := by omega
  rcases hs2 with rfl | rfl
  · rw [Nat.mod_eq_of_lt (by omega), Nat.div_eq_of_lt (by omega)]; omega
  · rw [show 2 * (1 * M + T + q) = 2 * M + 2 * (T + q) from by omega, Nat.add_mod_left, Nat.mod_eq_of_lt (by omega), show 1 * M + T + q = M + (T + q) from by omega, Nat.add_div_left _ (by omega), Nat.div_eq_of_lt (by omega)]; omega

/-- The places of the four pairs. -/
def placeN (j : Nat) : Nat := [7, 9, 13, 18].getD j 0
/-- One pair's step. -/
def innerStep (s : List UInt32) (j : Nat) : List UInt32 :=
  let s1 := s.set j (s.getD j 0 + s.getD (j + 4) 0)
  s1.set (j + 4) (rot (placeN j) (s1.getD (j + 4) 0 ^^^ s1.getD j 0))
def inner (s : List UInt32) : Nat → List UInt32
  | 0 => s
  | j + 1 => innerStep (inner s j) j
def shuf (old s : List UInt32) : Nat → List UInt32
  | 0 => s
  | j + 1 => (shuf old s j).set j (old.getD ((j + 3) % 8) 0)
def mixRound (s : List UInt32) (r : Nat) : List UInt32 :=
  let b := inner (s.set 0 (s.getD 0 0 + 2654435769 * (UInt32.ofNat r + 1))) 4
  shuf b b 8
def mixTo (s : List UInt32) : Nat → List UInt32
  | 0 => s
  | r + 1 => mixRound (mixTo s r) r
def mix (s : List UInt32) : List UInt32 := mixTo s 8
theorem inner_length (s : List UInt32) (j : Nat) : (inner s j).length = s.length := by
  induction j with
  | zero => rfl
  | succ j ih => simp [inner, innerStep, ih]
theorem shuf_length (o s : List UInt32) (j : Nat) : (shuf o s j).length = s.length := by
  induction j with
  | zero => rfl
  | succ j ih => simp [shuf, ih]
theorem mixTo_length (s : List UInt32) (r : Nat) : (mixTo s r).length = s.length := by
  induction r with
  | zero => rfl
  | succ r ih => simp [mixTo, mixRound, shuf_length, inner_length, ih]
theorem list8 {α : Type} (l : List α) (h : l.length = 8) : ∃ a b c d e f g k, l = [a, b, c, d, e, f, g, k] := by
  match l, h with
  | [a, b, c, d, e, f, g, k], _ => exact ⟨a, b, c, d, e, f, g, k, rfl⟩
theorem shuf_8 (o s t : List UInt32) (hs : s.length = 8) (ht : t.length = 8) : shuf o s 8 = shuf o t 8 := by
  obtain ⟨a, b, c, d, e, f, g, k, rfl⟩ := list8 s hs
  obtain ⟨a', b', c', d', e', f', g', k', rfl⟩ := list8 t ht
  simp [shuf]
/-- A block of four words taken in. -/
def xorIn (s b : List UInt32) : Nat → List UInt32
  | 0 => s
  | j + 1 => (xorIn s b j).set j ((xorIn s b j).getD j 0 ^^^ b.getD j 0)
theorem xorIn_length (s b : List UInt32) (j : Nat) : (xorIn s b j).length = s.length := by
  induction j with
  | zero => rfl
  | succ j ih => simp [xorIn, ih]
def takeIn (s b : List UInt32) : List UInt32 := mix (xorIn s b 4)
theorem takeIn_length (s b : List UInt32) : (takeIn s b).length = s.length := by simp [takeIn, mix, mixTo_length, xorIn_length]

def front (s : List UInt32) : List UInt32 := [s.getD 0 0, s.getD 1 0, s.getD 2 0, s.getD 3 0]
def pairD (a b : List UInt32) : List UInt32 := front (takeIn (takeIn [2, 0, 0, 0, 0, 0, 0, 0] a) b)
theorem pairD_length (a b : List UInt32) : (pairD a b).length = 4 := rfl
theorem u32_xor (x y : UInt32) : bits .xor .u32 (x.toNat : Int) (y.toNat : Int) = ((x ^^^ y).toNat : Int) := by
  have hx := x.toNat_lt; have hy := y.toNat_lt
  have hz : x.toNat ^^^ y.toNat < 2 ^ 32 := Nat.xor_lt_two_pow hx hy
  show IntKind.u32.wrap ((BitVec.ofInt 32 (x.toNat : Int) ^^^ BitVec.ofInt 32 (y.toNat : Int)).toNat : Int) = _
  rw [BitVec.toNat_xor, BitVec.ofInt_natCast, BitVec.ofInt_natCast, BitVec.toNat_ofNat, BitVec.toNat_ofNat, Nat.mod_eq_of_lt hx, Nat.mod_eq_of_lt hy, UInt32.toNat_xor]
  show (_ : Int) % 4294967296 = _
  omega
theorem u32_or_rot (k : Nat) (x : UInt32) (hk : k ≤ 32) (a b : Int) (ha : a = ((x.toNat * 2 ^ k) % 4294967296 : Nat)) (hb : b = ((x.toNat / 2 ^ (32 - k) : Nat) : Int)) : bits .or .u32 a b = ((rot k x).toNat : Int) := by
  subst ha hb
  have hx := x.toNat_lt
  have h1 : x.toNat * 2 ^ k % 4294967296 < 2 ^ 32 := Nat.mod_lt _ (by omega)
  have h2 : x.toNat / 2 ^ (32 - k) < 2 ^ 32 := Nat.lt_of_le_of_lt (Nat.div_le_self _ _) hx
  have h3 := rot_lt k x.toNat hk hx
  show IntKind.u32.wrap ((BitVec.ofInt 32 _ ||| BitVec.ofInt 32 _).toNat : Int) = _
  rw [BitVec.toNat_or, BitVec.ofInt_natCast, BitVec.ofInt_natCast, BitVec.toNat_ofNat, BitVec.toNat_ofNat, Nat.mod_eq_of_lt h1, Nat.mod_eq_of_lt h2, rot_or k _ hk hx, rot_toNat k x hk]
  exact Int.emod_eq_of_lt (Int.natCast_nonneg _) (Int.ofNat_lt.2 h3)
theorem u32_mul_step (k : Nat) (hk : k < 8) : IntKind.u32.wrap (2654435769 * ((k : Int) + 1)) = ((2654435769 * (UInt32.ofNat k + 1) : UInt32).toNat : Int) := by
  have h : k = 0 ∨ k = 1 ∨ k = 2 ∨ k = 3 ∨ k = 4 ∨ k = 5 ∨ k = 6 ∨ k = 7 := by omega
  rcases h with rfl | rfl | rfl | rfl | rfl | rfl | rfl | rfl <;> rfl
end Go.Proofs.YtddggjmfplohkaaDoor
/- word.Turn, math/bits.RotateLeft32 and the reference Turn, at the four places that the digest uses: all three turn a word alike. -/
namespace Go.Proofs.YtddggjmfplohkaaDoor
open Go.RowKit
theorem val_u64 {a b : Int} (h : a = b) : Value.int .u64 a = .int .u64 b := by rw [h]
theorem rot_next (j : Nat) (x : UInt32) (hj : j < 32) : 2 * ((rot j x).toNat : Int) % 4294967296 + ((rot j x).toNat : Int) / 2147483648 = ((rot (j + 1) x).toNat : Int) := by
  have h := rot_step j x.toNat hj x.toNat_lt
  rw [← rot_toNat j x (by omega), ← rot_toNat (j + 1) x (by omega)] at h
  rw [← h]; omega
end Go.Proofs.YtddggjmfplohkaaDoor
/- A region that draws its order: its first operations are quiet in a class of worlds, the rest come behind them, one by one; no program is named here. -/
namespace Go.Proofs.YtddggjmfplohkaaDoor
open Go.RowKit
section
variable {P : Program} {ops : Array Oper} {md : Region.Mode} {C : World → Prop}

/-- The first f operations that come up are of the head, each quiet in C; then L. -/
def headQ (P : Program) (md : Region.Mode) (ops : Array Oper) (C : World → Prop) (n : Nat) (L : Array Bool → Act → Prop) : Nat → Array Bool → Act → Prop
  | 0, listed, a => L listed a
  | f + 1, listed, a =>
    Region.ready md ops listed ≠ [] ∧ ∀ i ∈ Region.ready md ops listed, i < n ∧ qOp P ops C i (headQ P md ops C n L f (listed.setIfInBounds i true)) a

theorem any_of_headQ {n g : Nat} {L : Array Bool → Act → Prop} {Q' : Exit → Act → World → Prop} (hL : ∀ listed a, L listed a → ∀ w, C w → wpAny P md ops Q' g listed a w) :
    ∀ (f : Nat) (listed : Array Bool) (a : Act), headQ P md ops C n L f listed a → ∀ w, C w → wpAny P md ops Q' (f + g) listed a w
  | 0, listed, a, h => fun w hw => by rw [Nat.zero_add]; exact hL _ _ h w hw
  | f + 1, listed, a, h => fun w hw => by
    rw [show f + 1 + g = (f + g) + 1 by omega]
    exact ⟨fun h0 => absurd h0 h.1, fun i hi => wpOp_of_qOp hw (fun a' w' hw' h' => any_of_headQ hL f _ a' h' w' hw') (h.2 i hi).2⟩

theorem headQ_first {n i : Nat} {oi : Oper} {v : Value} {L : Array Bool → Act → Prop} (hi : ops[i]? = some oi) (hsel : ∀ (j : Nat) (o : Oper) cs b, ops[j]? = some o → o.op ≠ .select cs b)
    (hs : Region.sinkB md ops n = true) (hc : Region.chainB md ops n = true) (hn : n < ops.size) (hin : i < n)
    (hdone : ∀ listed a, L listed a → ∀ j ∈ Region.ready md ops listed, n ≤ j) :
    ∀ (f : Nat) (listed : Array Bool) (a : Act), HeadInv md ops n listed →
      (∀ j oj, ops[j]? = some oj → j ≠ i → listed.getD j true = false → (∀ e ∈ oj.after, Region.binds md e = true → e.on ≠ i) → oi.apart ops oj = true) →
      i ∈ Region.ready md ops listed → YieldsIn P ops C oi v a →
      headQ P md ops C n L f (listed.setIfInBounds i true) (a.put oi.dst v) → headQ P md ops C n L (f + 1) listed a := by
  intro f
  induction f with
  | zero =>
    intro listed a inv _ hr hy H
    have hun := (mem_ready.1 hr).1
    refine ⟨fun h => (by rw [h] at hr; cases hr), fun j hj => ?_⟩
    have hjn : j < n := by
      rcases Nat.lt_or_ge j n with h | h
      · exact h
      · exact absurd hj (tail_waits hs hc hn inv _ i rfl hin hun j h)
    refine ⟨hjn, ?_⟩
    by_cases hji : j = i
    · subst hji; exact hy.qOp hi H
    · have := hdone _ _ H j (ready_mono hj hji)
      omega
  | succ f ih =>
    intro listed a inv hfree hr hy H
    have hun := (mem_ready.1 hr).1
    refine ⟨fun h => (by rw [h] at hr; cases hr), fun j hj => ?_⟩
    have hjn : j < n := by
      rcases Nat.lt_or_ge j n with h | h
      · exact h
      · exact absurd hj (tail_waits hs hc hn inv _ i rfl hin hun j h)
    refine ⟨hjn, ?_⟩
    by_cases hji : j = i
    · subst hji; exact hy.qOp hi H
    · have h1 := (H.2 j (ready_mono hj hji)).2
      obtain ⟨hjun, oj, hoj, hall⟩ := mem_ready.1 hj
      have hnot : ∀ e ∈ oj.after, Region.binds md e = true → e.on ≠ i := fun e he hb heq => by
        have h1 := hall e he hb
        rw [heq, getD_both hun] at h1
        cases h1
      have h2 := qOp_put hoj (hfree j oj hoj hji hjun hnot) (fun cs b => hsel i oi cs b hi) (fun cs b => hsel j oj cs b hoj) hy h1
      have hfree' : ∀ k ok, ops[k]? = some ok → k ≠ i → (listed.setIfInBounds j true).getD k true = false →
          (∀ e ∈ ok.after, Region.binds md e = true → e.on ≠ i) → oi.apart ops ok = true := fun k ok hk hki hun hno => by
        refine hfree k ok hk hki ?_ hno
        by_cases hjk : j = k
        · subst hjk; exact hjun
        · rw [getD_set_ne true hjk] at hun; exact hun
      refine qOp_mono (fun a' h3 => ih (listed.setIfInBounds j true) a' (inv.set hj hjn) hfree' (ready_mono hr (Ne.symm hji)) h3.1 ?_) h2
      rw [Array.setIfInBounds_comm _ _ hji]
      exact h3.2

theorem headQ_lex {n g : Nat} {Lq : Act → Prop} (hsel : Region.noSelect ops = true) (hs : Region.sinkB md ops n = true) (hc : Region.chainB md ops n = true) (hn : n < ops.size) :
    ∀ (l : List Oper) (k : Nat) (listed : Array Bool) (a : Act), (∀ j, j < l.length → l[j]? = ops[k + j]?) → k + l.length = n → HeadInv md ops n listed →
    Region.lexHead md ops g l.length k listed = true → wpQuiet P ops C Lq l a →
    headQ P md ops C n (fun listed' a' => Region.seqB md ops g n listed' = true ∧ Lq a') l.length listed a
  | [], k, listed, a, _, hk, _, hB, h => by
    have : k = n := by simpa using hk
    subst this
    exact ⟨by simpa [Region.lexHead] using hB, h⟩
  | o :: l, k, listed, a, hl, hk, inv, hB, h => by
    have h0 : ops[k]? = some o := by simpa using (hl 0 (by simp)).symm
    simp only [List.length_cons, Region.lexHead, Bool.and_eq_true] at hB
    obtain ⟨⟨hr, hf⟩, hB'⟩ := hB
    have hkn : k < n := by simp only [List.length_cons] at hk; omega
    have hr' : k ∈ Region.ready md ops listed := by simpa using hr
    have hst : qOp P ops C k (wpQuiet P ops C Lq l) a := by unfold qOp; simp only [h0]; exact h
    obtain ⟨v, hy, hK⟩ := yieldsIn_of_qOp h0 hst
    exact headQ_first h0 (Region.noSelect_spec hsel) hs hc hn hkn (fun listed' a' hL => seqB_ready hL.1) l.length listed a inv (Region.free_spec h0 hf) hr' hy
      (headQ_lex hsel hs hc hn l (k + 1) _ _ (fun j hj => by have := hl (j + 1) (by simp; omega); simpa [Nat.add_assoc, Nat.add_comm 1 j] using this) (by simp only [List.length_cons] at hk; omega) (inv.set hr' hkn) hB' hK)

/-- One walk in the text's order serves every order: the head is quiet in C; the tail is walked behind it, in whatever world of C. -/
theorem wp_region_tail {id : Nat} {Q : Exit → Act → World → Prop} {a : Act} {w : World} {l : List Oper} (n : Nat) (C : World → Prop) (hm : P.follows .mixedOrders = true) (hB : Region.lexTailB .any l.toArray n = true) (hC : C w.drew)
    (h : wpQuiet P l.toArray C (fun a' => ∀ w', C w' → wpList P l.toArray Q (l.drop n) a' w') (l.take n) a) : (Code.region id l.toArray true).wp P Q a w := by
  simp only [Region.lexTailB, Bool.and_eq_true, decide_eq_true_eq] at hB
  obtain ⟨⟨⟨⟨hsel, hn⟩, hs⟩, hc⟩, hlex⟩ := hB
  have hn' : n < l.length := by simpa using hn
  have htl : (l.take n).length = n := by simp; omega
  have hdl : (l.drop n).length = l.toArray.size - n := by simp
  have inv0 : HeadInv .any l.toArray n (Array.replicate l.toArray.size false) :=
    ⟨by simp, fun j oj _ hl => (by rw [getD_replicate_false] at hl; cases hl), fun t _ ht => getD_in (by simpa using ht) (getD_replicate_false _ _)⟩
  have H := headQ_lex (md := .any) (g := l.toArray.size - n) hsel hs hc hn (l.take n) 0 _ a (fun j hj => by
    have hj' : j < n := by rw [htl] at hj; exact hj
    simp [hj']) (by simpa using htl) inv0 (by rw [htl]; exact hlex) h
  refine wp_region_any hm ?_
  have := any_of_headQ (Q' := Q) (g := l.toArray.size - n) (fun listed a' hL w' hw' => by
    have := wpAny_of_seq (md := .any) (Q' := Q) (l.drop n) n listed a' w' (fun j => by simp [List.getElem?_drop]) (by rw [hdl]; exact hL.1) (hL.2 w' hw')
    rwa [hdl] at this) _ _ _ H _ hC
  rw [htl, show n + (l.toArray.size - n) = l.toArray.size by omega] at this
  exact this

/-- A region all of whose operations are quiet in C. -/
theorem wp_region_all {id : Nat} {Q : Exit → Act → World → Prop} {a : Act} {w : World} {l : List Oper} (C : World → Prop) (hm : P.follows .mixedOrders = true) (hB : Region.lexB .any l.toArray = true) (hC : C w.drew)
    (h : wpQuiet P l.toArray C (fun a' => ∀ w', C w' → Q .normal a' w') l a) : (Code.region id l.toArray true).wp P Q a w :=
  wp_region_quiet (C := C) hm hB hC (by simpa using h)

theorem wp_gen {c : Code} {Q : Exit → Act → World → Prop} {a : Act} {w : World} (S : World → Prop) (hS : S w) (h : ∀ W, S W → c.wp P Q a W) : c.wp P Q a w := h w hS

/-- A whole row stored into the block that was made last. -/
theorem wpList_store_new {Q : Exit → Act → World → Prop} {rest : List Oper} {o : Oper} {a : Act} {w0 : World} {old : Array Value} {t : TypeId} (hgd : o.guard = none) (ty : TypeId) (x y : Operand) (ho : o.op = .store ty x y)
    (cells : Array Value) (hx : a.eval x = .pointer (some ⟨w0.heap.size, 0, none⟩)) (hy : a.eval y = .agg cells)
    (hi : (P.info? ty).map (·.size) = some cells.size) (hold : old.size = cells.size) (h1 : cells.all (·.oneCell') = true)
    (h : wpList P ops Q rest (a.put o.dst undef) (w0.alloc (.cells cells t))) : wpList P ops Q (o :: rest) a (w0.alloc (.cells old t)) :=
  wpList_store_row hgd ty x y ho w0.heap.size cells hx hy t old (heap_alloc_last _ _) hi hold h1 (by rw [World.setRow_alloc_new]; exact h)
/-- One operation of the walk, run by an equation. -/
theorem quiet_val {o : Oper} {rest : List Oper} {Q : Act → Prop} {a : Act} (v : Value) (hg : Region.wanted o (yielded ops a.tmps) = true) (hr : ∀ w, C w → (execOp a.eval o).run P w = .ok (.value v) w)
    (h : wpQuiet P ops C Q rest (a.put o.dst v)) : wpQuiet P ops C Q (o :: rest) a := by
  unfold wpQuiet
  rw [if_pos hg]
  exact ⟨v, fun w hw => by unfold Oper.quietAt; rw [hr w hw]; exact ⟨rfl, rfl⟩, h⟩
theorem quiet_skip {o : Oper} {rest : List Oper} {Q : Act → Prop} {a : Act} (hg : Region.wanted o (yielded ops a.tmps) = false) (h : wpQuiet P ops C Q rest (a.put o.dst undef)) : wpQuiet P ops C Q (o :: rest) a := by
  unfold wpQuiet
  rw [if_neg (by rw [hg]; simp)]
  exact h
theorem wpList_load_row_g {rest : List Oper} {o : Oper} {a : Act} {w : World} {Q : Exit → Act → World → Prop} (hgd : Region.wanted o (yielded ops a.tmps) = true) (ty : TypeId) (x : Operand) (ho : o.op = .load ty x)
    (g : Nat) (hx : a.eval x = .pointer (some ⟨g, 0, none⟩)) (t : TypeId) (cs : Array Value) (fr : Nat × Nat) (d : TypeDesc) (hg : w.heap[g]? = some (.cells cs t fr))
    (hu : P.underlying ty = some d) (hd : (match d with | .struct _ | .array _ _ => true | _ => false) = true) (hi : (P.info? ty).map (·.size) = some cs.size)
    (h : wpList P ops Q rest (a.put o.dst (.agg cs)) w) : wpList P ops Q (o :: rest) a w := by
  unfold wpList
  rw [if_pos hgd]
  exact .inl (wp_load_row ty x ho g hx t cs fr d hg hu hd hi h)
theorem quiet_ex {o : Oper} {rest : List Oper} {Q : Act → Prop} {a : Act} (hg : Region.wanted o (yielded ops a.tmps) = true) (h : ∃ v, (∀ w, C w → (execOp a.eval o).run P w = .ok (.value v) w) ∧ wpQuiet P ops C Q rest (a.put o.dst v)) : wpQuiet P ops C Q (o :: rest) a :=
  let ⟨v, hr, h⟩ := h
  quiet_val v hg hr h
theorem quiet_at {o : Oper} {rest : List Oper} {Q : Act → Prop} {a : Act} (hg : Region.wanted o (yielded ops a.tmps) = true) (h : ∃ v, (∀ w, C w → o.quietAt P a C w v) ∧ wpQuiet P ops C Q rest (a.put o.dst v)) : wpQuiet P ops C Q (o :: rest) a := by
  unfold wpQuiet
  rw [if_pos hg]
  exact h
theorem quiet_load_row {o : Oper} {rest : List Oper} {Q : Act → Prop} {a : Act} (hgd : Region.wanted o (yielded ops a.tmps) = true) (ty : TypeId) (x : Operand) (ho : o.op = .load ty x)
    (g : Nat) (hx : a.eval x = .pointer (some ⟨g, 0, none⟩)) (t : TypeId) (cs : Array Value) (fr : Nat × Nat) (d : TypeDesc) (hg : ∀ w, C w → w.heap[g]? = some (.cells cs t fr))
    (hu : P.underlying ty = some d) (hd : (match d with | .struct _ | .array _ _ => true | _ => false) = true) (hi : (P.info? ty).map (·.size) = some cs.size)
    (h : wpQuiet P ops C Q rest (a.put o.dst (.agg cs))) : wpQuiet P ops C Q (o :: rest) a :=
  quiet_val (.agg cs) hgd (fun w hw => by
    unfold execOp
    simp only [ho, hx, Instr.loadAt, Instr.sureAddr, Sem.run_bind, Sem.run_pure, Result.andThen_ok, run_loadVar_row w g t ty cs fr d (hg w hw) hu hd hi]) h
theorem quiet_call {o : Oper} {rest : List Oper} {Q : Act → Prop} {a : Act} {f : FuncId} {args : Array Value} (v : Value) (hg : Region.wanted o (yielded ops a.tmps) = true) (hr : ∀ w, (execOp a.eval o).run P w = .ok (.enter f args) w)
    (hc : ∀ w, C w → Calls P f args w fun e w' => e = .returned v ∧ C w')
    (h : wpQuiet P ops C Q rest (a.put o.dst v)) : wpQuiet P ops C Q (o :: rest) a := by
  unfold wpQuiet
  rw [if_pos hg]
  exact ⟨v, fun w hw => by unfold Oper.quietAt; rw [hr w]; exact ⟨rfl, hc w hw⟩, h⟩
end
end Go.Proofs.YtddggjmfplohkaaDoor
/- digest.Mix: on any eight words it returns what the plain function mix gives; the heap only grows. -/
namespace Go.Proofs.YtddggjmfplohkaaDoor
open Go.RowKit
theorem placeN_cases (j : Nat) (hj : j < 4) : (placeN j : Int) = 7 ∨ (placeN j : Int) = 9 ∨ (placeN j : Int) = 13 ∨ (placeN j : Int) = 18 := by
  have h : j = 0 ∨ j = 1 ∨ j = 2 ∨ j = 3 := by omega
  rcases h with rfl | rfl | rfl | rfl <;> decide
theorem us_size8 (t : List UInt32) (h : t.length = 8) : (us t).size = 8 := by simp [us, h]
theorem us_one (t : List UInt32) : (us t).all (·.oneCell') = true := by simp [us, Value.oneCell']
end Go.Proofs.YtddggjmfplohkaaDoor
/- digest.take: what it returns is what the plain function takeIn gives; the heap only grows. -/
namespace Go.Proofs.YtddggjmfplohkaaDoor
open Go.RowKit
theorem info_u32 : (Tryd.prog.info? 36).map (·.size) = some 1 := by kernel_rfl
theorem agg_u32 : ∀ w, (isAgg 36).run Tryd.prog w = .ok false w := fun _ => by kernel_rfl
end Go.Proofs.YtddggjmfplohkaaDoor
/- digest.front, digest.Pair: what they return is what the plain functions give; the heap only grows. -/
namespace Go.Proofs.YtddggjmfplohkaaDoor
open Go.RowKit
end Go.Proofs.YtddggjmfplohkaaDoor
/- The reference's turns and Mix: on any eight words it returns what the plain function mix gives; the heap only grows. -/
namespace Go.Proofs.YtddggjmfplohkaaDoor
open Go.RowKit
def plcs : Array Value := #[.int .i64 7, .int .i64 9, .int .i64 13, .int .i64 18]
theorem plcs_get (j : Nat) (hj : j < 4) : plcs[j]? = some (.int .i64 (placeN j : Int)) := by
  have h : j = 0 ∨ j = 1 ∨ j = 2 ∨ j = 3 := by omega
  rcases h with rfl | rfl | rfl | rfl <;> rfl
theorem plcs_one : plcs.all (·.oneCell') = true := by simp [plcs, Value.oneCell']
end Go.Proofs.YtddggjmfplohkaaDoor
/- A region that draws its order, some of whose operations make memory that later ones look at: each operation that yields one value in every world of a class is taken first; the others come when nothing else may; no program is named here. -/
namespace Go.Proofs.YtddggjmfplohkaaDoor
open Go.RowKit
/-- Kept while the heap grows. -/
def Stab (R : World → Prop) : Prop := ∀ w w', R w → Grow w w' → R w'
theorem Stab.true_ : Stab (fun _ => True) := fun _ _ _ _ => trivial
theorem Stab.and {R S : World → Prop} (h : Stab R) (k : Stab S) : Stab (fun w => R w ∧ S w) := fun w w' x g => ⟨h w w' x.1 g, k w w' x.2 g⟩
theorem Stab.blk (g : Nat) (t : TypeId) (cs : Array Value) : Stab (fun w => Blk w g t cs) := fun _ _ h hg => h.grow hg
section
variable {P : Program} {ops : Array Oper} {md : Region.Mode} {C : World → Prop} {Q : Exit → Act → World → Prop}

def growUpon (P : Program) (C : World → Prop) (w : World) (v : Value) : Result Next → Prop
  | .ok (.value u) w' => w' = w ∧ u = v
  | .ok .skip w' => w' = w ∧ v = undef
  | .ok (.enter f args) w' => w' = w ∧ Calls P f args w (fun e w'' => e = .returned v ∧ C w'' ∧ Grow w w'')
  | _ => False
/-- In the world w of the class the operation yields v, and the heap has only grown. -/
def growAt (P : Program) (C : World → Prop) (o : Oper) (a : Act) (w : World) (v : Value) : Prop := growUpon P C w v ((execOp a.eval o).run P w)
def YG (P : Program) (ops : Array Oper) (C : World → Prop) (o : Oper) (v : Value) (a : Act) : Prop :=
  (Region.wanted o (yielded ops a.tmps) = true ∧ ∀ w, C w → growAt P C o a w v) ∨ (Region.wanted o (yielded ops a.tmps) = false ∧ v = undef)

theorem YG.wpOp {i : Nat} {o : Oper} {v : Value} {a : Act} (hi : ops[i]? = some o) (hy : YG P ops C o v a) {R : World → Prop} (hR : Stab R) {w : World} (hC : C w) (hr : R w)
    {K : Act → World → Prop} (h : ∀ w', C w' → R w' → K (a.put o.dst v) w') : wpOp P ops Q i K a w := by
  unfold Go.wpOp
  simp only [hi]
  rcases hy with ⟨hw, hv⟩ | ⟨hw, rfl⟩
  · simp only [hw, if_true]
    refine .inl ?_
    have h3 := hv w hC
    unfold growAt at h3
    unfold Oper.wp
    generalize (execOp a.eval o).run P w = r at *
    cases r with
    | ok n w' =>
      cases n <;> simp only [growUpon] at h3 <;> simp only [Oper.upon]
      case value u =>
        obtain ⟨e1, e2⟩ := h3
        rw [e1, e2]
        exact h _ hC hr
      case skip =>
        obtain ⟨e1, e2⟩ := h3
        rw [e1, ← e2]
        exact h _ hC hr
      case enter f args =>
        obtain ⟨e1, hc⟩ := h3
        rw [e1]
        exact hc.mono fun e w'' ⟨he, hw'', hg⟩ => by subst he; exact h _ hw'' (hR _ _ hr hg)
    | halt x w' => simp only [growUpon] at h3
  · simp only [hw, Bool.false_eq_true, if_false]; exact h _ hC hr

theorem YG.of_same {o : Oper} {v : Value} {a a' : Act} (hy : YG P ops C o v a) (he : execOp a'.eval o = execOp a.eval o)
    (hw : Region.wanted o (yielded ops a'.tmps) = Region.wanted o (yielded ops a.tmps)) : YG P ops C o v a' := by
  unfold YG growAt at *
  rw [he, hw]
  exact hy

theorem wpOp_putG {j : Nat} {oi oj : Oper} {v : Value} (hj : ops[j]? = some oj) (hap : oi.apart ops oj = true)
    (hsi : ∀ cs b, oi.op ≠ .select cs b) (hsj : ∀ cs b, oj.op ≠ .select cs b)
    (hQ : ∀ c a w, Q (.panic c) (a.put oi.dst v) w → Q (.panic c) a w) {K : Act → World → Prop} {a : Act} {w : World}
    (hy : YG P ops C oi v a) (h : wpOp P ops Q j K (a.put oi.dst v) w) :
    wpOp P ops Q j (fun a' w' => YG P ops C oi v a' ∧ K (a'.put oi.dst v) w') a w := by
  obtain ⟨h1, h2, h3⟩ := Oper.apart_spec hap
  have keep : ∀ (a : Act), YG P ops C oi v a → ∀ u, YG P ops C oi v (a.put oj.dst u) := fun a hy u =>
    hy.of_same (execOp_put oi hsi a oj.dst u h3) (wanted_put oi a oj.dst u h3)
  have keepD : ∀ d, YG P ops C oi v { a with defers := d :: a.defers } := fun d => hy.of_same rfl rfl
  unfold wpOp at *
  simp only [hj] at *
  rw [wanted_put oj a oi.dst v h1] at h
  split
  · rename_i hw
    simp only [hw, if_true] at h
    rcases h with h | ⟨hasks, hlets⟩
    case inr => exact .inr ⟨by unfold Oper.asks at *; rw [execOp_put oj hsj a oi.dst v h1] at hasks; exact hasks, hlets⟩
    refine .inl ?_
    unfold Oper.wp at *
    rw [execOp_put oj hsj a oi.dst v h1] at h
    generalize (execOp a.eval oj).run P w = r at *
    cases r with
    | ok n w' =>
      cases n <;> simp only [Oper.upon] at h ⊢
      case value u => exact ⟨keep a hy u, by rw [← Act.put_comm a v u h2]; exact h⟩
      case skip => exact ⟨keep a hy _, by rw [← Act.put_comm a v undef h2]; exact h⟩
      case defer d =>
        refine ⟨keep _ (keepD d) _, ?_⟩
        rw [← Act.put_comm _ v undef h2, ← Act.put_defers]
        exact h
      case enter f args =>
        refine Calls.mono h fun e w'' he => ?_
        cases e with
        | returned u => exact ⟨keep a hy u, by rw [← Act.put_comm a v u h2]; exact he⟩
        | panicked c => exact hQ _ _ _ he
        | outgrown => exact he
      case row row args => exact Rows.mono h fun u w'' he => ⟨keep a hy u, by rw [← Act.put_comm a v u h2]; exact he⟩
    | halt x w' =>
      cases x <;> simp only [Oper.upon] at h ⊢
      case panic u => exact hQ _ _ _ h
  · rename_i hw
    simp only [hw] at h
    exact ⟨keep a hy _, by rw [← Act.put_comm a v undef h2]; exact h⟩

/-- Whatever order is picked from here on, from every world of the class that meets R; what an operation leaves may be known better behind it. Behind it all the operations from number k on come, one by one. -/
def anyC (P : Program) (md : Region.Mode) (ops : Array Oper) (C : World → Prop) (Q : Exit → Act → World → Prop) (g k : Nat) : Nat → Array Bool → (World → Prop) → Act → Prop
  | 0, listed, R, a => Region.ready md ops listed = [k] ∧ ∀ w, C w → R w → wpAny P md ops Q g listed a w
  | fuel + 1, listed, R, a => Region.ready md ops listed ≠ [] ∧ ∀ w, C w → R w →
    ∀ i ∈ Region.ready md ops listed, wpOp P ops Q i (fun a' w' => C w' ∧ ∃ R' : World → Prop, Stab R' ∧ R' w' ∧ anyC P md ops C Q g k fuel (listed.setIfInBounds i true) R' a') a w

theorem wpAny_of_anyC {g k : Nat} : ∀ (fuel : Nat) (listed : Array Bool) (R : World → Prop) (a : Act) (w : World), C w → R w → anyC P md ops C Q g k fuel listed R a → wpAny P md ops Q (fuel + g) listed a w
  | 0, _, _, _, w, hC, hR, h => by rw [Nat.zero_add]; exact h.2 w hC hR
  | fuel + 1, _, _, _, w, hC, hR, h => by
    rw [show fuel + 1 + g = (fuel + g) + 1 by omega]
    exact ⟨fun h0 => absurd h0 h.1, fun i hi => wpOp_mono (fun a' w' ⟨h1, R', _, h3, h5⟩ => wpAny_of_anyC fuel _ R' a' w' h1 h3 h5) (h.2 w hC hR i hi)⟩

/-- Every operation that has come up has all behind it that it waits for. -/
def Closed (md : Region.Mode) (ops : Array Oper) (listed : Array Bool) : Prop :=
  ∀ j oj, ops[j]? = some oj → listed.getD j false = true → ∀ e ∈ oj.after, Region.binds md e = true → listed.getD e.on false = true
def closedB (md : Region.Mode) (ops : Array Oper) (listed : Array Bool) : Bool :=
  (List.range ops.size).all fun j => !listed.getD j false || ((ops[j]?).map (·.after.all fun e => !Region.binds md e || listed.getD e.on false)).getD true
theorem closedB_spec {listed : Array Bool} (h : closedB md ops listed = true) : Closed md ops listed := by
  intro j oj hj hl e he hb
  have hlt : j < ops.size := (Array.getElem?_eq_some_iff.1 hj).1
  have h1 := List.all_eq_true.1 h j (List.mem_range.2 hlt)
  simp only [hl, hj, Bool.not_true, Bool.false_or, Option.map_some, Option.getD_some] at h1
  have h2 := (Array.all_eq_true_iff_forall_mem.1 h1) e he
  simpa [hb] using h2
theorem Closed.set {listed : Array Bool} {i : Nat} (h : Closed md ops listed) (hi : i ∈ Region.ready md ops listed) : Closed md ops (listed.setIfInBounds i true) := by
  obtain ⟨_, oi, hoi, hall⟩ := mem_ready.1 hi
  intro j oj hj hl e he hb
  by_cases hij : i = j
  · subst hij
    have : oj = oi := Option.some.inj (hj.symm.trans hoi)
    subst this
    exact getD_set_true (hall e he hb)
  · rw [getD_set_ne false hij] at hl
    exact getD_set_true (h j oj hj hl e he hb)
/-- k waits for i, or for one that waits for i, and so on, n times. -/
def waitsN (md : Region.Mode) (ops : Array Oper) : Nat → Nat → Nat → Bool
  | 0, k, i => Region.waitsFor md ops k i
  | n + 1, k, i => Region.waitsFor md ops k i || (List.range ops.size).any fun m => Region.waitsFor md ops k m && waitsN md ops n m i
def waitsVia (md : Region.Mode) (ops : Array Oper) (k i : Nat) : Bool := waitsN md ops 3 k i
theorem waitsFor_listed {listed : Array Bool} {k i : Nat} (h : Region.waitsFor md ops k i = true) (hc : Closed md ops listed) (hk : listed.getD k false = true) : listed.getD i false = true := by
  obtain ⟨ok, hok, e, he, hb, hon⟩ := Region.waitsFor_spec h
  exact hon ▸ hc k ok hok hk e he hb
theorem waitsN_listed {listed : Array Bool} (hc : Closed md ops listed) : ∀ (n k i : Nat), waitsN md ops n k i = true → listed.getD k false = true → listed.getD i false = true
  | 0, _, _, h, hk => waitsFor_listed h hc hk
  | n + 1, k, i, h, hk => by
    simp only [waitsN, Bool.or_eq_true] at h
    rcases h with h | h
    · exact waitsFor_listed h hc hk
    · obtain ⟨m, _, hm⟩ := List.any_eq_true.1 h
      simp only [Bool.and_eq_true] at hm
      exact waitsN_listed hc n m i hm.2 (waitsFor_listed hm.1 hc hk)
theorem waitsVia_spec {listed : Array Bool} {k i : Nat} (h : waitsVia md ops k i = true) (hc : Closed md ops listed) (hk : k ∈ Region.ready md ops listed) : listed.getD i false = true := by
  obtain ⟨_, ok, hok, hall⟩ := mem_ready.1 hk
  have direct : ∀ m, Region.waitsFor md ops k m = true → listed.getD m false = true := fun m hm => by
    obtain ⟨o', ho', e, he, hb, hon⟩ := Region.waitsFor_spec hm
    have : o' = ok := Option.some.inj (ho'.symm.trans hok)
    subst this
    exact hon ▸ hall e he hb
  unfold waitsVia at h
  simp only [waitsN, Bool.or_eq_true] at h
  rcases h with h | h
  · exact direct i h
  · obtain ⟨m, _, hm⟩ := List.any_eq_true.1 h
    simp only [Bool.and_eq_true, Bool.or_eq_true] at hm
    have hml := direct m hm.1
    rcases hm.2 with h2 | h2
    · exact waitsFor_listed h2 hc hml
    · obtain ⟨m2, _, hm2⟩ := List.any_eq_true.1 h2
      simp only [Bool.and_eq_true] at hm2
      have := waitsN_listed hc 1 m2 i (by simpa only [waitsN, Bool.or_eq_true] using hm2.2) (waitsFor_listed hm2.1 hc hml)
      exact this
theorem anyC_first {g k i : Nat} {oi : Oper} {v : Value} (hi : ops[i]? = some oi) (hsel : ∀ (j : Nat) (o : Oper) cs b, ops[j]? = some o → o.op ≠ .select cs b)
    (hQ : ∀ c a w, Q (.panic c) (a.put oi.dst v) w → Q (.panic c) a w) (hk : waitsVia md ops k i = true) :
    ∀ (fuel : Nat) (listed : Array Bool) (R : World → Prop) (a : Act), Stab R → Closed md ops listed →
      (∀ j oj, ops[j]? = some oj → j ≠ i → listed.getD j true = false → (∀ e ∈ oj.after, Region.binds md e = true → e.on ≠ i) → oi.apart ops oj = true) →
      i ∈ Region.ready md ops listed → YG P ops C oi v a →
      anyC P md ops C Q g k fuel (listed.setIfInBounds i true) R (a.put oi.dst v) → anyC P md ops C Q g k (fuel + 1) listed R a := by
  intro fuel
  induction fuel with
  | zero =>
    intro listed R a hS hcl _ hr hy H
    have hun := (mem_ready.1 hr).1
    refine ⟨fun h => (by rw [h] at hr; cases hr), fun w hC hRw j hj => ?_⟩
    by_cases hji : j = i
    · subst hji; exact hy.wpOp hi hS hC hRw fun w' hC' hR' => ⟨hC', R, hS, hR', H⟩
    · have h1 := ready_mono hj hji
      rw [H.1] at h1
      have hjk : j = k := by simpa using h1
      subst hjk
      have h2 := waitsVia_spec hk hcl hj
      rw [getD_both hun] at h2
      cases h2
  | succ fuel ih =>
    intro listed R a hS hcl hfree hr hy H
    have hun := (mem_ready.1 hr).1
    refine ⟨fun h => (by rw [h] at hr; cases hr), fun w hC hRw j hj => ?_⟩
    by_cases hji : j = i
    · subst hji; exact hy.wpOp hi hS hC hRw fun w' hC' hR' => ⟨hC', R, hS, hR', H⟩
    · have h1 := H.2 w hC hRw j (ready_mono hj hji)
      obtain ⟨hjun, oj, hoj, hall⟩ := mem_ready.1 hj
      have hnot : ∀ e ∈ oj.after, Region.binds md e = true → e.on ≠ i := fun e he hb heq => by
        have h1 := hall e he hb
        rw [heq, getD_both hun] at h1
        cases h1
      have h2 := wpOp_putG hoj (hfree j oj hoj hji hjun hnot) (fun cs b => hsel i oi cs b hi) (fun cs b => hsel j oj cs b hoj) hQ hy h1
      have hfree' : ∀ k ok, ops[k]? = some ok → k ≠ i → (listed.setIfInBounds j true).getD k true = false →
          (∀ e ∈ ok.after, Region.binds md e = true → e.on ≠ i) → oi.apart ops ok = true := fun k ok hk hki hun hno => by
        refine hfree k ok hk hki ?_ hno
        by_cases hjk : j = k
        · subst hjk; exact hjun
        · rw [getD_set_ne true hjk] at hun; exact hun
      refine wpOp_mono (fun a' w' ⟨hy', hC', R', hS', hR', h3⟩ => ⟨hC', R', hS', hR', ih (listed.setIfInBounds j true) R' a' hS' (hcl.set hj) hfree' (ready_mono hr (Ne.symm hji)) hy' ?_⟩) h2
      rw [Array.setIfInBounds_comm _ _ hji]
      exact h3

/-- Take number i first. -/
theorem anyC_take {g k i : Nat} {oi : Oper} {v : Value} {fuel : Nat} {listed : Array Bool} {R : World → Prop} {a : Act} (hi : ops[i]? = some oi)
    (hc : (Region.noSelect ops && waitsVia md ops k i && Region.free md ops listed i && (Region.ready md ops listed).contains i && closedB md ops listed) = true)
    (hQ : ∀ c a w, Q (.panic c) (a.put oi.dst v) w → Q (.panic c) a w) (hS : Stab R) (hy : YG P ops C oi v a)
    (h : anyC P md ops C Q g k fuel (listed.setIfInBounds i true) R (a.put oi.dst v)) : anyC P md ops C Q g k (fuel + 1) listed R a := by
  simp only [Bool.and_eq_true] at hc
  exact anyC_first hi (Region.noSelect_spec hc.1.1.1.1) hQ hc.1.1.1.2 fuel listed R a hS (closedB_spec hc.2) (Region.free_spec hi hc.1.1.2) (by simpa using hc.1.2) hy h

attribute [go_sem] growAt growUpon
theorem anyC_val {g k i : Nat} {oi : Oper} {fuel : Nat} {listed : Array Bool} {R : World → Prop} {a : Act} (d : Option Tmp) (hi : ops[i]? = some oi) (hd : oi.dst = d)
    (hc : (Region.noSelect ops && waitsVia md ops k i && Region.free md ops listed i && (Region.ready md ops listed).contains i && closedB md ops listed) = true)
    (hQ' : ∀ v c a w, Q (.panic c) (a.put d v) w → Q (.panic c) a w) (hS : Stab R) (hw : Region.wanted oi (yielded ops a.tmps) = true)
    (h : ∃ v, (∀ w, C w → (execOp a.eval oi).run P w = .ok (.value v) w) ∧ anyC P md ops C Q g k fuel (listed.setIfInBounds i true) R (a.put d v)) : anyC P md ops C Q g k (fuel + 1) listed R a := by
  subst hd
  obtain ⟨v, h1, h2⟩ := h
  exact anyC_take hi hc (hQ' v) hS (.inl ⟨hw, fun w hC => by unfold growAt; rw [h1 w hC]; exact ⟨rfl, rfl⟩⟩) h2
theorem anyC_call {g k i : Nat} {oi : Oper} {fuel : Nat} {listed : Array Bool} {R : World → Prop} {a : Act} (d : Option Tmp) (v : Value) (hi : ops[i]? = some oi) (hd : oi.dst = d)
    (hc : (Region.noSelect ops && waitsVia md ops k i && Region.free md ops listed i && (Region.ready md ops listed).contains i && closedB md ops listed) = true)
    (hQ : ∀ c a w, Q (.panic c) (a.put d v) w → Q (.panic c) a w) (hS : Stab R) (hw : Region.wanted oi (yielded ops a.tmps) = true)
    (h1 : ∀ w, C w → growAt P C oi a w v) (h2 : anyC P md ops C Q g k fuel (listed.setIfInBounds i true) R (a.put d v)) : anyC P md ops C Q g k (fuel + 1) listed R a := by
  subst hd
  exact anyC_take hi hc hQ hS (.inl ⟨hw, h1⟩) h2
theorem anyC_load_row {g k i : Nat} {o : Oper} {fuel : Nat} {listed : Array Bool} {R : World → Prop} {a : Act} (dt : Option Tmp) (hi : ops[i]? = some o) (hdt : o.dst = dt)
    (hc : (Region.noSelect ops && waitsVia md ops k i && Region.free md ops listed i && (Region.ready md ops listed).contains i && closedB md ops listed) = true)
    (hS : Stab R) (hw : Region.wanted o (yielded ops a.tmps) = true) (ty : TypeId) (x : Operand) (ho : o.op = .load ty x)
    (b : Nat) (hx : a.eval x = .pointer (some ⟨b, 0, none⟩)) (t : TypeId) (cs : Array Value) (fr : Nat × Nat) (d : TypeDesc) (hg : ∀ w, C w → w.heap[b]? = some (.cells cs t fr))
    (hu : P.underlying ty = some d) (hd : (match d with | .struct _ | .array _ _ => true | _ => false) = true) (hz : (P.info? ty).map (·.size) = some cs.size)
    (hQ : ∀ c a w, Q (.panic c) (a.put dt (.agg cs)) w → Q (.panic c) a w)
    (h : anyC P md ops C Q g k fuel (listed.setIfInBounds i true) R (a.put dt (.agg cs))) : anyC P md ops C Q g k (fuel + 1) listed R a := by
  subst hdt
  exact anyC_take hi hc hQ hS (.inl ⟨hw, fun w hC => by
    unfold growAt execOp
    simp only [ho, hx, Instr.loadAt, Instr.sureAddr, Sem.run_bind, Sem.run_pure, Result.andThen_ok, run_loadVar_row w b t ty cs fr d (hg w hC) hu hd hz]
    exact ⟨rfl, rfl⟩⟩) h
/-- The one operation that may come up. -/
theorem anyC_one {g k i : Nat} {fuel : Nat} {listed : Array Bool} {R : World → Prop} {a : Act} (hr : Region.ready md ops listed = [i])
    (h : ∀ w, C w → R w → wpOp P ops Q i (fun a' w' => C w' ∧ ∃ R' : World → Prop, Stab R' ∧ R' w' ∧ anyC P md ops C Q g k fuel (listed.setIfInBounds i true) R' a') a w) :
    anyC P md ops C Q g k (fuel + 1) listed R a := by
  refine ⟨fun h0 => (by rw [hr] at h0; cases h0), fun w hC hRw j hj => ?_⟩
  rw [hr] at hj
  have hji : j = i := by simpa using hj
  subst hji
  exact h w hC hRw

/-- The two operations that may come up. -/
theorem anyC_two {g k i j : Nat} {fuel : Nat} {listed : Array Bool} {R : World → Prop} {a : Act} (hr : Region.ready md ops listed = [i, j])
    (h1 : ∀ w, C w → R w → wpOp P ops Q i (fun a' w' => C w' ∧ ∃ R' : World → Prop, Stab R' ∧ R' w' ∧ anyC P md ops C Q g k fuel (listed.setIfInBounds i true) R' a') a w)
    (h2 : ∀ w, C w → R w → wpOp P ops Q j (fun a' w' => C w' ∧ ∃ R' : World → Prop, Stab R' ∧ R' w' ∧ anyC P md ops C Q g k fuel (listed.setIfInBounds j true) R' a') a w) :
    anyC P md ops C Q g k (fuel + 1) listed R a := by
  refine ⟨fun h0 => (by rw [hr] at h0; cases h0), fun w hC hRw x hx => ?_⟩
  rw [hr] at hx
  simp only [List.mem_cons, List.not_mem_nil, or_false] at hx
  rcases hx with rfl | rfl
  · exact h1 w hC hRw
  · exact h2 w hC hRw
theorem wpOp_call {i : Nat} {o : Oper} {a : Act} {w : World} {K : Act → World → Prop} (d : Option Tmp) {f : FuncId} {args : Array Value} (hi : ops[i]? = some o) (hd : o.dst = d) (hw : Region.wanted o (yielded ops a.tmps) = true)
    (hr : (execOp a.eval o).run P w = .ok (.enter f args) w) (hc : Calls P f args w fun e w' => ∃ v, e = .returned v ∧ K (a.put d v) w') : wpOp P ops Q i K a w := by
  subst hd
  unfold wpOp
  simp only [hi, hw, if_true]
  refine .inl ?_
  unfold Oper.wp
  rw [hr]
  exact hc.mono fun e w' ⟨v, he, hk⟩ => by subst he; exact hk
theorem wpOp_alloc {i : Nat} {o : Oper} {a : Act} {w : World} {K : Act → World → Prop} (d : Option Tmp) (t : TypeId) (zs : Array Value) (hi : ops[i]? = some o) (hd : o.dst = d) (hw : Region.wanted o (yielded ops a.tmps) = true)
    (hz : (execOp a.eval o).run P w = .ok (.value (.pointer (some ⟨w.heap.size, 0, none⟩))) (w.alloc (.cells zs t)))
    (h : K (a.put d (.pointer (some ⟨w.heap.size, 0, none⟩))) (w.alloc (.cells zs t))) : wpOp P ops Q i K a w := by
  subst hd
  unfold wpOp
  simp only [hi, hw, if_true]
  refine .inl ?_
  unfold Oper.wp
  rw [hz]
  exact h
/-- Less may be known. -/
theorem anyC_weaken {g k : Nat} {R R2 : World → Prop} (h2 : ∀ w, R w → R2 w) {fuel : Nat} {listed : Array Bool} {a : Act} (h : anyC P md ops C Q g k fuel listed R2 a) : anyC P md ops C Q g k fuel listed R a := by
  cases fuel with
  | zero => exact ⟨h.1, fun w hC hR => h.2 w hC (h2 w hR)⟩
  | succ fuel => exact ⟨h.1, fun w hC hR => h.2 w hC (h2 w hR)⟩
/-- The one that may come up makes a block. -/
theorem anyC_alloc {g k i : Nat} {o : Oper} {fuel : Nat} {listed : Array Bool} {R : World → Prop} {a : Act} (d : Option Tmp) (hi : ops[i]? = some o) (hd : o.dst = d) (hr : Region.ready md ops listed = [i]) (hS : Stab R)
    (t : TypeId) (zs : Array Value) (hw : Region.wanted o (yielded ops a.tmps) = true) (hz : ∀ w, (execOp a.eval o).run P w = .ok (.value (.pointer (some ⟨w.heap.size, 0, none⟩))) (w.alloc (.cells zs t)))
    (hC : ∀ w, C w → C (w.alloc (.cells zs t)))
    (h : ∀ b, (∃ w, C w ∧ R w ∧ w.heap.size = b) → anyC P md ops C Q g k fuel (listed.setIfInBounds i true) (fun w => R w ∧ Blk w b t zs) (a.put d (.pointer (some ⟨b, 0, none⟩)))) :
    anyC P md ops C Q g k (fuel + 1) listed R a := by
    subst hd
    refine anyC_one hr fun w hc hRw => ?_
    unfold wpOp
    simp only [hi, hw, if_true]
    refine .inl ?_
    unfold Oper.wp
    rw [hz w]
    exact ⟨hC w hc, _, hS.and (Stab.blk _ _ _), ⟨hS _ _ hRw ((Grow.refl _).alloc (Nat.le_refl _) _), Blk.new _ _ _⟩, h _ ⟨w, hc, hRw, rfl⟩⟩

/-- The rest come up one by one, in the text's order. -/
theorem anyC_tail {l : List Oper} {k : Nat} {listed : Array Bool} {R : World → Prop} {a : Act} (hl : ∀ j, l[j]? = ops[k + j]?) (hr : Region.ready md ops listed = [k]) (hB : Region.seqB md ops l.length k listed = true)
    (h : ∀ w, C w → R w → wpList P ops Q l a w) : anyC P md ops C Q l.length k 0 listed R a :=
  ⟨hr, fun w hC hR => wpAny_of_seq l k listed a w hl hB (h w hC hR)⟩

theorem anyC_tail_lit {L : List Oper} {k : Nat} {listed : Array Bool} {R : World → Prop} {a : Act} (hB : (Region.ready md L.toArray listed == [k] && Region.seqB md L.toArray (L.drop k).length k listed) = true)
    (h : ∀ w, C w → R w → wpList P L.toArray Q (L.drop k) a w) : anyC P md L.toArray C Q (L.drop k).length k 0 listed R a := by
  simp only [Bool.and_eq_true, beq_iff_eq] at hB
  exact anyC_tail (fun j => by simp [List.getElem?_drop]) hB.1 hB.2 h
/-- The beginning: n operations in whatever order, then the rest. -/
theorem wp_region_anyC {id : Nat} {a : Act} {w : World} {l : List Oper} (n : Nat) (C : World → Prop) (hm : P.follows .mixedOrders = true) (hn : n + (l.drop n).length = l.toArray.size) (hC : C w.drew)
    (h : anyC P .any l.toArray C Q (l.drop n).length n n (Array.replicate l.toArray.size false) (fun _ => True) a) : (Code.region id l.toArray true).wp P Q a w := by
  refine wp_region_any hm ?_
  have := wpAny_of_anyC _ _ _ _ _ hC trivial h
  rw [hn] at this
  exact this
end
end Go.Proofs.YtddggjmfplohkaaDoor
/- The reference take: what it returns is what the plain functions give; the heap only grows. -/
namespace Go.Proofs.YtddggjmfplohkaaDoor
open Go.RowKit
end Go.Proofs.YtddggjmfplohkaaDoor
/- The reference's Pair: what it returns is what the plain function pairD gives; the heap only grows. -/
namespace Go.Proofs.YtddggjmfplohkaaDoor
open Go.RowKit
end Go.Proofs.YtddggjmfplohkaaDoor
/- Digests as a type of their own: their contracts, equality, and slices that read as lists; the numbers of the program enter by hypotheses alone but for the contracts of Pair. -/
namespace Go.Proofs.YtddggjmfplohkaaDoor
open Go.RowKit

abbrev D := { l : List UInt32 // l.length = 4 }
def D.zero : D := ⟨[0, 0, 0, 0], rfl⟩
instance : Inhabited D := ⟨D.zero⟩
def pairE (a b : D) : D := ⟨pairD a.1 b.1, rfl⟩
theorem D.sz (d : D) : (us d.1).size = 4 := by simp [us, d.2]
theorem D.one (d : D) : (us d.1).all (·.oneCell') = true := us_one d.1

theorem beq_range (xs ys : List UInt32) : ∀ n, xs.length = n → ys.length = n → ((List.range n).all fun i => xs.getD i 0 == ys.getD i 0) = (xs == ys) := by
  induction xs generalizing ys with
  | nil => intro n hx hy; subst hx; cases ys with
    | nil => rfl
    | cons y ys => simp at hy
  | cons x xs ih =>
    intro n hx hy
    cases ys with
    | nil => subst hx; simp at hy
    | cons y ys =>
      obtain ⟨m, rfl⟩ : ∃ m, n = m + 1 := ⟨xs.length, by simpa using hx.symm⟩
      rw [List.range_succ_eq_map, List.all_cons, List.all_map]
      have := ih ys m (by simpa using hx) (by simpa using hy)
      simp only [List.getD_cons_zero, Function.comp_def, List.getD_cons_succ, this]
      simp [List.cons_beq_cons]

section
variable {P : Program} (w : World)
theorem run_equalIn_us (d : Nat) (t e : TypeId) (n : Nat) (ht : P.underlying t = some (.array n e)) (he : P.underlying e = some (.int .u32)) (hsz : ∀ w, (sizeOf e).run P w = .ok 1 w)
    (xs ys : List UInt32) (hx : xs.length = n) (hy : ys.length = n) :
    (Op.equalIn (d + 2) t (.agg (us xs)) (.agg (us ys))).run P w = .ok (xs == ys) w := by
  rw [← beq_range xs ys n hx hy, List.range_eq_range', Op.equalIn]
  simp only [Sem.run_bind, run_underlying ht, Result.andThen_ok, hsz, Std.Legacy.Range.forIn_eq_forIn_range', Std.Legacy.Range.size, Nat.sub_zero, Nat.add_sub_cancel, Nat.div_one]
  have hl : ∀ i ∈ List.range' 0 n 1, i < n := fun i hi => by simpa using (List.mem_range'_1.1 hi).2
  generalize List.range' 0 n 1 = l at hl ⊢
  induction l with
  | nil => simp
  | cons i l ih =>
    have hi : i < n := hl i (by simp)
    have px : (part e (us xs) (i * 1)).run P w = .ok (u (xs.getD i 0)) w := by
      have := us_get xs i (by omega)
      simp [part, isAgg, run_underlying he, this]
    have py : (part e (us ys) (i * 1)).run P w = .ok (u (ys.getD i 0)) w := by
      have := us_get ys i (by omega)
      simp [part, isAgg, run_underlying he, this]
    have pe : (Op.equalIn (d + 1) e (u (xs.getD i 0)) (u (ys.getD i 0))).run P w = .ok (xs.getD i 0 == ys.getD i 0) w := by
      rw [run_equalIn_int w d e .u32 .u32 _ _ he]
      congr 1
      rw [Bool.eq_iff_iff]
      simp [← UInt32.toNat_inj]
      omega
    simp only [List.forIn_cons, Sem.run_bind, px, py, pe, Result.andThen_ok, List.all_cons]
    cases hb : (xs.getD i 0 == ys.getD i 0)
    · simp
    · simp only [Bool.not_true, Bool.false_eq_true, if_false, Sem.run_pure, Result.andThen_ok, Bool.true_and]
      exact ih fun j hj => hl j (by simp [hj])
theorem run_eql_D (t e : TypeId) (ht : P.underlying t = some (.array 4 e)) (he : P.underlying e = some (.int .u32)) (hsz : ∀ w, (sizeOf e).run P w = .ok 1 w) (a b : D) :
    (binOp .eql t (.agg (us a.1)) (.agg (us b.1))).run P w = .ok (.bool (decide (a = b))) w := by
  rw [run_eql_struct, run_equalIn_us w 9998 t e 4 ht he hsz a.1 b.1 a.2 b.2]
  have : (a.1 == b.1) = decide (a = b) := by
    rw [Bool.eq_iff_iff]; simp [Subtype.ext_iff]
  rw [this]
  rfl
theorem run_neq_D (t e : TypeId) (ht : P.underlying t = some (.array 4 e)) (he : P.underlying e = some (.int .u32)) (hsz : ∀ w, (sizeOf e).run P w = .ok 1 w) (a b : D) :
    (binOp .neq t (.agg (us a.1)) (.agg (us b.1))).run P w = .ok (.bool (!decide (a = b))) w := by
  have : (a.1 == b.1) = decide (a = b) := by
    rw [Bool.eq_iff_iff]; simp [Subtype.ext_iff]
  have h := run_equalIn_us w 9998 t e 4 ht he hsz a.1 b.1 a.2 b.2
  simp only [binOp]
  simp [Op.equal, Op.maxDepth, h, this]
end

/-- Whole numbers from 0 on as the model's values. -/
def ints (l : List Nat) : List Value := l.map fun (n : Nat) => Value.int .i64 (n : Int)
def dcells (l : List D) : List Value := l.flatMap fun d => d.1.map u
theorem dcells_length (l : List D) : (dcells l).length = l.length * 4 := by
  induction l with
  | nil => rfl
  | cons d l ih =>
    have e : dcells (d :: l) = d.1.map u ++ dcells l := by simp [dcells]
    rw [e, List.length_append, ih, List.length_map, d.2, List.length_cons]; omega
theorem dcells_append (a b : List D) : dcells (a ++ b) = dcells a ++ dcells b := by simp [dcells]
theorem dcells_one (d : D) : dcells [d] = d.1.map u := by simp [dcells]
theorem dcells_get (l : List D) (i j : Nat) (hi : i < l.length) (hj : j < 4) : (dcells l)[i * 4 + j]? = ((l.getD i D.zero).1.map u)[j]? := by
  induction l generalizing i with
  | nil => simp at hi
  | cons d l ih =>
    have e : dcells (d :: l) = d.1.map u ++ dcells l := by simp [dcells]
    rw [e]
    cases i with
    | zero => rw [Nat.zero_mul, Nat.zero_add, List.getElem?_append_left (by simp [d.2]; omega)]; simp
    | succ i =>
      rw [List.getElem?_append_right (by simp [d.2]; omega), List.length_map, d.2, show (i + 1) * 4 + j - 4 = i * 4 + j by omega, ih i (by simpa using hi)]
      simp

/-- The slice v reads as the cells xs, n elements of size cells each. -/
def Sl (w : World) (v : Value) (size n : Nat) (xs : List Value) : Prop :=
  ∃ A c, v = .slice A n c ∧ n ≤ c ∧ c ≤ maxLen ∧ xs.length = n * size ∧ (n = 0 ∨ ∃ g o, A = some ⟨g, o, none⟩ ∧ g < w.heap.size ∧ ∀ j x, xs[j]? = some x → w.cell? ⟨g, o + j, none⟩ = some x)
theorem Sl.grow {w w' : World} {v : Value} {size n : Nat} {xs : List Value} (h : Sl w v size n xs) (hg : Grow w w') : Sl w' v size n xs := by
  obtain ⟨A, c, h1, h2, h3, h4, h5⟩ := h
  refine ⟨A, c, h1, h2, h3, h4, h5.imp id ?_⟩
  rintro ⟨g, o, e, hl, hc⟩
  exact ⟨g, o, e, Nat.lt_of_lt_of_le hl hg.size, fun j x hx => (hg.cell (p := ⟨g, o + j, none⟩) hl).trans (hc j x hx)⟩
theorem Sl.of_own {w : World} {base : Nat} {e : TypeId} {size n : Nat} {v : Value} {xs : List Value} (h : w.ownsRow base e size v n xs) : Sl w v size n xs := by
  obtain ⟨hl, h | ⟨g, cap, cur, hv, _, hg, hn, hm, hs, ht⟩⟩ := h
  · obtain ⟨rfl, rfl⟩ := h
    exact ⟨none, 0, rfl, Nat.le_refl _, by simp [maxLen], hl, .inl rfl⟩
  · refine ⟨some ⟨g, 0, none⟩, cap, hv, hn, hm, hl, .inr ⟨g, 0, rfl, Blk.lt hg, fun j x hx => ?_⟩⟩
    rw [cell_of_row w g _ cur e (0, 0) hg, Nat.zero_add]
    rw [← ht] at hx
    have hj : j < (cur.toList.take (n * size)).length := (List.getElem?_eq_some_iff.1 hx).1
    rw [List.getElem?_take] at hx
    split at hx
    · simpa using hx
    · simp at hx
/-- A row of numbers of the call's own, written out. -/
theorem own_ints {w : World} {base : Nat} {e : TypeId} {n : Nat} {v : Value} {l : List Nat} (h : w.ownsRow base e 1 v n (ints l)) (hn : 0 < n) :
    ∃ g cap, v = .slice (some ⟨g, 0, none⟩) n cap ∧ base ≤ g ∧ n ≤ cap ∧ g < w.heap.size ∧ ∀ w', Grow w w' → ∀ j, j < n → w'.cell? ⟨g, j, none⟩ = some (.int .i64 ((l.getD j 0 : Nat) : Int)) := by
  have hs := Sl.of_own h
  obtain ⟨hl, h0 | ⟨g, cap, cur, hv, hb, hg, hc, hm, hsz, ht⟩⟩ := h
  · omega
  · refine ⟨g, cap, hv, hb, hc, Blk.lt hg, fun w' hgr j hj => ?_⟩
    obtain ⟨A, c, e1, _, _, e4, e5⟩ := hs.grow hgr
    rcases e5 with e5 | ⟨g', o, e6, _, e8⟩
    · omega
    · rw [hv] at e1
      injection e1 with e1 _ _
      rw [← e1] at e6
      injection e6 with e6
      injection e6 with e6 e7 _
      subst e6; subst e7
      have hl' : l.length = n := by simpa [ints] using hl
      have := e8 j (.int .i64 ((l.getD j 0 : Nat) : Int)) (by simp [ints, List.getD, List.getElem?_eq_getElem (show j < l.length by omega)])
      simpa using this
theorem own_ints_lit {w : World} {base : Nat} {e : TypeId} {n g cap : Nat} {l : List Nat} (h : w.ownsRow base e 1 (.slice (some ⟨g, 0, none⟩) n cap) n (ints l)) (hn : 0 < n) :
    ∀ w', Grow w w' → ∀ j, j < n → w'.cell? ⟨g, j, none⟩ = some (.int .i64 ((l.getD j 0 : Nat) : Int)) := by
  obtain ⟨g', cap', hv, _, _, _, hc⟩ := own_ints h hn
  injection hv with h1 _ _
  injection h1 with h1
  injection h1 with h1 _ _
  subst h1
  exact hc
theorem D.get (d : D) (k : Nat) (hk : k < 4) : (d.1.map u)[k]? = some (u (d.1.getD k 0)) := by
  have h4 := d.2
  rw [List.getElem?_map, List.getD_eq_getElem?_getD, List.getElem?_eq_getElem (show k < d.1.length by omega)]
  rfl
/-- A slice of digests that reads as l, its address and capacity named. -/
def SlD (w : World) (A : Option Addr) (n c : Nat) (l : List D) : Prop :=
  n ≤ c ∧ c ≤ maxLen ∧ l.length = n ∧ (0 < n → ∃ g o, A = some ⟨g, o, none⟩ ∧ g < w.heap.size ∧ ∀ i k, i < n → k < 4 → w.cell? ⟨g, o + i * 4 + k, none⟩ = some (u ((l.getD i D.zero).1.getD k 0)))
theorem SlD.grow {w w' : World} {A : Option Addr} {n c : Nat} {l : List D} (h : SlD w A n c l) (hg : Grow w w') : SlD w' A n c l := by
  obtain ⟨h1, h2, h3, h4⟩ := h
  refine ⟨h1, h2, h3, fun hn => ?_⟩
  obtain ⟨g, o, e, hl, hc⟩ := h4 hn
  exact ⟨g, o, e, Nat.lt_of_lt_of_le hl hg.size, fun i k hi hk => (hg.cell (p := ⟨g, o + i * 4 + k, none⟩) hl).trans (hc i k hi hk)⟩
theorem SlD.of_sl {w : World} {v : Value} {n : Nat} {l : List D} (h : Sl w v 4 n (dcells l)) : ∃ A c, v = .slice A n c ∧ SlD w A n c l := by
  obtain ⟨A, c, h1, h2, h3, h4, h5⟩ := h
  have hl : l.length = n := by rw [dcells_length] at h4; omega
  refine ⟨A, c, h1, h2, h3, hl, fun hn => ?_⟩
  rcases h5 with h5 | ⟨g, o, e, hlt, hc⟩
  · omega
  · refine ⟨g, o, e, hlt, fun i k hi hk => ?_⟩
    have := hc (i * 4 + k) (u ((l.getD i D.zero).1.getD k 0)) (by
      rw [dcells_get l i k (by omega) hk]
      exact D.get _ k hk)
    rw [← Nat.add_assoc] at this
    exact this
theorem SlD.of_own {w : World} {base : Nat} {e : TypeId} {n : Nat} {v : Value} {l : List D} (h : w.ownsRow base e 4 v n (dcells l)) : ∃ A c, v = .slice A n c ∧ SlD w A n c l := SlD.of_sl (Sl.of_own h)
theorem SlD.of_own' {w : World} {base : Nat} {e : TypeId} {n : Nat} {v : Value} {l : List D} (h : w.ownsRow base e 4 v n (dcells l)) : ∃ A c, v = .slice A n c ∧ SlD w A n c l ∧ ∀ ga oa, A = some ⟨ga, oa, none⟩ → base ≤ ga := by
  obtain ⟨A, c, hv, hs⟩ := SlD.of_own h
  refine ⟨A, c, hv, hs, ?_⟩
  rintro ga oa rfl
  obtain ⟨_, h | ⟨g, cap, cur, hv', hb, _⟩⟩ := h
  · rw [hv] at h; obtain ⟨h, _⟩ := h; injection h with h _ _; cases h
  · rw [hv] at hv'
    injection hv' with h1 _ _
    injection h1 with h1
    injection h1 with h1 _ _
    omega
theorem SlD.setRow {w : World} {A : Option Addr} {n c : Nat} {l : List D} (h : SlD w A n c l) {g : Nat} (hne : ∀ ga oa, A = some ⟨ga, oa, none⟩ → ga ≠ g) (cs : Array Value) : SlD (w.setRow g cs) A n c l := by
  obtain ⟨h1, h2, h3, h4⟩ := h
  refine ⟨h1, h2, h3, fun hn => ?_⟩
  obtain ⟨ga, o, e, hl, hc⟩ := h4 hn
  exact ⟨ga, o, e, by simpa using hl, fun i k hi hk => (cell_setRow_other w g cs ⟨ga, o + i * 4 + k, none⟩ (hne ga o e)).trans (hc i k hi hk)⟩
theorem SlD.lt {w : World} {A : Option Addr} {n c : Nat} {l : List D} (h : SlD w A n c l) (hn : 0 < n) : ∀ ga oa, A = some ⟨ga, oa, none⟩ → ga < w.heap.size := by
  rintro ga oa rfl
  obtain ⟨g, o, e, hl, _⟩ := h.2.2.2 hn
  injection e with e
  injection e with e _ _
  omega
theorem ownsRow_base {w : World} {base base' : Nat} {e : TypeId} {size n : Nat} {v : Value} {xs : List Value} (h : w.ownsRow base e size v n xs) (hb : base' ≤ base) : w.ownsRow base' e size v n xs := by
  obtain ⟨hl, h | ⟨g, cap, cur, hv, h1, h2⟩⟩ := h
  · exact ⟨hl, .inl h⟩
  · exact ⟨hl, .inr ⟨g, cap, cur, hv, Nat.le_trans hb h1, h2⟩⟩
theorem ownsRow_grow {w w' : World} {base : Nat} {e : TypeId} {size n : Nat} {v : Value} {xs : List Value} (h : w.ownsRow base e size v n xs) (hg : Grow w w') : w'.ownsRow base e size v n xs := by
  obtain ⟨hl, h | ⟨g, cap, cur, hv, h1, h2, h3⟩⟩ := h
  · exact ⟨hl, .inl h⟩
  · exact ⟨hl, .inr ⟨g, cap, cur, hv, h1, (hg.block g (Blk.lt h2)).trans h2, h3⟩⟩
/-- Two rows of unlike element types: what is done to one leaves the other. -/
theorem ownsRow_beside {w w' : World} {b b' : Nat} {e e' : TypeId} {s s' n n' : Nat} {v v' : Value} {xs xs' : List Value} (h : w.ownsRow b e s v n xs) (k : w.ownsRow b' e' s' v' n' xs') (hne : e ≠ e')
    (hs : ∀ g, g < w.heap.size → v'.ownBlock ≠ some g → w'.heap[g]? = w.heap[g]?) : w'.ownsRow b e s v n xs := by
  obtain ⟨hl, h | ⟨g, cap, cur, hv, h1, h2, h3⟩⟩ := h
  · exact ⟨hl, .inl h⟩
  · refine ⟨hl, .inr ⟨g, cap, cur, hv, h1, (hs g (Blk.lt h2) ?_).trans h2, h3⟩⟩
    obtain ⟨_, k | ⟨g', cap', cur', hv', _, k2, _⟩⟩ := k
    · rw [k.1]; simp [Value.ownBlock]
    · rw [hv']
      intro he
      have : g' = g := by simpa [Value.ownBlock] using he
      subst this
      rw [h2] at k2
      injection k2 with k2
      injection k2 with _ k3
      exact hne k3
theorem grow_of_grownBy {B : Nat} {w w' : World} {row : Option Nat} (hg : w.grownBy w' row) (hB : B ≤ w.heap.size) (hr : ∀ k, row = some k → B ≤ k) : Below B w w' := (Below.refl B w).grown hg hB hr

/-- make with constants. -/
theorem run_make_const {P : Program} (t e : TypeId) (z : Value) (size bytes : Nat) (ht : P.underlying t = some (.slice e)) (hinfo : (P.info? e).map (fun i => (i.zero, i.size, i.bytes)) = some (some z, size, bytes))
    (n c : Nat) (hnc : n ≤ c) (hbytes : bytes * c ≤ 281474976710656) (h63 : c ≤ 9223372036854775807) (w : World) :
    (Instr.makeSlice t (.int .i64 (n : Int)) (.int .i64 (c : Int))).run P w = .ok (.slice (some ⟨w.heap.size, 0, none⟩) n c) (w.alloc (.cells (madeCells z.cells (c * size)) e)) := by
  obtain ⟨i, hi, hz, rfl, rfl⟩ := info_parts hinfo
  have hb : (i.bytes : Int) * (c : Int) ≤ 281474976710656 := by
    have h : ((i.bytes * c : Nat) : Int) ≤ 281474976710656 := by omega
    rwa [Int.natCast_mul] at h
  have hr := run_make (P := P) w t e i z ht hi hz .i64 .i64 n c (by omega) (by omega) hb (by omega)
  simp only [Int.toNat_natCast] at hr
  exact hr
/-- A slice literal of one digest. -/
theorem run_buildSlice_D {P : Program} (t e : TypeId) (z : Array Value) (bytes : Nat) (hz : z.size = 4) (ht : P.underlying t = some (.slice e)) (hinfo : (P.info? e).map (fun i => (i.zero, i.size, i.bytes)) = some (some (.agg z), 4, bytes))
    (d : D) (w : World) : (Instr.buildSlice t 1 #[(0, .agg (us d.1))]).run P w = .ok (.slice (some ⟨w.heap.size, 0, none⟩) 1 1) (w.alloc (.cells (us d.1) e)) := by
  obtain ⟨i, hi, hzz, hsz, rfl⟩ := info_parts hinfo
  obtain ⟨l, hl⟩ := d
  match l, hl with
  | [x0, x1, x2, x3], hl =>
    match z, hz with
    | ⟨[z0, z1, z2, z3]⟩, _ =>
      simp [Instr.buildSlice, run_underlying ht, sizeOf, typeInfo, hi, hsz, zeroValue, hzz, Value.cells, us, Instr.fill, go_sem]
theorem wpList_buildSlice_D {P : Program} {ops : Array Oper} {rest : List Oper} {o : Oper} {a : Act} {Q : Exit → Act → World → Prop} {w : World} (hgd : o.guard = none) (t e : TypeId) (x : Operand) (ho : o.op = .buildSlice t 1 #[(0, x)]) (z : Array Value) (bytes : Nat) (hz : z.size = 4) (ht : P.underlying t = some (.slice e)) (hinfo : (P.info? e).map (fun i => (i.zero, i.size, i.bytes)) = some (some (.agg z), 4, bytes))
    (d : D) (hx : a.eval x = .agg (us d.1)) (h : wpList P ops Q rest (a.put o.dst (.slice (some ⟨w.heap.size, 0, none⟩) 1 1)) (w.alloc (.cells (d.1.map u).toArray e))) : wpList P ops Q (o :: rest) a w :=
  wpList_plain hgd fun _ hK => by
    unfold Oper.wp execOp
    simp only [ho, List.map_toArray, List.map_cons, List.map_nil, hx, run_buildSlice_D t e z bytes hz ht hinfo d, Sem.run_bind, Result.andThen_ok]
    exact hK _ _ h
section
variable {P : Program}
theorem run_load_D {o : Oper} {a : Act} {w : World} (ty : TypeId) (x : Operand) (ho : o.op = .load ty x) (b off : Nat) (hx : a.eval x = .pointer (some ⟨b, off, none⟩)) (d : D)
    (hc : ∀ k, k < 4 → w.cell? ⟨b, off + k, none⟩ = some (u (d.1.getD k 0))) (e : TypeId) (hu : P.underlying ty = some (.array 4 e)) (hi : (P.info? ty).map (·.size) = some 4) :
    (execOp a.eval o).run P w = .ok (.value (.agg (us d.1))) w := by
  have hr : w.rangeAt b off (d.1.map u) := fun j v hv => by
    have hj : j < (d.1.map u).length := (List.getElem?_eq_some_iff.1 hv).1
    have hj4 : j < 4 := by simpa [d.2] using hj
    have := hc j hj4
    have h4 := d.2
    rw [List.getElem?_map, List.getElem?_eq_getElem (by omega)] at hv
    simp only [Option.map_some, Option.some.injEq] at hv
    rw [this, ← hv]
    simp [List.getD, List.getElem?_eq_getElem (show j < d.1.length by omega)]
  unfold execOp
  simp only [ho, hx, Instr.loadAt, Instr.sureAddr, Sem.run_bind, Sem.run_pure, Result.andThen_ok, run_loadVar_mid w b off ty (d.1.map u) _ hr hu rfl (by rw [hi, List.length_map, d.2])]
  rfl
theorem wpList_load_D {ops : Array Oper} {rest : List Oper} {o : Oper} {a : Act} {Q : Exit → Act → World → Prop} {w : World} (hgd : Region.wanted o (yielded ops a.tmps) = true) (ty : TypeId) (x : Operand) (ho : o.op = .load ty x) (b off : Nat) (hx : a.eval x = .pointer (some ⟨b, off, none⟩)) (d : D)
    (hc : ∀ k, k < 4 → w.cell? ⟨b, off + k, none⟩ = some (u (d.1.getD k 0))) (e : TypeId) (hu : P.underlying ty = some (.array 4 e)) (hi : (P.info? ty).map (·.size) = some 4)
    (h : wpList P ops Q rest (a.put o.dst (.agg (us d.1))) w) : wpList P ops Q (o :: rest) a w :=
  by
    unfold wpList
    rw [if_pos hgd]
    refine .inl ?_
    unfold Oper.wp
    rw [run_load_D ty x ho b off hx d hc e hu hi]
    exact h
theorem quiet_load_D {ops : Array Oper} {rest : List Oper} {C : World → Prop} {o : Oper} {a : Act} {Q : Act → Prop} (hgd : Region.wanted o (yielded ops a.tmps) = true) (ty : TypeId) (x : Operand) (ho : o.op = .load ty x) (b off : Nat) (hx : a.eval x = .pointer (some ⟨b, off, none⟩)) (d : D)
    (hc : ∀ w, C w → ∀ k, k < 4 → w.cell? ⟨b, off + k, none⟩ = some (u (d.1.getD k 0))) (e : TypeId) (hu : P.underlying ty = some (.array 4 e)) (hi : (P.info? ty).map (·.size) = some 4)
    (h : wpQuiet P ops C Q rest (a.put o.dst (.agg (us d.1)))) : wpQuiet P ops C Q (o :: rest) a :=
  quiet_val _ hgd (fun w hw => run_load_D ty x ho b off hx d (hc w hw) e hu hi) h
theorem results_row_tmp {fn : Func} {p q : Tmp} {ty : TypeId} (h : fn.results = #[.cell p ty, .tmp q]) (tmps : Array Value) (w : World) (g : Nat) (t : TypeId) (cs : Array Value) (fr : Nat × Nat) (d : TypeDesc)
    (hp : tmps.getD p undef = .pointer (some ⟨g, 0, none⟩)) (hg : w.heap[g]? = some (.cells cs t fr))
    (hu : P.underlying ty = some d) (hd : (match d with | .struct _ | .array _ _ => true | _ => false) = true) (hi : (P.info? ty).map (·.size) = some cs.size) :
    (results fn tmps).run P w = .ok (.tuple #[.agg cs, tmps.getD q undef]) w := by
  rw [results_cell_tmp h, hp]
  simp [asAddr, run_loadVar_row w g t ty cs fr d hg hu hd hi]
/-- append of a fresh block's elements onto a row of the call's own. -/
theorem wpList_append_new {ops : Array Oper} {rest : List Oper} {o : Oper} {a : Act} {Q : Exit → Act → World → Prop} {wr : World} (hgd : o.guard = none) (s x : Operand) (t : TypeId)
    (ho : o.op = .call { callee := .builtin .append, args := #[s, x], argTypes := #[t, t] })
    (base : Nat) (e : TypeId) (z : Value) (size bytes : Nat) (ht : P.underlying t = some (.slice e)) (hinfo : (P.info? e).map (fun i => (i.zero, i.size, i.bytes)) = some (some z, size, bytes))
    (hzs : z.cells.size = size) (hsz : 0 < size)
    (v : Value) (n : Nat) (xs : List Value) (hs : a.eval s = v) (hown : wr.ownsRow base e size v n xs)
    (m c : Nat) (news : List Value) (hx : a.eval x = .slice (some ⟨wr.heap.size, 0, none⟩) m c) (hl : news.length = m * size) (h1 : ∀ u ∈ news, u.oneCell' = true)
    (h63 : n + m ≤ maxLen) (hbytes : (n + m) * bytes ≤ 140737488355328) (hbase : base ≤ wr.heap.size)
    (h : ∀ v' w', w'.ownsRow base e size v' (n + m) (xs ++ news) → Below base wr w' → (∀ g, g < wr.heap.size → v.ownBlock ≠ some g → w'.heap[g]? = wr.heap[g]?) → wpList P ops Q rest (a.put o.dst v') w') : wpList P ops Q (o :: rest) a (wr.alloc (.cells news.toArray e)) := by
  obtain ⟨i, hi, hz0, hz1, hz2⟩ := info_parts hinfo
  refine wpList_append_own _ hgd s x t ho base e i z size bytes ht hi hz0 hz1 hz2 hzs hsz v n xs hs (hown.alloc _) ⟨wr.heap.size, 0, none⟩ m c news hx hl ?_ h1 h63 hbytes (Nat.le_trans hbase (by simp)) ?_
  · intro j y hy
    have hadd : (⟨wr.heap.size, 0, none⟩ : Addr).add j = ⟨wr.heap.size, j, none⟩ := by unfold Addr.add; split <;> simp_all
    rw [hadd, (Blk.new wr e news.toArray).cell j]
    simpa using hy
  · intro v' w' h2 h3 h4
    have hr := hown.lt
    refine h v' w' h2 ?_ (fun g hg hne => (h3.block g (by simp; omega) (fun e => hne e.symm)).trans (Below.heap_alloc wr _ g hg))
    exact ((Below.refl base wr).alloc hbase _).grown h3 (Nat.le_trans hbase (by simp)) fun k hk => (hr k hk).1
end
end Go.Proofs.YtddggjmfplohkaaDoor
