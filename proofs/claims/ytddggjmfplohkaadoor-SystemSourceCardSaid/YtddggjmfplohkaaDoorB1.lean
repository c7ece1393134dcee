import Derived.WalkKit
import Derived.WalkSpells
import Derived.WalkLawsBesides
import Derived.Deep.QuietTactic
import Derived.BigQuiet
import Derived.StillTailTactics
import Derived.Deep.RegionHeld3
import Derived.Lib.Hide
import Derived.Deep.DeepFit
import Derived.Deep.Cut
import Derived.Deep.CutRange
import Derived.Deep.DeepCutAuto
import Derived.Deep.CutBlock
import Derived.Deep.MidRow
import Derived.Deep.WholeRow
import Derived.Laws.BitsAllLaws
import Derived.Laws.BitsLemmas
import Derived.Test.YtddggjmfplohkaaDoorRows
import Derived.StillTail
import Derived.Deep.Quiet
import Derived.Laws.StructEq
import Derived.Laws.AppendOwn
import Derived.Laws.MakeOwn
/- Lemmas of the prover's own on worlds, blocks and slices; no program is named here. -/
namespace Go.Proofs.YtddggjmfplohkaaDoor
open Go.RowKit

/-- From w to w' the heap has only grown: every block of w is as it was. -/
abbrev Grow (w w' : World) : Prop := Below w.heap.size w w'

theorem Grow.refl (w : World) : Grow w w := Below.refl _ _
theorem Grow.tr {a b c : World} (h : Grow a b) (k : Grow b c) : Grow a c := Below.trans h (Below.mono k h.size)
theorem Grow.drew {a b : World} (h : Grow a b) : Grow a b.drew := Below.drew h

/-- Block g is just the cells cs of element type t, none frozen. -/
def Blk (w : World) (g : Nat) (t : TypeId) (cs : Array Value) : Prop := w.heap[g]? = some (.cells cs t (0, 0))

section
variable {w w' : World} {g : Nat} {t : TypeId} {cs : Array Value}
theorem Blk.lt (h : Blk w g t cs) : g < w.heap.size := by
  rcases Nat.lt_or_ge g w.heap.size with hlt | hge
  · exact hlt
  · unfold Blk at h; rw [Array.getElem?_eq_none hge] at h; cases h
theorem Blk.cell (h : Blk w g t cs) (i : Nat) : w.cell? ⟨g, i, none⟩ = cs[i]? := cell_of_row w g i cs t (0, 0) h
theorem Blk.frozen (h : Blk w g t cs) (i : Nat) : w.frozen? ⟨g, i, none⟩ = false := by
  unfold Blk at h
  simp [World.frozen?, h]
theorem Blk.new (w : World) (t : TypeId) (cs : Array Value) : Blk (w.alloc (.cells cs t)) w.heap.size t cs := heap_alloc_new w _
theorem Blk.drew (h : Blk w g t cs) : Blk w.drew g t cs := h
theorem Blk.drewN (h : Blk w g t cs) (n : Nat) : Blk (w.drewN n) g t cs := h
theorem Blk.alloc (h : Blk w g t cs) (o : Obj) : Blk (w.alloc o) g t cs := (Below.heap_alloc w o g h.lt).trans h
theorem Blk.set_ (h : Blk w g t cs) (i : Nat) (u : Value) : Blk (w.setCell ⟨g, i, none⟩ u) g t (cs.setIfInBounds i u) := by
  unfold Blk at h ⊢
  simp [World.setCell, Array.getElem?_modify, h]
theorem Blk.far (h : Blk w g t cs) {p : Addr} (hp : g ≠ p.block) (u : Value) : Blk (w.setCell p u) g t cs := (Below.heap_setCell w p u g hp).trans h
theorem Blk.below {B : Nat} (h : Blk w g t cs) (hb : Below B w w') (hg : g < B) : Blk w' g t cs := (hb.block g hg).trans h
theorem Blk.grow (h : Blk w g t cs) (hb : Grow w w') : Blk w' g t cs := (hb.block g h.lt).trans h
end

/-- A word of 32 bits as the model's value. -/
abbrev u (x : UInt32) : Value := .int .u32 (x.toNat : Int)
def us (l : List UInt32) : Array Value := (l.map u).toArray

end Go.Proofs.YtddggjmfplohkaaDoor
/- The digest's plain functions on words of 32 bits; no program is named here. -/
namespace Go.Proofs.YtddggjmfplohkaaDoor
open Go.RowKit

/-- x turned to the left by k places. -/
def rot (k : Nat) (x : UInt32) : UInt32 := UInt32.ofNat ((x.toNat * 2 ^ k) % 4294967296 + x.toNat / 2 ^ (32 - k))

/-- The places of the four pairs. -/
def placeN (j : Nat) : Nat := [7, 9, 13, 18].getD j 0
/-- One pair's step. -/
def innerStep (s : List UInt32) (j : Nat) : List UInt32 :=
  let s1 := s.set j (s.getD j 0 + s.getD (j + 4) 0)
  s1.set (j + 4) (rot (placeN j) (s1.getD (j + 4) 0 ^^^ s1.getD j 0))
def inner (s : List UInt32) : Nat → List UInt32
  | 0 => s
  | j + 1 => innerStep (inner s j) j
def shuf (old s : List UInt32) : Nat → List UInt32
  | 0 => s
  | j + 1 => (shuf old s j).set j (old.getD ((j + 3) % 8) 0)
def mixRound (s : List UInt32) (r : Nat) : List UInt32 :=
  let b := inner (s.set 0 (s.getD 0 0 + 2654435769 * (UInt32.ofNat r + 1))) 4
  shuf b b 8
def mixTo (s : List UInt32) : Nat → List UInt32
  | 0 => s
  | r + 1 => mixRound (mixTo s r) r
def mix (s : List UInt32) : List UInt32 := mixTo s 8
/-- A block of four words taken in. -/
def xorIn (s b : List UInt32) : Nat → List UInt32
  | 0 => s
  | j + 1 => (xorIn s b j).set j ((xorIn s b j).getD j 0 ^^^ b.getD j 0)
def takeIn (s b : List UInt32) : List UInt32 := mix (xorIn s b 4)

def front (s : List UInt32) : List UInt32 := [s.getD 0 0, s.getD 1 0, s.getD 2 0, s.getD 3 0]
def pairD (a b : List UInt32) : List UInt32 := front (takeIn (takeIn [2, 0, 0, 0, 0, 0, 0, 0] a) b)
end Go.Proofs.YtddggjmfplohkaaDoor
/- word.Turn, math/bits.RotateLeft32 and the reference Turn, at the four places that the digest uses: all three turn a word alike. -/
namespace Go.Proofs.YtddggjmfplohkaaDoor
open Go.RowKit
end Go.Proofs.YtddggjmfplohkaaDoor
/- A region that draws its order: its first operations are quiet in a class of worlds, the rest come behind them, one by one; no program is named here. -/
namespace Go.Proofs.YtddggjmfplohkaaDoor
open Go.RowKit
section
variable {P : Program} {ops : Array Oper} {md : Region.Mode} {C : World → Prop}

end
end Go.Proofs.YtddggjmfplohkaaDoor
/- digest.Mix: on any eight words it returns what the plain function mix gives; the heap only grows. -/
namespace Go.Proofs.YtddggjmfplohkaaDoor
open Go.RowKit
theorem us_one (t : List UInt32) : (us t).all (·.oneCell') = true := by simp [us, Value.oneCell']
end Go.Proofs.YtddggjmfplohkaaDoor
/- digest.take: what it returns is what the plain function takeIn gives; the heap only grows. -/
namespace Go.Proofs.YtddggjmfplohkaaDoor
open Go.RowKit
end Go.Proofs.YtddggjmfplohkaaDoor
/- digest.front, digest.Pair: what they return is what the plain functions give; the heap only grows. -/
namespace Go.Proofs.YtddggjmfplohkaaDoor
open Go.RowKit
end Go.Proofs.YtddggjmfplohkaaDoor
/- The reference's turns and Mix: on any eight words it returns what the plain function mix gives; the heap only grows. -/
namespace Go.Proofs.YtddggjmfplohkaaDoor
open Go.RowKit
end Go.Proofs.YtddggjmfplohkaaDoor
/- A region that draws its order, some of whose operations make memory that later ones look at: each operation that yields one value in every world of a class is taken first; the others come when nothing else may; no program is named here. -/
namespace Go.Proofs.YtddggjmfplohkaaDoor
open Go.RowKit
/-- Kept while the heap grows. -/
def Stab (R : World → Prop) : Prop := ∀ w w', R w → Grow w w' → R w'
theorem Stab.and {R S : World → Prop} (h : Stab R) (k : Stab S) : Stab (fun w => R w ∧ S w) := fun w w' x g => ⟨h w w' x.1 g, k w w' x.2 g⟩
section
variable {P : Program} {ops : Array Oper} {md : Region.Mode} {C : World → Prop} {Q : Exit → Act → World → Prop}

def growUpon (P : Program) (C : World → Prop) (w : World) (v : Value) : Result Next → Prop
  | .ok (.value u) w' => w' = w ∧ u = v
  | .ok .skip w' => w' = w ∧ v = undef
  | .ok (.enter f args) w' => w' = w ∧ Calls P f args w (fun e w'' => e = .returned v ∧ C w'' ∧ Grow w w'')
  | _ => False
/-- In the world w of the class the operation yields v, and the heap has only grown. -/
def growAt (P : Program) (C : World → Prop) (o : Oper) (a : Act) (w : World) (v : Value) : Prop := growUpon P C w v ((execOp a.eval o).run P w)
def YG (P : Program) (ops : Array Oper) (C : World → Prop) (o : Oper) (v : Value) (a : Act) : Prop :=
  (Region.wanted o (yielded ops a.tmps) = true ∧ ∀ w, C w → growAt P C o a w v) ∨ (Region.wanted o (yielded ops a.tmps) = false ∧ v = undef)

theorem YG.wpOp {i : Nat} {o : Oper} {v : Value} {a : Act} (hi : ops[i]? = some o) (hy : YG P ops C o v a) {R : World → Prop} (hR : Stab R) {w : World} (hC : C w) (hr : R w)
    {K : Act → World → Prop} (h : ∀ w', C w' → R w' → K (a.put o.dst v) w') : wpOp P ops Q i K a w := by
  unfold Go.wpOp
  simp only [hi]
  rcases hy with ⟨hw, hv⟩ | ⟨hw, rfl⟩
  · simp only [hw, if_true]
    refine .inl ?_
    have h3 := hv w hC
    unfold growAt at h3
    unfold Oper.wp
    generalize (execOp a.eval o).run P w = r at *
    cases r with
    | ok n w' =>
      cases n <;> simp only [growUpon] at h3 <;> simp only [Oper.upon]
      case value u =>
        obtain ⟨e1, e2⟩ := h3
        rw [e1, e2]
        exact h _ hC hr
      case skip =>
        obtain ⟨e1, e2⟩ := h3
        rw [e1, ← e2]
        exact h _ hC hr
      case enter f args =>
        obtain ⟨e1, hc⟩ := h3
        rw [e1]
        exact hc.mono fun e w'' ⟨he, hw'', hg⟩ => by subst he; exact h _ hw'' (hR _ _ hr hg)
    | halt x w' => simp only [growUpon] at h3
  · simp only [hw, Bool.false_eq_true, if_false]; exact h _ hC hr

/-- Every operation that has come up has all behind it that it waits for. -/
def Closed (md : Region.Mode) (ops : Array Oper) (listed : Array Bool) : Prop :=
  ∀ j oj, ops[j]? = some oj → listed.getD j false = true → ∀ e ∈ oj.after, Region.binds md e = true → listed.getD e.on false = true
theorem Closed.set {listed : Array Bool} {i : Nat} (h : Closed md ops listed) (hi : i ∈ Region.ready md ops listed) : Closed md ops (listed.setIfInBounds i true) := by
  obtain ⟨_, oi, hoi, hall⟩ := mem_ready.1 hi
  intro j oj hj hl e he hb
  by_cases hij : i = j
  · subst hij
    have : oj = oi := Option.some.inj (hj.symm.trans hoi)
    subst this
    exact getD_set_true (hall e he hb)
  · rw [getD_set_ne false hij] at hl
    exact getD_set_true (h j oj hj hl e he hb)

attribute [go_sem] growAt growUpon

end
end Go.Proofs.YtddggjmfplohkaaDoor
/- The reference take: what it returns is what the plain functions give; the heap only grows. -/
namespace Go.Proofs.YtddggjmfplohkaaDoor
open Go.RowKit
end Go.Proofs.YtddggjmfplohkaaDoor
/- The reference's Pair: what it returns is what the plain function pairD gives; the heap only grows. -/
namespace Go.Proofs.YtddggjmfplohkaaDoor
open Go.RowKit
end Go.Proofs.YtddggjmfplohkaaDoor
/- Digests as a type of their own: their contracts, equality, and slices that read as lists; the numbers of the program enter by hypotheses alone but for the contracts of Pair. -/
namespace Go.Proofs.YtddggjmfplohkaaDoor
open Go.RowKit

abbrev D := { l : List UInt32 // l.length = 4 }
def D.zero : D := ⟨[0, 0, 0, 0], rfl⟩
instance : Inhabited D := ⟨D.zero⟩
theorem D.sz (d : D) : (us d.1).size = 4 := by simp [us, d.2]
theorem D.one (d : D) : (us d.1).all (·.oneCell') = true := us_one d.1

section
variable {P : Program} (w : World)
end

/-- The slice v reads as the cells xs, n elements of size cells each. -/
def Sl (w : World) (v : Value) (size n : Nat) (xs : List Value) : Prop :=
  ∃ A c, v = .slice A n c ∧ n ≤ c ∧ c ≤ maxLen ∧ xs.length = n * size ∧ (n = 0 ∨ ∃ g o, A = some ⟨g, o, none⟩ ∧ g < w.heap.size ∧ ∀ j x, xs[j]? = some x → w.cell? ⟨g, o + j, none⟩ = some x)
theorem Sl.grow {w w' : World} {v : Value} {size n : Nat} {xs : List Value} (h : Sl w v size n xs) (hg : Grow w w') : Sl w' v size n xs := by
  obtain ⟨A, c, h1, h2, h3, h4, h5⟩ := h
  refine ⟨A, c, h1, h2, h3, h4, h5.imp id ?_⟩
  rintro ⟨g, o, e, hl, hc⟩
  exact ⟨g, o, e, Nat.lt_of_lt_of_le hl hg.size, fun j x hx => (hg.cell (p := ⟨g, o + j, none⟩) hl).trans (hc j x hx)⟩
theorem D.get (d : D) (k : Nat) (hk : k < 4) : (d.1.map u)[k]? = some (u (d.1.getD k 0)) := by
  have h4 := d.2
  rw [List.getElem?_map, List.getD_eq_getElem?_getD, List.getElem?_eq_getElem (show k < d.1.length by omega)]
  rfl
/-- A slice of digests that reads as l, its address and capacity named. -/
def SlD (w : World) (A : Option Addr) (n c : Nat) (l : List D) : Prop :=
  n ≤ c ∧ c ≤ maxLen ∧ l.length = n ∧ (0 < n → ∃ g o, A = some ⟨g, o, none⟩ ∧ g < w.heap.size ∧ ∀ i k, i < n → k < 4 → w.cell? ⟨g, o + i * 4 + k, none⟩ = some (u ((l.getD i D.zero).1.getD k 0)))
theorem SlD.grow {w w' : World} {A : Option Addr} {n c : Nat} {l : List D} (h : SlD w A n c l) (hg : Grow w w') : SlD w' A n c l := by
  obtain ⟨h1, h2, h3, h4⟩ := h
  refine ⟨h1, h2, h3, fun hn => ?_⟩
  obtain ⟨g, o, e, hl, hc⟩ := h4 hn
  exact ⟨g, o, e, Nat.lt_of_lt_of_le hl hg.size, fun i k hi hk => (hg.cell (p := ⟨g, o + i * 4 + k, none⟩) hl).trans (hc i k hi hk)⟩
theorem SlD.lt {w : World} {A : Option Addr} {n c : Nat} {l : List D} (h : SlD w A n c l) (hn : 0 < n) : ∀ ga oa, A = some ⟨ga, oa, none⟩ → ga < w.heap.size := by
  rintro ga oa rfl
  obtain ⟨g, o, e, hl, _⟩ := h.2.2.2 hn
  injection e with e
  injection e with e _ _
  omega

/-- make with constants. -/
theorem run_make_const {P : Program} (t e : TypeId) (z : Value) (size bytes : Nat) (ht : P.underlying t = some (.slice e)) (hinfo : (P.info? e).map (fun i => (i.zero, i.size, i.bytes)) = some (some z, size, bytes))
    (n c : Nat) (hnc : n ≤ c) (hbytes : bytes * c ≤ 281474976710656) (h63 : c ≤ 9223372036854775807) (w : World) :
    (Instr.makeSlice t (.int .i64 (n : Int)) (.int .i64 (c : Int))).run P w = .ok (.slice (some ⟨w.heap.size, 0, none⟩) n c) (w.alloc (.cells (madeCells z.cells (c * size)) e)) := by
  obtain ⟨i, hi, hz, rfl, rfl⟩ := info_parts hinfo
  have hb : (i.bytes : Int) * (c : Int) ≤ 281474976710656 := by
    have h : ((i.bytes * c : Nat) : Int) ≤ 281474976710656 := by omega
    rwa [Int.natCast_mul] at h
  have hr := run_make (P := P) w t e i z ht hi hz .i64 .i64 n c (by omega) (by omega) hb (by omega)
  simp only [Int.toNat_natCast] at hr
  exact hr
section
variable {P : Program}
end
end Go.Proofs.YtddggjmfplohkaaDoor
