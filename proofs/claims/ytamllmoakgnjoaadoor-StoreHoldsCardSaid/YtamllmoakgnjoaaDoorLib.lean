/- Lemmas of the prover's own on worlds, blocks and slices; no program is named here. -/
import Derived.WalkKit
import Derived.WalkSpells
import Derived.WalkLawsBesides
import Derived.Deep.QuietTactic
import Derived.BigQuiet
import Derived.StillTailTactics
import Derived.Deep.RegionHeld3
import Derived.Lib.Hide
import Derived.Deep.DeepFit
import Derived.Deep.Cut
import Derived.Deep.CutRange
import Derived.Deep.DeepCutAuto
import Derived.Deep.CutBlock
import Derived.Deep.MidRow
import Derived.Deep.WholeRow
namespace Go.Proofs.YtamllmoakgnjoaaDoor
open Go.RowKit

/-- From w to w' the heap has only grown: every block of w is as it was. -/
abbrev Grow (w w' : World) : Prop := Below w.heap.size w w'

theorem Grow.refl (w : World) : Grow w w := Below.refl _ _
theorem Grow.tr {a b c : World} (h : Grow a b) (k : Grow b c) : Grow a c := Below.trans h (Below.mono k h.size)
theorem Grow.drew {a b : World} (h : Grow a b) : Grow a b.drew := Below.drew h
theorem below_tr {n : Nat} {a b c : World} (h : Below n a b) (k : Grow b c) (hn : n ≤ b.heap.size) : Below n a c := Below.trans h (Below.mono k hn)
theorem below_drewN {B : Nat} {a w : World} (h : Below B a w) (n : Nat) : Below B a (w.drewN n) := ⟨h.os, h.tape, h.output, h.size, h.block⟩

theorem _root_.Go.RowKit.Below.setRow {B : Nat} {a w : World} (h : Below B a w) {g : Nat} (hg : B ≤ g) (cs : Array Value) : Below B a (w.setRow g cs) :=
  h.trans ⟨rfl, rfl, rfl, by simp, fun k hk => setRow_other w g k cs (by omega)⟩
/-- Block g is just the cells cs of element type t, none frozen. -/
def Blk (w : World) (g : Nat) (t : TypeId) (cs : Array Value) : Prop := w.heap[g]? = some (.cells cs t (0, 0))

section
variable {w w' : World} {g : Nat} {t : TypeId} {cs : Array Value}
theorem Blk.lt (h : Blk w g t cs) : g < w.heap.size := by
  rcases Nat.lt_or_ge g w.heap.size with hlt | hge
  · exact hlt
  · unfold Blk at h; rw [Array.getElem?_eq_none hge] at h; cases h
theorem Blk.cell (h : Blk w g t cs) (i : Nat) : w.cell? ⟨g, i, none⟩ = cs[i]? := cell_of_row w g i cs t (0, 0) h
theorem Blk.frozen (h : Blk w g t cs) (i : Nat) : w.frozen? ⟨g, i, none⟩ = false := by
  unfold Blk at h
  simp [World.frozen?, h]
theorem Blk.new (w : World) (t : TypeId) (cs : Array Value) : Blk (w.alloc (.cells cs t)) w.heap.size t cs := heap_alloc_new w _
theorem Blk.drew (h : Blk w g t cs) : Blk w.drew g t cs := h
theorem Blk.drewN (h : Blk w g t cs) (n : Nat) : Blk (w.drewN n) g t cs := h
theorem Blk.new1 (w : World) (t : TypeId) (cs : Array Value) (o : Obj) : Blk ((w.alloc o).alloc (.cells cs t)) (w.heap.size + 1) t cs := by
  have := Blk.new (w.alloc o) t cs; rwa [World.size_alloc] at this
theorem Blk.new2 (w : World) (t : TypeId) (cs : Array Value) (o o' : Obj) : Blk (((w.alloc o).alloc o').alloc (.cells cs t)) (w.heap.size + 1 + 1) t cs := by
  have := Blk.new ((w.alloc o).alloc o') t cs; rwa [World.size_alloc, World.size_alloc] at this
theorem Blk.alloc (h : Blk w g t cs) (o : Obj) : Blk (w.alloc o) g t cs := (Below.heap_alloc w o g h.lt).trans h
theorem Blk.set_ (h : Blk w g t cs) (i : Nat) (u : Value) : Blk (w.setCell ⟨g, i, none⟩ u) g t (cs.setIfInBounds i u) := by
  unfold Blk at h ⊢
  simp [World.setCell, Array.getElem?_modify, h]
theorem Blk.far (h : Blk w g t cs) {p : Addr} (hp : g ≠ p.block) (u : Value) : Blk (w.setCell p u) g t cs := (Below.heap_setCell w p u g hp).trans h
theorem Blk.setRow (h : Blk w g t cs) (c' : Array Value) : Blk (w.setRow g c') g t c' := setRow_heap w g cs c' t _ h
theorem Blk.setRow_far (h : Blk w g t cs) {g' : Nat} (hp : g ≠ g') (c' : Array Value) : Blk (w.setRow g' c') g t cs := (setRow_other w g' g c' hp).trans h
theorem Blk.below {B : Nat} (h : Blk w g t cs) (hb : Below B w w') (hg : g < B) : Blk w' g t cs := (hb.block g hg).trans h
theorem Blk.grow (h : Blk w g t cs) (hb : Grow w w') : Blk w' g t cs := (hb.block g h.lt).trans h
end

/-- A word of 32 bits as the model's value. -/
abbrev u (x : UInt32) : Value := .int .u32 (x.toNat : Int)
def us (l : List UInt32) : Array Value := (l.map u).toArray
theorem us_get (l : List UInt32) (i : Nat) (h : i < l.length) : (us l)[i]? = some (.int .u32 ((l.getD i 0).toNat : Int)) := by
  simp [us, List.getElem?_eq_getElem h, List.getD]
theorem us_set (l : List UInt32) (i : Nat) (x : UInt32) : (us l).setIfInBounds i (.int .u32 (x.toNat : Int)) = us (l.set i x) := by
  simp [us, List.map_set]
theorem ret_int {k : IntKind} {a b : Int} (h : a = b) : Ending.returned (.int k a) = .returned (.int k b) := by rw [h]
theorem ret_val {a b : Value} (h : a = b) : Ending.returned a = .returned b := by rw [h]
theorem val_int {k : IntKind} {a b : Int} (h : a = b) : Value.int k a = .int k b := by rw [h]
theorem u32_lt (x : UInt32) : (x.toNat : Int) < 4294967296 := by have := x.toNat_lt; omega
theorem u32_add (x y : UInt32) : IntKind.u32.wrap ((x.toNat : Int) + (y.toNat : Int)) = ((x + y).toNat : Int) := by
  rw [UInt32.toNat_add]; show ((x.toNat : Int) + (y.toNat : Int)) % 4294967296 = _; omega

theorem run_index_us {P : Program} {t e : TypeId} {n : Nat} (hu : P.underlying t = some (.array n e)) (hs : (P.info? e).map (·.size) = some 1) (ha : ∀ w, (isAgg e).run P w = .ok false w) (b : List UInt32) (hn : b.length = n) (j : Nat) (hj : j < n) (w : World) :
    (Instr.index t (.agg (us b)) (.int .i64 (j : Int))).run P w = .ok (.int .u32 ((b.getD j 0).toNat : Int)) w := by
  have hg := us_get b j (by omega)
  have h0 : (0 : Int) ≤ j ∧ (j : Int) < n := by omega
  cases hq : P.info? e with
  | none => simp [hq] at hs
  | some i =>
    have hi : i.size = 1 := by simpa [hq] using hs
    simp [Instr.index, run_underlying hu, asIntOf, h0, sizeOf, typeInfo, hq, hi, part, ha, hg]
    intro h; omega

end Go.Proofs.YtamllmoakgnjoaaDoor
