/- What a call leaves that writes into one block of the caller's own, and makes memory: all other blocks are as they were. -/
import Derived.Test.YtamllmoakgnjoaaDoorStrs
namespace Go.Proofs.YtamllmoakgnjoaaDoor
open Go.RowKit
structure But (g : Nat) (w w' : World) : Prop where
  os : w'.os = w.os
  tape : w'.tape = w.tape
  output : w'.output = w.output
  size : w.heap.size ≤ w'.heap.size
  block : ∀ k, k < w.heap.size → k ≠ g → w'.heap[k]? = w.heap[k]?
section
variable {g : Nat} {a b c w w' : World}
theorem But.refl (g : Nat) (w : World) : But g w w := ⟨rfl, rfl, rfl, Nat.le_refl _, fun _ _ _ => rfl⟩
theorem But.of_grow (h : Grow w w') : But g w w' := ⟨h.os, h.tape, h.output, h.size, fun k hk _ => h.block k hk⟩
theorem But.tr (h : But g a b) (k : But g b c) : But g a c :=
  ⟨k.os.trans h.os, k.tape.trans h.tape, k.output.trans h.output, Nat.le_trans h.size k.size, fun i hi hn => (k.block i (Nat.lt_of_lt_of_le hi h.size) hn).trans (h.block i hi hn)⟩
theorem But.grow (h : But g a b) (k : Grow b c) : But g a c := h.tr (But.of_grow k)
theorem But.drew (h : But g a b) : But g a b.drew := ⟨h.os, h.tape, h.output, h.size, h.block⟩
theorem But.setCell (h : But g a b) (i : Nat) (v : Value) : But g a (b.setCell ⟨g, i, none⟩ v) :=
  ⟨h.os, h.tape, h.output, by simpa using h.size, fun k hk hn => (Below.heap_setCell b ⟨g, i, none⟩ v k hn).trans (h.block k hk hn)⟩
theorem But.below (h : But g a b) {B : Nat} (hg : B ≤ g) (hB : B ≤ a.heap.size) : Below B a b :=
  ⟨h.os, h.tape, h.output, h.size, fun k hk => h.block k (Nat.lt_of_lt_of_le hk hB) (by omega)⟩
theorem But.blk (h : But g a b) {k : Nat} {t : TypeId} {cs : Array Value} (hb : Blk a k t cs) (hk : k ≠ g) : Blk b k t cs := (h.block k hb.lt hk).trans hb
theorem SlD.but {A : Option Addr} {n c : Nat} {l : List D} (h : SlD a A n c l) (hb : But g a b) (hne : ∀ ga oa, A = some ⟨ga, oa, none⟩ → ga ≠ g) : SlD b A n c l := by
  obtain ⟨h1, h2, h3, h4⟩ := h
  refine ⟨h1, h2, h3, fun hn => ?_⟩
  obtain ⟨ga, o, e, hl, hc⟩ := h4 hn
  exact ⟨ga, o, e, Nat.lt_of_lt_of_le hl hb.size, fun i k hi hk => (World.cell?_of_block (hb.block ga hl (hne ga o e))).trans (hc i k hi hk)⟩
end
end Go.Proofs.YtamllmoakgnjoaaDoor
