/- seedcornref05.Public: it returns the public key; the heap only grows. -/
import Derived.Test.YteiimkglmiadbabDoorROf
namespace Go.Proofs.YteiimkglmiadbabDoor
open Go.RowKit
theorem rof_congr (f : Nat → D) (s : List D) (h : ∀ i, i < 35 → s.getD i D.zero = f i) : ofTo (fun i => s.getD i D.zero) 35 = ofTo f 35 := ofTo_congr _ _ 35 h
structure RPubAt (w wr : World) (v : Value) (seed : D) (l : List D) : Prop where
  box : Blk wr w.heap.size 24 (us seed.1)
  res : Blk wr (w.heap.size + 1) 24 (us D.zero.1)
  own : wr.ownsRow (w.heap.size + 2) 24 4 v l.length (dcells l)
  gro : Grow w wr
def keysTo (seed : D) (n : Nat) : List D := (List.range n).map fun i => walkE (beginE seed i) 15
theorem keysTo_succ (seed : D) (n : Nat) : keysTo seed (n + 1) = keysTo seed n ++ [walkE (beginE seed n) 15] := by simp [keysTo, List.range_succ]
theorem keysTo_length (seed : D) (n : Nat) : (keysTo seed n).length = n := by simp [keysTo]
theorem keysTo_getD (seed : D) (n i : Nat) (hi : i < n) : (keysTo seed n).getD i D.zero = walkE (beginE seed i) 15 := by simp [keysTo, hi]
end Go.Proofs.YteiimkglmiadbabDoor
