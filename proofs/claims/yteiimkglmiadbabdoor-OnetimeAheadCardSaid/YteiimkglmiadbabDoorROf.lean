/- seedcornref05.Of: the digest of 35 values. -/
import Derived.Test.YteiimkglmiadbabDoorRWalk
import Derived.Test.YteiimkglmiadbabDoorReach
namespace Go.Proofs.YteiimkglmiadbabDoor
open Go.RowKit
structure ROfAt (w wr : World) (A : Option Addr) (c : Nat) (s : List D) (x : D) : Prop where
  res : Blk wr w.heap.size 24 (us D.zero.1)
  box : Blk wr (w.heap.size + 1) 24 (us x.1)
  sl : SlD wr A 35 c s
  far : ∀ ga oa, A = some ⟨ga, oa, none⟩ → ga < w.heap.size
  gro : Grow w wr
theorem ROfAt.grow {w wr w' : World} {A : Option Addr} {c : Nat} {s : List D} {x : D} (h : ROfAt w wr A c s x) (hg : Grow wr w') : ROfAt w w' A c s x :=
  ⟨h.res.grow hg, h.box.grow hg, h.sl.grow hg, h.far, h.gro.tr hg⟩
theorem ROfAt.row {w wr : World} {A : Option Addr} {c : Nat} {s : List D} {x : D} (h : ROfAt w wr A c s x) (y : D) : ROfAt w (wr.setRow (w.heap.size + 1) (us y.1)) A c s y :=
  ⟨h.res.setRow_far (by omega) _, h.box.setRow _, h.sl.setRow (fun ga oa e => by have := h.far ga oa e; omega) _, h.far, h.gro.setRow (by omega) _⟩
end Go.Proofs.YteiimkglmiadbabDoor
