/- seedcornref05.Sign and Same: the signature's values, in a row of its own; equal ones are the same. -/
import Derived.Test.YteiimkglmiadbabDoorRPub
namespace Go.Proofs.YteiimkglmiadbabDoor
open Go.RowKit
structure RSgAt (w wr : World) (gs cs : Nat) (seed msg : D) : Prop where
  box : Blk wr w.heap.size 24 (us seed.1)
  st : wr.ownsRow 0 3 1 (.slice (some ⟨gs, 0, none⟩) 35 cs) 35 (ints (stepsE msg))
  gro : Grow w wr
theorem RSgAt.grow {w wr w' : World} {gs cs : Nat} {seed msg : D} (h : RSgAt w wr gs cs seed msg) (hg : Grow wr w') : RSgAt w w' gs cs seed msg :=
  ⟨h.box.grow hg, ownsRow_grow h.st hg, h.gro.tr hg⟩
theorem eqin_D (a b : D) (w : World) : (Op.equalIn 10000 24 (.agg (us a.1)) (.agg (us b.1))).run Tryd.prog w = .ok (decide (a = b)) w := by
  rw [run_equalIn_us w 9998 24 22 4 Tryd.underlying24 Tryd.underlying22 sizeOf_u32 a.1 b.1 a.2 b.2]
  have : (a.1 == b.1) = decide (a = b) := by
    rw [Bool.eq_iff_iff]; simp [Subtype.ext_iff]
  rw [this]
end Go.Proofs.YteiimkglmiadbabDoor
