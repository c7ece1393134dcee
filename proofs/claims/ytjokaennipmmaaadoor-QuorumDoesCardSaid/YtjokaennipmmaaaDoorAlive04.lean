/- seedcornlaw04.alive answers true: the example of the document. -/
import Derived.Test.YtjokaennipmmaaaDoorB3
import Derived.Test.YtjokaennipmmaaaDoorBs
namespace Go.Proofs.YtjokaennipmmaaaDoor
open Go.RowKit
theorem root3 (a b c : D) : rootE noneE [a, b, c] = pairE (pairE a b) c := by
  have h3 : halfE 3 = 2 := by decide
  have h2 : halfE 2 = 1 := by decide
  rw [rootE_more noneE (by simp)]
  simp only [List.length_cons, List.length_nil, Nat.zero_add, Nat.reduceAdd, h3, List.take_succ_cons, List.take_zero, List.drop_succ_cons, List.drop_zero]
  rw [rootE_more noneE (by simp), rootE_one]
  simp only [List.length_cons, List.length_nil, Nat.zero_add, Nat.reduceAdd, h2, List.take_succ_cons, List.take_zero, List.drop_succ_cons, List.drop_zero, rootE_one]
theorem way3 (a b c : D) : wayE noneE [a, b, c] 1 = [a, c] := by
  have h3 : halfE 3 = 2 := by decide
  have h2 : halfE 2 = 1 := by decide
  rw [wayE_left noneE (by simp) (by simp only [List.length_cons, List.length_nil, Nat.zero_add, Nat.reduceAdd, h3]; omega)]
  simp only [List.length_cons, List.length_nil, Nat.zero_add, Nat.reduceAdd, h3, List.take_succ_cons, List.take_zero, List.drop_succ_cons, List.drop_zero, rootE_one]
  rw [wayE_right noneE (by simp) (by simp only [List.length_cons, List.length_nil, Nat.zero_add, Nat.reduceAdd, h2]; omega)]
  simp only [List.length_cons, List.length_nil, Nat.zero_add, Nat.reduceAdd, h2, List.take_succ_cons, List.take_zero, List.drop_succ_cons, List.drop_zero, rootE_one]
  rw [wayE_one noneE _ (by simp)]; rfl
theorem goes3 (a b c : D) : goesE noneE [a, b, c] 1 true = [b, c] := by
  have h3 : halfE 3 = 2 := by decide
  have h2 : halfE 2 = 1 := by decide
  rw [goesE_left noneE (by simp) (by simp) (by simp only [List.length_cons, List.length_nil, Nat.zero_add, Nat.reduceAdd, h3]; omega)]
  simp only [List.length_cons, List.length_nil, Nat.zero_add, Nat.reduceAdd, h3, List.take_succ_cons, List.take_zero, List.drop_succ_cons, List.drop_zero, rootE_one]
  rw [goesE_left noneE (by simp) (by simp) (by simp only [List.length_cons, List.length_nil, Nat.zero_add, Nat.reduceAdd, h2]; omega)]
  simp only [List.length_cons, List.length_nil, Nat.zero_add, Nat.reduceAdd, h2, List.take_succ_cons, List.take_zero, List.drop_succ_cons, List.drop_zero, rootE_one]
  have := goesE_all noneE [a]
  simp only [List.length_cons, List.length_nil, Nat.zero_add] at this
  rw [this]; rfl
/-- Three digests, one behind the other in a block. -/
theorem SlD.of_blk {w : World} {b : Nat} {e : TypeId} {l : List D} {n : Nat} (h : Blk w b e (dcells l).toArray) (hl : l.length = n) (hm : n ≤ maxLen) : SlD w (some ⟨b, 0, none⟩) n n l := by
  refine ⟨Nat.le_refl _, hm, hl, fun _ => ⟨b, 0, rfl, h.lt, fun i k hi hk => ?_⟩⟩
  rw [h.cell, Nat.zero_add]
  rw [List.getElem?_toArray, dcells_get l i k (by omega) hk]
  exact D.get _ k hk
structure AlAt (w0 w : World) (k : Nat) (a b c : D) : Prop where
  one : Blk w k 30 (us a.1)
  two : Blk w (k + 1) 30 (us b.1)
  tri : Blk w (k + 1 + 1) 30 (us c.1)
  gro : Grow w0 w
  pla : Places w
theorem AlAt.grow {w0 w w' : World} {k : Nat} {a b c : D} (h : AlAt w0 w k a b c) (hg : Grow w w') : AlAt w0 w' k a b c := ⟨h.one.grow hg, h.two.grow hg, h.tri.grow hg, h.gro.tr hg, h.pla.grow hg⟩
end Go.Proofs.YtjokaennipmmaaaDoor
