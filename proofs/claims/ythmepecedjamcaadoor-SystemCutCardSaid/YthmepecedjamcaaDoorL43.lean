/- The law HeadTail. -/
import Derived.Test.YthmepecedjamcaaDoorP42a
namespace Go.Proofs.YthmepecedjamcaaDoor
open Go.RowKit
set_option linter.unnecessarySimpa false
theorem lost_self {l l' : List ByteArray} (h : l'.take l.length = l) (hn : l.length ≤ l'.length) : lostE l' (l.length : Int) (rootE noneE (digsE l)) = 0 := by
  unfold lostE
  rw [if_neg (by omega), if_neg (by omega), Int.toNat_natCast, h, if_pos rfl]
theorem lost_few {l l' : List ByteArray} {d : D} (hn : l'.length < l.length) : lostE l' (l.length : Int) d = 6 := by
  unfold lostE
  rw [if_neg (by omega), if_pos (by omega)]
theorem addE_small {l : List ByteArray} {a : ByteArray} (hs : small l) (ha : a.size ≤ 1000000) : small (addE l a).1 := by
  unfold addE
  intro s h
  split at h <;> split at h <;> simp at h
  · exact hs s h
  · rcases h with h | rfl
    · exact hs s h
    · exact ha
theorem addE_take {l : List ByteArray} {a : ByteArray} (h : (addE l a).2.2 = 0) : (addE l a).1.take l.length = l ∧ l.length ≤ (addE l a).1.length := by
  unfold addE at *
  split at h <;> (rename_i h1; first | rw [if_pos h1] | rw [if_neg h1]) <;> split at h <;> (rename_i h2; first | rw [if_pos h2] | rw [if_neg h2]) <;> simp at h ⊢
end Go.Proofs.YthmepecedjamcaaDoor
