import Derived.Test.YthmepecedjamcaaDoorP42a
import Derived.Test.YthmepecedjamcaaDoorP4
/- The law StoreGrows. -/
namespace Go.Proofs.YthmepecedjamcaaDoor
open Go.RowKit
set_option linter.unnecessarySimpa false
def grow1 (s : List ByteArray) (a : ByteArray) : List ByteArray := if (addE s a).2.2 = 0 then (addE s a).1 else s
def growE (l o : List ByteArray) : List ByteArray := o.foldl grow1 l
theorem growE_succ (l o : List ByteArray) (j : Nat) (hj : j < o.length) : growE l (o.take (j + 1)) = grow1 (growE l (o.take j)) (o.getD j ByteArray.empty) := by
  unfold growE
  rw [List.take_succ_eq_append_getElem hj, List.foldl_append]
  simp [List.getD, hj]
def Ext (l s : List ByteArray) : Prop := s.take l.length = l ∧ l.length ≤ s.length
theorem Ext.refl (l : List ByteArray) : Ext l l := ⟨List.take_length, Nat.le_refl _⟩
theorem Ext.tr {a b c : List ByteArray} (h : Ext a b) (k : Ext b c) : Ext a c := by
  refine ⟨?_, Nat.le_trans h.2 k.2⟩
  have := congrArg (List.take a.length) k.1
  rw [List.take_take, Nat.min_eq_left h.2, h.1] at this
  exact this
theorem addE_small' {l : List ByteArray} {a : ByteArray} (hs : small l) (ha : a.size ≤ 1000000) : small (addE l a).1 := by
  unfold addE
  intro s h
  split at h <;> split at h <;> simp at h
  · exact hs s h
  · rcases h with h | rfl
    · exact hs s h
    · exact ha
theorem addE_ext {l : List ByteArray} {a : ByteArray} (h : (addE l a).2.2 = 0) : Ext l (addE l a).1 := by
  unfold addE Ext at *
  split at h <;> (rename_i h1; first | rw [if_pos h1] | rw [if_neg h1]) <;> split at h <;> (rename_i h2; first | rw [if_pos h2] | rw [if_neg h2]) <;> simp at h ⊢
theorem grow1_ext (s : List ByteArray) (a : ByteArray) : Ext s (grow1 s a) := by
  unfold grow1
  split
  · rename_i h; exact addE_ext h
  · exact Ext.refl s
theorem grow1_small {s : List ByteArray} {a : ByteArray} (hs : small s) (ha : a.size ≤ 1000000) : small (grow1 s a) := by
  unfold grow1
  split
  · exact addE_small' hs ha
  · exact hs
theorem grow1_len (s : List ByteArray) (a : ByteArray) : (grow1 s a).length ≤ s.length + 1 := by
  unfold grow1
  split
  · exact addE_len s a
  · omega
theorem growE_all (l o : List ByteArray) (hs : small l) (ho : small o) : Ext l (growE l o) ∧ small (growE l o) ∧ (growE l o).length ≤ l.length + o.length := by
  induction o generalizing l with
  | nil => exact ⟨Ext.refl l, hs, Nat.le_refl _⟩
  | cons a o ih =>
    have ha := ho a (by simp)
    obtain ⟨h1, h2, h3⟩ := ih (grow1 l a) (grow1_small hs ha) (fun s h => ho s (by simp [h]))
    have h4 := grow1_len l a
    exact ⟨(grow1_ext l a).tr h1, h2, by simp only [List.length_cons]; show (growE (grow1 l a) o).length ≤ _; omega⟩
end Go.Proofs.YthmepecedjamcaaDoor
