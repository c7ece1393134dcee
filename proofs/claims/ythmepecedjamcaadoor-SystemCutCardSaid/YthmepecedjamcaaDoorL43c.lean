import Derived.Test.YthmepecedjamcaaDoorL43
import Derived.Test.YthmepecedjamcaaDoorClash
/- Strings that lie in a box, and the law HeadOther. -/
namespace Go.Proofs.YthmepecedjamcaaDoor
open Go.RowKit
set_option linter.unnecessarySimpa false
/-- Strings as cells. -/
def ssF (l : List ByteArray) : List PV := l.map fun s => .v (.string s)
theorem ssP_flat (l : List ByteArray) : (ssP l).flatten = ssF l := by
  unfold ssP ssF
  induction l with
  | nil => rfl
  | cons a l ih => simp [sP, ih]
theorem ssF_len (l : List ByteArray) : (ssF l).length = l.length := List.length_map _
theorem ssF_set (l : List ByteArray) (k : Nat) (a : ByteArray) (h : k < l.length) : splice (ssF l) [.v (.string a)] k = ssF (l.set k a) := by
  unfold splice ssF
  rw [List.length_singleton, ← List.map_take, ← List.map_drop, List.map_set, List.set_eq_take_append_cons_drop, if_pos (by simpa using h)]
  simp [List.map_take, List.map_drop]
theorem ssF_fits (b : Nat) (l : List ByteArray) : (Frz.mk b 0 l.length 1 (ssP l)).fits (ssF l) := by
  refine ⟨ssP_len l, ssP_wide l, ?_⟩
  show ((ssF l).drop 0).take (l.length * 1) = (ssP l).flatten
  rw [ssP_flat, List.drop_zero, Nat.mul_one, List.take_of_length_le (by rw [ssF_len]; exact Nat.le_refl _)]
theorem ssF_leaf (l : List ByteArray) : (ssF l).all PV.leaf = true := by
  unfold ssF
  simp [PV.leaf, Value.oneCell']
theorem ssF_dem (l : List ByteArray) : (ssF l).map PV.dem1 = ssF l := by
  unfold ssF
  rw [List.map_map]
  rfl
theorem ssF_fits2 (b : Nat) (l : List ByteArray) (n : Nat) (h : n = l.length) : (Frz.mk b 0 n 1 (ssP l)).fits ((ssF l).map PV.dem1) := by
  subst h
  rw [ssF_dem]
  exact ssF_fits b l
theorem ssF_fits1 (b : Nat) (l : List ByteArray) (n : Nat) (h : n = l.length) : (Frz.mk b 0 n 1 (ssP l)).fits (ssF l) := by subst h; exact ssF_fits b l
theorem eff_eq {K : Eff → Prop} {v : PV} {b : Nat} {cs cs' : List PV} {rd : List Nat} (h : cs = cs') (hk : K ⟨v, [(b, .cells cs')], rd⟩) : K ⟨v, [(b, .cells cs)], rd⟩ := h ▸ hk
/-- Of a store that lost nothing by another one's head of as many: the roots are the same. -/
theorem lost_same {l l' : List ByteArray} (h : l'.length = l.length) : lostE l' (l.length : Int) (rootE noneE (digsE l)) = if rootE noneE (digsE l') = rootE noneE (digsE l) then 0 else 8 := by
  unfold lostE
  rw [if_neg (by omega), if_neg (by omega), Int.toNat_natCast, List.take_of_length_le (by omega)]
end Go.Proofs.YthmepecedjamcaaDoor
