/- Slices of strings that read as a list; parts of slices of digests; no law is named here. -/
import Derived.Test.YtjokaennipmmaaaDoorRowA
import Derived.SliceStrings
namespace Go.Proofs.YtjokaennipmmaaaDoor
open Go.ChangeShapes Go.WideShapes Go.ChangeAt Go.WideMaps Go.WideElems Go.RowKit
/-- A slice of strings that reads as l, its address and capacity named. -/
def SlS (w : World) (A : Option Addr) (n c : Nat) (l : List ByteArray) : Prop :=
  n ≤ c ∧ c ≤ maxLen ∧ l.length = n ∧ (0 < n → ∃ g o, A = some ⟨g, o, none⟩ ∧ g < w.heap.size ∧ ∀ i, i < n → w.cell? ⟨g, o + i, none⟩ = some (.string (l.getD i ByteArray.empty)))
theorem SlS.grow {w w' : World} {A : Option Addr} {n c : Nat} {l : List ByteArray} (h : SlS w A n c l) (hg : Grow w w') : SlS w' A n c l := by
  obtain ⟨h1, h2, h3, h4⟩ := h
  refine ⟨h1, h2, h3, fun hn => ?_⟩
  obtain ⟨g, o, e, hl, hc⟩ := h4 hn
  exact ⟨g, o, e, Nat.lt_of_lt_of_le hl hg.size, fun i hi => (hg.cell (p := ⟨g, o + i, none⟩) hl).trans (hc i hi)⟩
theorem SlS.at {w : World} {g o n c : Nat} {l : List ByteArray} (h : SlS w (some ⟨g, o, none⟩) n c l) (i : Nat) (hi : i < n) : w.cell? ⟨g, o + i, none⟩ = some (.string (l.getD i ByteArray.empty)) := by
  obtain ⟨g', o', e, _, hc⟩ := h.2.2.2 (by omega)
  injection e with e
  injection e with e1 e2 _
  subst e1 e2
  exact hc i hi
theorem SlS.lt {w : World} {g o n c : Nat} {l : List ByteArray} (h : SlS w (some ⟨g, o, none⟩) n c l) (hn : 0 < n) : g < w.heap.size := by
  obtain ⟨g', o', e, hl, hc⟩ := h.2.2.2 hn
  injection e with e
  injection e with e1 e2 _
  subst e1; exact hl
theorem SlS.take {w : World} {A : Option Addr} {n c : Nat} {l : List ByteArray} (h : SlS w A n c l) (k c' : Nat) (hk : k ≤ n) (h1 : k ≤ c') (h2 : c' ≤ maxLen) : SlS w A k c' (l.take k) := by
  refine ⟨h1, h2, by rw [List.length_take, h.2.2.1]; omega, fun h0 => ?_⟩
  obtain ⟨g, o, e, hl, hc⟩ := h.2.2.2 (by omega)
  refine ⟨g, o, e, hl, fun i hi => ?_⟩
  rw [hc i (by omega)]
  simp [List.getD, List.getElem?_take_of_lt hi]
theorem SlD.at {w : World} {g o n c : Nat} {l : List D} (h : SlD w (some ⟨g, o, none⟩) n c l) (i : Nat) (hi : i < n) : ∀ k, k < 4 → w.cell? ⟨g, o + i * 4 + k, none⟩ = some (u ((l.getD i D.zero).1.getD k 0)) := by
  obtain ⟨g', o', e, _, hc⟩ := h.2.2.2 (by omega)
  injection e with e
  injection e with e1 e2 _
  subst e1 e2
  exact fun k hk => hc i k hi hk
theorem SlD.take {w : World} {A : Option Addr} {n c : Nat} {l : List D} (h : SlD w A n c l) (k c' : Nat) (hk : k ≤ n) (h1 : k ≤ c') (h2 : c' ≤ maxLen) : SlD w A k c' (l.take k) := by
  refine ⟨h1, h2, by rw [List.length_take, h.2.2.1]; omega, fun h0 => ?_⟩
  obtain ⟨g, o, e, hl, hc⟩ := h.2.2.2 (by omega)
  refine ⟨g, o, e, hl, fun i j hi hj => ?_⟩
  rw [hc i j (by omega) hj]
  simp [List.getD, List.getElem?_take_of_lt hi]
theorem SlD.drop {w : World} {g o n c : Nat} {l : List D} (h : SlD w (some ⟨g, o, none⟩) n c l) (k : Nat) (hk : k ≤ n) : SlD w (some ⟨g, o + k * 4, none⟩) (n - k) (c - k) (l.drop k) := by
  refine ⟨by have := h.1; omega, by have := h.2.1; omega, by rw [List.length_drop, h.2.2.1], fun h0 => ?_⟩
  obtain ⟨g', o', e, hl, hc⟩ := h.2.2.2 (by omega)
  injection e with e
  injection e with e1 e2 _
  subst e1 e2
  refine ⟨_, _, rfl, hl, fun i j hi hj => ?_⟩
  rw [show o + k * 4 + i * 4 + j = o + (k + i) * 4 + j by omega, hc (k + i) j (by omega) hj]
  simp [List.getD]
section
variable {H : Type} {enc : TypeId × Value → H} {P : Program} {w : World} {base : Nat} {spare : Nat → Bool} {held : Bool} {n i o m : Nat} {cs : Array Value} {xs : List (DataW H × List MemPlace)} {t : TypeId}
theorem slS_of_trod {et : TypeId} (ht : P.underlying t = some (.slice et)) (he : P.underlying et = some .string) (hce : P.cellsOf et = 1) {l : List Value} {fuel : Nat} {y : DataW H × List MemPlace}
    (hf : DataW.trod enc P w base spare held fuel t l = some y) : ∃ A n c ss, l = [.slice A n c] ∧ SlS w A n c ss ∧ (∀ s ∈ ss, s.size ≤ maxLen) := by
  rcases open_strings ht he hce hf with ⟨h1, _⟩ | ⟨a, len, cap, ss, h1, hb, hl, hm, hlen, _, hc, hs⟩
  · exact ⟨none, 0, 0, [], h1, ⟨Nat.le_refl _, by simp [maxLen], rfl, fun h => by omega⟩, by simp⟩
  · have hle : len ≤ ss.length := by rw [hlen]; split <;> omega
    refine ⟨some a, len, cap, ss.take len, h1, ⟨hl, hm, by rw [List.length_take]; omega, fun h0 => ?_⟩, fun s hh => hs s (List.mem_of_mem_take hh)⟩
    obtain ⟨g, o, s⟩ := a
    have h00 := hc 0 (by omega)
    have hsn : s = none ∧ g < w.heap.size := by
      have e0 : (⟨g, o, s⟩ : Addr).add 0 = ⟨g, o, s⟩ := by simp [Addr.add]
      rw [e0] at h00
      unfold World.cell? at h00
      split at h00
      · rename_i c' _ _ hh
        have hh' : w.heap[g]? = some (.cells c' _ _) := hh
        refine ⟨?_, (Array.getElem?_eq_some_iff.1 hh').1⟩
        cases s with
        | none => rfl
        | some x => simp at h00
      · cases h00
    obtain ⟨rfl, hg⟩ := hsn
    refine ⟨g, o, rfl, hg, fun i hi => ?_⟩
    have := hc i (by omega)
    have e1 : (⟨g, o, none⟩ : Addr).add i = ⟨g, o + i, none⟩ := by
      unfold Addr.add
      by_cases h1 : i = 0 <;> simp [h1]
    rw [e1] at this
    rw [this]
    simp [List.getD, List.getElem?_take_of_lt hi]
theorem slice_cells {A A' : Option Addr} {n n' c c' : Nat} (h : (Value.slice A n c).cells.toList = [.slice A' n' c']) : A' = A ∧ n' = n ∧ c' = c := by
  simp [Value.cells] at h
  exact ⟨h.1.symm, h.2.1.symm, h.2.2.symm⟩
theorem field_Ss {et : TypeId} (ht : P.underlying t = some (.slice et)) (he : P.underlying et = some .string) (hce : P.cellsOf et = 1) (hc1 : P.cellsOf t = 1) (hl : xs.length = m) (hi : i < m)
    (hf : DataW.trod enc P w base spare held n t ((cs.toList.drop o).take (P.cellsOf t)) = xs[i]?) : ∃ A k c ss, cs[o]? = some (.slice A k c) ∧ SlS w A k c ss ∧ (∀ s ∈ ss, s.size ≤ maxLen) := by
  obtain ⟨y, hy⟩ := field_some hf hl hi
  obtain ⟨A, k, c, ds, e, h⟩ := slS_of_trod ht he hce hy
  rw [hc1] at e
  have := take_drop_one _ _ _ e
  rw [Array.getElem?_toList] at this
  exact ⟨A, k, c, ds, this, h⟩
theorem field_str (ht : P.underlying t = some .string) (hct : P.cellsOf t = 1) (hl : xs.length = m) (hi : i < m)
    (hf : DataW.trod enc P w base spare held n t ((cs.toList.drop o).take (P.cellsOf t)) = xs[i]?) : ∃ s : ByteArray, cs[o]? = some (.string s) ∧ s.size ≤ maxLen := by
  obtain ⟨y, hy⟩ := field_some hf hl hi
  obtain ⟨s, e2, _, hs⟩ := DataW.trod_string ht hy
  rw [hct] at e2
  have := take_drop_one _ _ _ e2
  rw [Array.getElem?_toList] at this
  exact ⟨s, this, hs⟩
end
end Go.Proofs.YtjokaennipmmaaaDoor
