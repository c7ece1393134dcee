/- A store and a head that came in by value. -/
import Derived.Test.YtamllmoakgnjoaaDoorStrs
import Derived.Test.YtamllmoakgnjoaaDoorSto
import Derived.Test.YtamllmoakgnjoaaDoorSeat
namespace Go.Proofs.YtamllmoakgnjoaaDoor
open Go Go.ChangeShapes Go.WideShapes Go.ChangeAt Go.WideMaps Go.WideElems Go.RowKit
section
variable {H : Type} {enc : TypeId × Value → H} {w : World} {base : Nat} {spare : Nat → Bool} {held : Bool} {r : Reach} {b0 : Nat} {v : Value} {d : DataW H} {p : List MemPlace}
set_option maxRecDepth 100000 in
theorem open_head (hv : Value.okWide Tryd.prog w r b0 THd v) (h : DataW.Trod enc Tryd.prog w base spare held THd v d p) :
    ∃ (k : Int) (x : D), v = .agg (hdC k x) ∧ -9223372036854775808 ≤ k ∧ k ≤ 9223372036854775807 := by
  obtain ⟨cs, xs, n, rfl, hsz, hl, hf⟩ := open_st Tryd.underlying29 hv h
  obtain ⟨k, hk, b1, b2⟩ := field_int (o := 0) Tryd.underlying3 cells_int hl (by simp) (hf 0 _ rfl)
  obtain ⟨x, hx⟩ := field_D (o := 1) Tryd.underlying27 Tryd.underlying25 cells_u32 cells_D hl (by simp) (hf 1 _ rfl)
  have h5 : cs.size = 5 := hsz.trans (by kernel_rfl)
  refine ⟨k, x, ?_, b1, b2⟩
  congr 1
  apply Array.ext_getElem?
  intro i
  rcases Nat.lt_or_ge i 5 with hi | hi
  · have hc : i = 0 ∨ i = 1 ∨ i = 2 ∨ i = 3 ∨ i = 4 := by omega
    rcases hc with rfl | rfl | rfl | rfl | rfl
    · exact hk
    · exact (hx 0 (by omega)).trans (hdC_get k x 0 (by omega)).symm
    · exact (hx 1 (by omega)).trans (hdC_get k x 1 (by omega)).symm
    · exact (hx 2 (by omega)).trans (hdC_get k x 2 (by omega)).symm
    · exact (hx 3 (by omega)).trans (hdC_get k x 3 (by omega)).symm
  · rw [Array.getElem?_eq_none (by omega), Array.getElem?_eq_none (by rw [hdC_size]; omega)]
set_option maxRecDepth 100000 in
theorem open_store (hv : Value.okWide Tryd.prog w r b0 TSt v) (h : DataW.Trod enc Tryd.prog w base spare held TSt v d p) :
    ∃ (A : Option Addr) (n c : Nat) (ss : List ByteArray), v = .agg #[.slice A n c] ∧ SlS w A n c ss ∧ (∀ s ∈ ss, s.size ≤ maxLen) := by
  obtain ⟨cs, xs, n, rfl, hsz, hl, hf⟩ := open_st Tryd.underlying24 hv h
  obtain ⟨A, k, c, ss, hk, hs, hz⟩ := field_Ss (o := 0) Tryd.underlying22 Tryd.underlying9 cells_str (by kernel_rfl) hl (by simp) (hf 0 _ rfl)
  have h1 : cs.size = 1 := hsz.trans (by kernel_rfl)
  refine ⟨A, k, c, ss, ?_, hs, hz⟩
  congr 1
  apply Array.ext_getElem?
  intro i
  rcases Nat.lt_or_ge i 1 with hi | hi
  · have : i = 0 := by omega
    subst this; exact hk
  · rw [Array.getElem?_eq_none (by omega), Array.getElem?_eq_none (by simpa using hi)]
set_option maxRecDepth 100000 in
theorem open_string {t : TypeId} (ht : Tryd.prog.underlying t = some .string) (hval : Value.okWide Tryd.prog w r b0 t v) (hd : DataW.Trod enc Tryd.prog w base spare held t v d p) :
    ∃ s : ByteArray, v = .string s ∧ True ∧ True ∧ s.size ≤ maxLen := by
  obtain ⟨s, rfl⟩ := Go.WideShapes.okWide_string ht hval
  obtain ⟨fuel, hf⟩ := hd
  obtain ⟨s', h, _, hs⟩ := DataW.trod_string ht hf
  simp [Value.cells] at h
  subst h
  exact ⟨s, rfl, trivial, trivial, hs⟩
set_option maxRecDepth 100000 in
theorem field_H {cs : Array Value} {xs : List (DataW H × List MemPlace)} {n m i o : Nat} (hl : xs.length = m) (hi : i < m) (hf : DataW.trod enc Tryd.prog w base spare held n THd ((cs.toList.drop o).take (Tryd.prog.cellsOf THd)) = xs[i]?) :
    ∃ (k : Int) (x : D), cs[o]? = some (.int .i64 k) ∧ -9223372036854775808 ≤ k ∧ k ≤ 9223372036854775807 ∧ ∀ j, j < 4 → cs[o + 1 + j]? = some (u (x.1.getD j 0)) := by
  obtain ⟨y, hy⟩ := field_some hf hl hi
  obtain ⟨xs', n', _, _, _, hlen, hel⟩ := DataW.trod_struct Tryd.underlying29 hy
  have h5 : Tryd.prog.cellsOf THd = 5 := by kernel_rfl
  rw [h5] at hel
  generalize hl' : (cs.toList.drop o).take 5 = l at hel
  obtain ⟨k, hk, b1, b2⟩ := field_int (cs := l.toArray) (o := 0) Tryd.underlying3 cells_int hlen (by simp) (hel 0 _ rfl)
  obtain ⟨x, hx⟩ := field_D (cs := l.toArray) (o := 1) Tryd.underlying27 Tryd.underlying25 cells_u32 cells_D hlen (by simp) (hel 1 _ rfl)
  have key : ∀ j, j < 5 → l.toArray[j]? = cs[o + j]? := by
    intro j hj
    subst hl'
    simp [hj]
  refine ⟨k, x, ?_, b1, b2, fun j hj => ?_⟩
  · rw [← hk, key 0 (by omega)]; rfl
  · rw [← hx j hj, key (1 + j) (by omega), Nat.add_assoc]
end
end Go.Proofs.YtamllmoakgnjoaaDoor
