/- The fields of a struct that came in by value, read one by one: digests, slices of digests, integers, strings; no law is named here. -/
import Derived.Test.YtamllmoakgnjoaaDoorRowS
namespace Go.Proofs.YtamllmoakgnjoaaDoor
open Go.ChangeShapes Go.WideShapes Go.ChangeAt Go.WideMaps Go.WideElems Go.RowKit
section
variable {H : Type} {enc : TypeId × Value → H} {P : Program} {w : World} {base : Nat} {spare : Nat → Bool} {held : Bool} {n i o m : Nat} {cs : Array Value} {xs : List (DataW H × List MemPlace)} {t : TypeId}
theorem take_drop_get (l : List Value) (o n k : Nat) (hk : k < n) : ((l.drop o).take n)[k]? = l[o + k]? := by
  rw [List.getElem?_take_of_lt hk, List.getElem?_drop]
theorem take_drop_one (l : List Value) (o : Nat) (v : Value) (h : (l.drop o).take 1 = [v]) : l[o]? = some v := by
  have := take_drop_get l o 1 0 (by omega)
  rw [h] at this
  simpa using this.symm
theorem field_some {x : Option (DataW H × List MemPlace)} (h : x = xs[i]?) (hl : xs.length = m) (hi : i < m) : ∃ y, x = some y := by
  rw [List.getElem?_eq_getElem (by omega)] at h
  exact ⟨_, h⟩
theorem open_st {r : Reach} {b0 : Nat} {fs : Array Field} {v : Value} {d : DataW H} {p : List MemPlace} (hs : P.underlying t = some (.struct fs)) (hv : Value.okWide P w r b0 t v) (h : DataW.Trod enc P w base spare held t v d p) :
    ∃ (cs : Array Value) (xs : List (DataW H × List MemPlace)) (n : Nat), v = .agg cs ∧ cs.size = P.cellsOf t ∧ xs.length = fs.size ∧
      ∀ (i : Nat) (f : Field), fs[i]? = some f → DataW.trod enc P w base spare held n f.type ((cs.toList.drop f.offset).take (P.cellsOf f.type)) = xs[i]? := by
  obtain ⟨cs, rfl, hsz⟩ := okWide_struct hs hv
  obtain ⟨fuel, hf⟩ := h
  obtain ⟨xs, n, _, _, _, hlen, hel⟩ := DataW.trod_struct hs hf
  exact ⟨cs, xs, n, rfl, hsz, hlen, hel⟩
theorem field_D {e : TypeId} (ht : P.underlying t = some (.array 4 e)) (he : P.underlying e = some (.int .u32)) (hce : P.cellsOf e = 1) (hct : P.cellsOf t = 4) (hl : xs.length = m) (hi : i < m)
    (hf : DataW.trod enc P w base spare held n t ((cs.toList.drop o).take (P.cellsOf t)) = xs[i]?) : ∃ d : D, ∀ k, k < 4 → cs[o + k]? = some (u (d.1.getD k 0)) := by
  obtain ⟨y, hy⟩ := field_some hf hl hi
  obtain ⟨d, hd⟩ := D_of_trod ht he hce hct hy
  refine ⟨d, fun k hk => ?_⟩
  have := hd k hk
  rw [hct, take_drop_get _ _ _ _ hk, Array.getElem?_toList] at this
  exact this
theorem field_int (ht : P.underlying t = some (.int .i64)) (hct : P.cellsOf t = 1) (hl : xs.length = m) (hi : i < m)
    (hf : DataW.trod enc P w base spare held n t ((cs.toList.drop o).take (P.cellsOf t)) = xs[i]?) : ∃ k : Int, cs[o]? = some (.int .i64 k) ∧ -9223372036854775808 ≤ k ∧ k ≤ 9223372036854775807 := by
  obtain ⟨y, hy⟩ := field_some hf hl hi
  obtain ⟨k, e2, _, hwf⟩ := DataW.trod_int ht hy
  rw [hct] at e2
  have hb := bounds_i64 hwf
  refine ⟨k, ?_, hb.1, hb.2⟩
  have := take_drop_one _ _ _ e2
  rw [Array.getElem?_toList] at this
  exact this
theorem slD_of_trod {et e : TypeId} (ht : P.underlying t = some (.slice et)) (hte : P.underlying et = some (.array 4 e)) (he : P.underlying e = some (.int .u32)) (hce : P.cellsOf e = 1) (hct : P.cellsOf et = 4) {l : List Value} {fuel : Nat} {y : DataW H × List MemPlace}
    (hf : DataW.trod enc P w base spare held fuel t l = some y) : ∃ A n c ds, l = [.slice A n c] ∧ SlD w A n c ds := by
  have key : ∀ A n c, l = [.slice A n c] → ∃ ds, SlD w A n c ds := fun A n c e => by
    subst e
    rcases DataW.trod_slice ht hf with ⟨hcs, _⟩ | ⟨a, len, cap, elems, rest, m, _, hcs, _, hb, hl, hm, hz, hel, _, _⟩
    · injection hcs with hcs' _
      injection hcs' with h1 h2 h3
      subst h1 h2 h3
      exact ⟨[], Nat.le_refl _, by simp [maxLen], rfl, fun hn => by omega⟩
    · injection hcs with hcs' _
      injection hcs' with h1 h2 h3
      subst h1 h2 h3
      have each : ∀ i, i < n → ∃ d : D, ∀ k, k < 4 → w.cell? ((a.add (i * 4)).add k) = some (u (d.1.getD k 0)) := by
        intro i hi
        have h1 := hel i hi
        rw [hct, List.getElem?_eq_getElem (by omega), Option.bind_eq_some_iff] at h1
        obtain ⟨cs', hc, ht'⟩ := h1
        obtain ⟨d, hd⟩ := D_of_trod hte he hce hct ht'
        exact ⟨d, fun k hk => ((World.cells?_some hc).2.2 k hk).trans (hd k hk)⟩
      have each' : ∀ i, ∃ d : D, i < n → ∀ k, k < 4 → w.cell? ((a.add (i * 4)).add k) = some (u (d.1.getD k 0)) := fun i => by
        by_cases hi : i < n
        · obtain ⟨d, hd⟩ := each i hi; exact ⟨d, fun _ => hd⟩
        · exact ⟨D.zero, fun h => absurd h hi⟩
      obtain ⟨f, hf'⟩ := Classical.axiomOfChoice each'
      refine ⟨(List.range n).map f, hl, hm, by simp, fun hn => ?_⟩
      obtain ⟨g, o, s⟩ := a
      have h00 := hf' 0 hn 0 (by omega)
      have hs : s = none ∧ g < w.heap.size := by
        have e0 : ((⟨g, o, s⟩ : Addr).add (0 * 4)).add 0 = ⟨g, o, s⟩ := by simp [Addr.add]
        rw [e0] at h00
        unfold World.cell? at h00
        split at h00
        · rename_i c' _ _ hh
          have hh' : w.heap[g]? = some (.cells c' _ _) := hh
          refine ⟨?_, (Array.getElem?_eq_some_iff.1 hh').1⟩
          cases s with
          | none => rfl
          | some x => simp at h00
        · cases h00
      obtain ⟨rfl, hg⟩ := hs
      refine ⟨g, o, rfl, hg, fun i k hi hk => ?_⟩
      have := hf' i hi k hk
      have e1 : ((⟨g, o, none⟩ : Addr).add (i * 4)).add k = ⟨g, o + i * 4 + k, none⟩ := by
        unfold Addr.add
        by_cases h1 : i * 4 = 0 <;> by_cases h2 : k = 0 <;> simp [h1, h2]
      rw [e1] at this
      rw [this]
      simp [hi]
  rcases DataW.trod_slice ht hf with ⟨hcs, _⟩ | ⟨a, len, cap, elems, rest, m, _, hcs, _⟩
  · obtain ⟨ds, h⟩ := key _ _ _ hcs; exact ⟨_, _, _, ds, hcs, h⟩
  · obtain ⟨ds, h⟩ := key _ _ _ hcs; exact ⟨_, _, _, ds, hcs, h⟩
theorem field_Ds {et e : TypeId} (ht : P.underlying t = some (.slice et)) (hte : P.underlying et = some (.array 4 e)) (he : P.underlying e = some (.int .u32)) (hce : P.cellsOf e = 1) (hct : P.cellsOf et = 4) (hc1 : P.cellsOf t = 1) (hl : xs.length = m) (hi : i < m)
    (hf : DataW.trod enc P w base spare held n t ((cs.toList.drop o).take (P.cellsOf t)) = xs[i]?) : ∃ A k c ds, cs[o]? = some (.slice A k c) ∧ SlD w A k c ds := by
  obtain ⟨y, hy⟩ := field_some hf hl hi
  obtain ⟨A, k, c, ds, e, h⟩ := slD_of_trod ht hte he hce hct hy
  rw [hc1] at e
  have := take_drop_one _ _ _ e
  rw [Array.getElem?_toList] at this
  exact ⟨A, k, c, ds, this, h⟩
end
end Go.Proofs.YtamllmoakgnjoaaDoor
