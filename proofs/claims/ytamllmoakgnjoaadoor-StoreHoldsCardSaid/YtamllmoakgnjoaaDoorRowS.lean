/- A slice of digests that came in as an argument reads as a list of digests; no law is named here. -/
import Derived.Test.YtamllmoakgnjoaaDoorRow
namespace Go.Proofs.YtamllmoakgnjoaaDoor
open Go.ChangeShapes Go.WideShapes Go.ChangeAt Go.WideMaps Go.WideElems Go.RowKit
section
variable {H : Type} {enc : TypeId × Value → H} {P : Program}
theorem D_of_trod {w : World} {base : Nat} {spare : Nat → Bool} {held : Bool} {fuel : Nat} {t e : TypeId} {cs : List Value} {x : DataW H × List MemPlace} (ht : P.underlying t = some (.array 4 e)) (he : P.underlying e = some (.int .u32)) (hce : P.cellsOf e = 1) (hct : P.cellsOf t = 4)
    (hf : DataW.trod enc P w base spare held fuel t cs = some x) : ∃ d : D, ∀ k, k < 4 → cs[k]? = some (u (d.1.getD k 0)) := by
  obtain ⟨xs, m, _, _, hsz, hn, hel⟩ := DataW.trod_array ht hf
  rw [hct] at hsz
  have get : ∀ i, i < 4 → ∃ x : UInt32, cs[i]? = some (u x) := by
    intro i hi
    have h1 := hel i hi
    rw [hce, Nat.mul_one] at h1
    have hci : i < cs.length := by omega
    have e1 : (cs.drop i).take 1 = [cs[i]] := by
      rw [List.drop_eq_getElem_cons hci]
      rfl
    rw [e1, List.getElem?_eq_getElem (by omega)] at h1
    obtain ⟨k, e2, _, hwf⟩ := DataW.trod_int he h1
    have hb := bounds_u32 hwf
    refine ⟨UInt32.ofNat k.toNat, ?_⟩
    rw [List.getElem?_eq_getElem hci]
    simp only [List.cons.injEq, and_true] at e2
    rw [e2]
    have : ((UInt32.ofNat k.toNat).toNat : Int) = k := by
      rw [UInt32.toNat_ofNat', Nat.mod_eq_of_lt (by omega)]; omega
    exact congrArg some (val_int this.symm)
  obtain ⟨x0, h0⟩ := get 0 (by omega)
  obtain ⟨x1, h1⟩ := get 1 (by omega)
  obtain ⟨x2, h2⟩ := get 2 (by omega)
  obtain ⟨x3, h3⟩ := get 3 (by omega)
  refine ⟨⟨[x0, x1, x2, x3], rfl⟩, fun k hk => ?_⟩
  have hc : k = 0 ∨ k = 1 ∨ k = 2 ∨ k = 3 := by omega
  rcases hc with rfl | rfl | rfl | rfl
  · exact h0
  · exact h1
  · exact h2
  · exact h3
theorem open_Ds {w : World} {base : Nat} {spare : Nat → Bool} {held : Bool} {r : Reach} {b0 : Nat} {t et e : TypeId} {v : Value} {d : DataW H} {p : List MemPlace} (ht : P.underlying t = some (.slice et)) (hte : P.underlying et = some (.array 4 e)) (he : P.underlying e = some (.int .u32)) (hce : P.cellsOf e = 1) (hct : P.cellsOf et = 4)
    (hv : Value.okWide P w r b0 t v) (h : DataW.Trod enc P w base spare held t v d p) : ∃ A n c l, v = .slice A n c ∧ SlD w A n c l := by
  obtain ⟨A, n, c, rfl⟩ := okWide_slice ht hv
  obtain ⟨fuel, hf⟩ := h
  rcases DataW.trod_slice ht hf with ⟨hcs, _⟩ | ⟨a, len, cap, elems, rest, m, _, hcs, _, hb, hl, hm, hz, hel, _, _⟩
  · have hcs' : [Value.slice A n c] = [.slice none 0 0] := hcs
    injection hcs' with hcs' _
    injection hcs' with h1 h2 h3
    subst h1 h2 h3
    exact ⟨none, 0, 0, [], rfl, Nat.le_refl _, by simp [maxLen], rfl, fun hn => by omega⟩
  · have hcs' : [Value.slice A n c] = [.slice (some a) len cap] := hcs
    injection hcs' with hcs' _
    injection hcs' with h1 h2 h3
    subst h1 h2 h3
    have each : ∀ i, i < n → ∃ d : D, ∀ k, k < 4 → w.cell? ((a.add (i * 4)).add k) = some (u (d.1.getD k 0)) := by
      intro i hi
      have h1 := hel i hi
      rw [hct, List.getElem?_eq_getElem (by omega), Option.bind_eq_some_iff] at h1
      obtain ⟨cs', hc, ht'⟩ := h1
      obtain ⟨d, hd⟩ := D_of_trod hte he hce hct ht'
      exact ⟨d, fun k hk => ((World.cells?_some hc).2.2 k hk).trans (hd k hk)⟩
    have each' : ∀ i, ∃ d : D, i < n → ∀ k, k < 4 → w.cell? ((a.add (i * 4)).add k) = some (u (d.1.getD k 0)) := fun i => by
      by_cases hi : i < n
      · obtain ⟨d, hd⟩ := each i hi; exact ⟨d, fun _ => hd⟩
      · exact ⟨D.zero, fun h => absurd h hi⟩
    obtain ⟨f, hf'⟩ := Classical.axiomOfChoice each'
    refine ⟨some a, n, c, (List.range n).map f, rfl, hl, hm, by simp, fun hn => ?_⟩
    obtain ⟨g, o, s⟩ := a
    have h00 := hf' 0 hn 0 (by omega)
    have hs : s = none ∧ g < w.heap.size := by
      have e0 : ((⟨g, o, s⟩ : Addr).add (0 * 4)).add 0 = ⟨g, o, s⟩ := by simp [Addr.add]
      rw [e0] at h00
      unfold World.cell? at h00
      split at h00
      · rename_i c' _ _ hh
        have hh' : w.heap[g]? = some (.cells c' _ _) := hh
        refine ⟨?_, (Array.getElem?_eq_some_iff.1 hh').1⟩
        cases s with
        | none => rfl
        | some x => simp at h00
      · cases h00
    obtain ⟨rfl, hg⟩ := hs
    refine ⟨g, o, rfl, hg, fun i k hi hk => ?_⟩
    have := hf' i hi k hk
    have e1 : ((⟨g, o, none⟩ : Addr).add (i * 4)).add k = ⟨g, o + i * 4 + k, none⟩ := by
      unfold Addr.add
      by_cases h1 : i * 4 = 0 <;> by_cases h2 : k = 0 <;> simp [h1, h2]
    rw [e1] at this
    rw [this]
    simp [hi]
end
end Go.Proofs.YtamllmoakgnjoaaDoor
