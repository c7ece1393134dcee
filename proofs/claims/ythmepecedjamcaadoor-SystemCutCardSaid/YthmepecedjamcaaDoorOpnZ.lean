import Derived.Test.YthmepecedjamcaaDoorOpn
import Derived.SizedLaws
/- How long the texts of a row that came in may be; no law is named here. -/
namespace Go.Proofs.YthmepecedjamcaaDoor
open Go.ChangeShapes Go.WideShapes Go.ChangeAt Go.WideMaps Go.WideElems Go.RowKit
/-- Each text of the row, and the row, as long as the form lets them be. -/
def SzV (q : PV) : Prop := ∀ l : List ByteArray, q = .sl .any (ssP l) → l.length ≤ reachBytes ∧ ∀ s ∈ l, s.size ≤ reachBytes
theorem mem_weights {H : Type} {P : Program} {e : TypeId} {d : DataW H} : ∀ {l : List (DataW H)}, d ∈ l → ∀ n ∈ d.weights P e, n ∈ DataW.weightsAll P e l
  | [], h, _, _ => by cases h
  | x :: l, h, n, hn => by
    simp only [DataW.weightsAll, List.mem_append]
    rcases List.mem_cons.1 h with rfl | h
    · exact .inl hn
    · exact .inr (mem_weights h n hn)
theorem sized_ss {H : Type} {enc : TypeId × Value → H} {P : Program} {w : World} {base : Nat} {spare : Nat → Bool} {held : Bool} {t e : TypeId} (hu : P.underlying t = some (.slice e)) (he : P.underlying e = some .string) (hce : P.cellsOf e = 1) (hbe : 1 ≤ P.bytesOf e)
    {v : Value} {d : DataW H} {p : List MemPlace} (h : DataW.Trod enc P w base spare held t v d p) {q : PV} (r : Rep (allOf w) q v) (hw : ∀ n ∈ d.weights P t, n ≤ reachBytes) : SzV q := by
  rintro l rfl
  obtain ⟨A, c, rfl, hs⟩ := rep_ss (fun g i h => h) r
  obtain ⟨fuel, ht⟩ := h
  rcases DataW.trod_slice hu ht with ⟨h1, _⟩ | ⟨a, len, cap, elems, rest, m, _, h1, h2, hb, hl, hm, hz, hel, _, _⟩
  · have h1 : [Value.slice A l.length c] = [.slice none 0 0] := h1
    simp only [List.cons.injEq, Value.slice.injEq, and_true] at h1
    have : l = [] := List.eq_nil_of_length_eq_zero h1.2.1
    subst this
    exact ⟨Nat.zero_le _, fun s h => by cases h⟩
  · have h1 : [Value.slice A l.length c] = [.slice (some a) len cap] := h1
    simp only [List.cons.injEq, Value.slice.injEq, and_true] at h1
    obtain ⟨rfl, rfl, rfl⟩ := h1
    have hd : d = .slice (elems.map (·.1)) (rest.map (·.1)) := congrArg (·.1) h2
    subst hd
    have hlen : (elems.length + rest.length) * P.bytesOf e ≤ reachBytes := hw _ (by simp [DataW.weights, hu])
    refine ⟨?_, fun s hsm => ?_⟩
    · have : l.length * 1 ≤ (elems.length + rest.length) * P.bytesOf e := Nat.mul_le_mul (by omega) hbe
      omega
    · obtain ⟨i, hi, rfl⟩ := List.getElem_of_mem hsm
      have h6 := hel i hi
      rw [List.getElem?_eq_getElem (by omega), Option.bind_eq_some_iff] at h6
      obtain ⟨cs', hc, ht'⟩ := h6
      obtain ⟨s, hcs, hx, _⟩ := DataW.trod_string he ht'
      obtain ⟨g, o, hA, hg, hcell⟩ := hs.2.2.2 (by omega)
      have h7 : w.cell? ⟨_, _, none⟩ = some _ := hcell i hi
      injection hA with hA
      subst hA
      rw [hce] at hc
      have h8 := (World.cells?_some hc).2.2 0 (by omega)
      subst hcs
      have e1 : ((⟨g, o, none⟩ : Addr).add (i * 1)).add 0 = ⟨g, o + i, none⟩ := by
        unfold Addr.add
        by_cases h1 : i = 0 <;> simp [h1]
      rw [e1, h7] at h8
      simp only [List.getElem?_cons_zero, Option.some.injEq, Value.string.injEq] at h8
      have hgd : l.getD i ByteArray.empty = l[i] := by simp [List.getD, hi]
      rw [hgd] at h8
      have hm : elems[i].1 ∈ elems.map (·.1) := List.mem_map.2 ⟨_, List.getElem_mem _, rfl⟩
      have h9 := hw s.data.toList.length (by
        simp only [DataW.weights, hu, List.mem_cons, List.mem_append]
        refine .inr (.inl (mem_weights hm _ ?_))
        rw [hx]
        simp [DataW.weights])
      rw [h8]
      rw [Array.length_toList] at h9
      exact h9
end Go.Proofs.YthmepecedjamcaaDoor
