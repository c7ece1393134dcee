/- Rows of words that hold digests: what a store leaves, and the list that lies there. -/
import Derived.Test.YtamllmoakgnjoaaDoorMore
namespace Go.Proofs.YtamllmoakgnjoaaDoor
open Go.RowKit
/-- Cells of words alone. -/
def AllU (cs : Array Value) : Prop := ∀ i, i < cs.size → ∃ x : UInt32, cs[i]? = some (u x)
theorem AllU.set {cs : Array Value} (h : AllU cs) (i : Nat) (x : UInt32) : AllU (cs.setIfInBounds i (u x)) := by
  intro j hj
  rw [Array.size_setIfInBounds] at hj
  rw [Array.getElem?_setIfInBounds]
  by_cases e : i = j
  · subst e; rw [if_pos rfl, if_pos hj]; exact ⟨x, rfl⟩
  · rw [if_neg e]; exact h j hj
theorem AllU.sl {w : World} {g : Nat} {e : TypeId} {cs : Array Value} {n : Nat} (h : AllU cs) (hb : Blk w g e cs) (hs : cs.size = n * 4) (hm : n ≤ maxLen) : ∃ l, SlD w (some ⟨g, 0, none⟩) n n l := by
  have each : ∀ i, ∃ d : D, i < n → ∀ k, k < 4 → cs[i * 4 + k]? = some (u (d.1.getD k 0)) := by
    intro i
    by_cases hi : i < n
    · obtain ⟨x0, h0⟩ := h (i * 4 + 0) (by omega)
      obtain ⟨x1, h1⟩ := h (i * 4 + 1) (by omega)
      obtain ⟨x2, h2⟩ := h (i * 4 + 2) (by omega)
      obtain ⟨x3, h3⟩ := h (i * 4 + 3) (by omega)
      refine ⟨⟨[x0, x1, x2, x3], rfl⟩, fun _ k hk => ?_⟩
      have hc : k = 0 ∨ k = 1 ∨ k = 2 ∨ k = 3 := by omega
      rcases hc with rfl | rfl | rfl | rfl
      · exact h0
      · exact h1
      · exact h2
      · exact h3
    · exact ⟨D.zero, fun hh => absurd hh hi⟩
  obtain ⟨f, hf⟩ := Classical.axiomOfChoice each
  refine ⟨(List.range n).map f, Nat.le_refl _, hm, by simp, fun _ => ⟨g, 0, rfl, hb.lt, fun i k hi hk => ?_⟩⟩
  rw [hb.cell, Nat.zero_add, hf i hi k hk]
  simp [hi]
theorem setCells_D {w : World} {g : Nat} {e : TypeId} {cs : Array Value} (hb : Blk w g e cs) (ha : AllU cs) (o : Nat) (d : D) : ∃ cs', Blk (w.setCells g o (us d.1).toList) g e cs' ∧ cs'.size = cs.size ∧ AllU cs' := by
  obtain ⟨l, hl⟩ := d
  match l, hl with
  | [x0, x1, x2, x3], _ =>
    refine ⟨_, (((hb.set_ o (u x0)).set_ (o + 1) (u x1)).set_ (o + 1 + 1) (u x2)).set_ (o + 1 + 1 + 1) (u x3), by simp, (((ha.set o x0).set (o + 1) x1).set (o + 1 + 1) x2).set (o + 1 + 1 + 1) x3⟩
theorem setCells_far {w : World} {g k : Nat} (hne : k ≠ g) (vs : List Value) : ∀ o, (w.setCells g o vs).heap[k]? = w.heap[k]? := by
  induction vs generalizing w with
  | nil => intro o; rfl
  | cons v vs ih => intro o; rw [World.setCells, ih]; exact Below.heap_setCell w ⟨g, o, none⟩ v k hne
theorem setCells_below {B : Nat} {w0 : World} {g : Nat} (hg : B ≤ g) (vs : List Value) : ∀ (w : World) (o : Nat), Below B w0 w → Below B w0 (w.setCells g o vs) := by
  induction vs with
  | nil => intro w o h; exact h
  | cons v vs ih => intro w o h; exact ih _ _ (h.setCell hg v)
theorem madeU (n : Nat) : AllU (madeCells #[.int .u32 0, .int .u32 0, .int .u32 0, .int .u32 0] (n * 4)) := by
  intro i hi
  refine ⟨0, ?_⟩
  rw [size_madeCells] at hi
  unfold madeCells
  rw [Array.getElem?_map, Array.getElem?_eq_getElem (by simpa using hi)]
  simp only [Option.map_some, Array.getElem_range]
  have h4 : i % 4 = 0 ∨ i % 4 = 1 ∨ i % 4 = 2 ∨ i % 4 = 3 := by omega
  show some ((#[.int .u32 0, .int .u32 0, .int .u32 0, .int .u32 0] : Array Value)[i % 4]!) = _
  rcases h4 with h | h | h | h <;> rw [h] <;> rfl
theorem AllU.there {w : World} {g : Nat} {e : TypeId} {cs : Array Value} (hb : Blk w g e cs) (o k : Nat) (h : o + k ≤ cs.size) : w.there g o k := fun j hj => ⟨by rw [hb.cell, Array.getElem?_eq_getElem (by omega)]; rfl, hb.frozen _⟩
end Go.Proofs.YtamllmoakgnjoaaDoor
