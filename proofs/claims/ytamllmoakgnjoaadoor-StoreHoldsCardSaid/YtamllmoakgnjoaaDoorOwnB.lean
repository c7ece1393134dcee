/- A row of bytes of the call's own that may have come of a string (its mark lies behind all cells): appended to one by one; no program is named here. -/
import Derived.Test.YtamllmoakgnjoaaDoorGen
import Derived.Lib.ConvBytes
import Derived.ArgAppend
namespace Go.Proofs.YtamllmoakgnjoaaDoor
open Go.RowKit
def OwnB (w : World) (base : Nat) (e : TypeId) (v : Value) (n : Nat) (xs : List Value) : Prop :=
  xs.length = n ∧ ∃ (g cap : Nat) (cur : Array Value) (fr : Nat × Nat), v = .slice (some ⟨g, 0, none⟩) n cap ∧ base ≤ g ∧ w.heap[g]? = some (.cells cur e fr) ∧ (fr = (0, 0) ∨ cur.size ≤ fr.1) ∧ n ≤ cap ∧ cap ≤ maxLen ∧ cur.size = cap ∧ cur.toList.take n = xs
section
variable {w w' : World} {base n : Nat} {e : TypeId} {v : Value} {xs : List Value}
theorem OwnB.of_own (h : w.ownsRow base e 1 v n xs) (hn : 0 < n) : OwnB w base e v n xs := by
  obtain ⟨hl, h | ⟨g, cap, cur, hv, h1, h2, h3, h4, h5, h6⟩⟩ := h
  · omega
  · exact ⟨by omega, g, cap, cur, (0, 0), hv, h1, h2, .inl rfl, h3, h4, by omega, by rw [← h6, Nat.mul_one]⟩
theorem cell_of_heap {g : Nat} {cur : Array Value} {fr : Nat × Nat} (h : w.heap[g]? = some (.cells cur e fr)) (j : Nat) : w.cell? ⟨g, j, none⟩ = cur[j]? := by
  simp [World.cell?, h]
theorem OwnB.sl (h : OwnB w base e v n xs) : Sl w v 1 n xs := by
  obtain ⟨hl, g, cap, cur, fr, hv, h1, h2, hf, h3, h4, h5, h6⟩ := h
  refine ⟨_, cap, hv, h3, h4, by omega, .inr ⟨g, 0, rfl, ?_, fun j x hx => ?_⟩⟩
  · rcases Nat.lt_or_ge g w.heap.size with hlt | hge
    · exact hlt
    · rw [Array.getElem?_eq_none hge] at h2; cases h2
  · rw [Nat.zero_add, cell_of_heap h2 j]
    rw [← h6] at hx
    rw [List.getElem?_take] at hx
    split at hx
    · simpa using hx
    · simp at hx
theorem OwnB.lt (h : OwnB w base e v n xs) : base < w.heap.size := by
  obtain ⟨hl, g, cap, cur, fr, hv, h1, h2, hf, h3, h4, h5, h6⟩ := h
  rcases Nat.lt_or_ge g w.heap.size with hlt | hge
  · omega
  · rw [Array.getElem?_eq_none hge] at h2; cases h2
theorem OwnB.grow (h : OwnB w base e v n xs) (hg : Grow w w') : OwnB w' base e v n xs := by
  obtain ⟨hl, g, cap, cur, fr, hv, h1, h2, r⟩ := h
  refine ⟨hl, g, cap, cur, fr, hv, h1, ?_, r⟩
  rcases Nat.lt_or_ge g w.heap.size with hlt | hge
  · exact (hg.block g hlt).trans h2
  · rw [Array.getElem?_eq_none hge] at h2; cases h2
theorem heap_setCell_at {g i : Nat} {cur : Array Value} {fr : Nat × Nat} (h : w.heap[g]? = some (.cells cur e fr)) (x : Value) : (w.setCell ⟨g, i, none⟩ x).heap[g]? = some (.cells (cur.setIfInBounds i x) e fr) := by
  simp [World.setCell, Array.getElem?_modify, h]
theorem bytesWorld_own (w : World) (e : TypeId) (l : List UInt8) (hm : l.length ≤ maxLen) : OwnB (Lib.bytesWorld w e ⟨l.toArray⟩) w.heap.size e (.slice (some ⟨w.heap.size, 0, none⟩) l.length (grownCap w l.length 0 e)) l.length (bys l) := by
  have hs : (ByteArray.mk l.toArray).size = l.length := by simp [ByteArray.size]
  have hge := grownCap_ge w l.length 0 e
  have hsz : (Lib.bytesCells w e ⟨l.toArray⟩).size = grownCap w l.length 0 e := by
    simp [Lib.bytesCells, hs]; omega
  refine ⟨by simp [bys], _, _, _, _, rfl, Nat.le_refl _, Lib.bytesWorld_at_new w e ⟨l.toArray⟩, .inr (Nat.le_refl _), hge, grownCap_le_maxLen w _ 0 e hm, hsz, ?_⟩
  simp [Lib.bytesCells, bys]
theorem bytesWorld_grow (w : World) (e : TypeId) (s : ByteArray) : Grow w (Lib.bytesWorld w e s) :=
  ⟨rfl, rfl, rfl, by rw [Lib.bytesWorld_size]; omega, fun k hk => Lib.bytesWorld_at_old w e s k hk⟩
end
/-- append of one element that was just laid into a new block. -/
theorem wpList_append_B1 {P : Program} {ops : Array Oper} {rest : List Oper} {o : Oper} {a : Act} {Q : Exit → Act → World → Prop} {wr : World} (hgd : o.guard = none) (s x : Operand) (t : TypeId)
    (ho : o.op = .call { callee := .builtin .append, args := #[s, x], argTypes := #[t, t] })
    (base : Nat) (e : TypeId) (z : Value) (bytes : Nat) (ht : P.underlying t = some (.slice e)) (hinfo : (P.info? e).map (fun i => (i.zero, i.size, i.bytes)) = some (some z, 1, bytes)) (hzs : z.cells.size = 1)
    (v : Value) (n : Nat) (xs : List Value) (hs : a.eval s = v) (hown : OwnB wr base e v n xs) (c : Nat) (y : Value) (hx : a.eval x = .slice (some ⟨wr.heap.size, 0, none⟩) 1 c) (h1 : y.oneCell' = true)
    (h63 : n + 1 ≤ maxLen) (hbytes : (n + 1) * bytes ≤ 140737488355328)
    (h : ∀ v' w', OwnB w' base e v' (n + 1) (xs ++ [y]) → Below base wr w' → wpList P ops Q rest (a.put o.dst v') w') : wpList P ops Q (o :: rest) a (wr.alloc (.cells #[y] e)) := by
  obtain ⟨i, hi, hz0, hz1, hz2⟩ := info_parts hinfo
  have hbase := hown.lt
  have hn0 := hown
  obtain ⟨hl, g, cap, cur, fr, hv, hbg, hg, hf, h3, h4, h5, h6⟩ := hown
  subst hv
  have hglt : g < wr.heap.size := by
    rcases Nat.lt_or_ge g wr.heap.size with hlt | hge
    · exact hlt
    · rw [Array.getElem?_eq_none hge] at hg; cases hg
  have hg' : (wr.alloc (.cells #[y] e)).heap[g]? = some (.cells cur e fr) := (Below.heap_alloc wr _ g hglt).trans hg
  refine wpList_append_arg _ hgd s x t ho e i z 1 bytes ht hi hz0 hz1 hz2 hzs (by omega) g 0 n cap xs hs (by omega) ?_ ⟨wr.heap.size, 0, none⟩ 1 c [y] hx rfl ?_ (by simpa using h1) ?_ h63 hbytes ?_ ?_
  · intro j u hj
    rw [Nat.zero_add, cell_of_heap hg' j]
    rw [← h6, List.getElem?_take] at hj
    split at hj
    · simpa using hj
    · simp at hj
  · intro j u hj
    have hadd : (⟨wr.heap.size, 0, none⟩ : Addr).add j = ⟨wr.heap.size, j, none⟩ := by unfold Addr.add; split <;> simp_all
    rw [hadd, (Blk.new wr e #[y]).cell j]
    simpa using hj
  · intro hroom j hj
    have hj0 : j = 0 := by simpa using hj
    subst hj0
    refine ⟨?_, ?_⟩
    · rw [cell_of_heap hg']
      simp; omega
    · have hfz : (wr.alloc (.cells #[y] e)).frozen? ⟨g, 0 + n * 1 + 0, none⟩ = (decide (fr.1 ≤ 0 + n * 1 + 0) && decide (0 + n * 1 + 0 < fr.2)) := by
        unfold World.frozen?
        simp only [hg']
      rw [hfz]
      rcases hf with hf | hf
      · subst hf; simp
      · have : ¬ fr.1 ≤ n := by omega
        simp [this]
  · intro hroom
    refine h _ _ ⟨by simp; omega, g, cap, cur.setIfInBounds n y, fr, rfl, hbg, ?_, ?_, hroom, h4, ?_, ?_⟩ ?_
    · show ((wr.alloc (.cells #[y] e)).setCell ⟨g, 0 + n * 1, none⟩ y).heap[g]? = _
      rw [Nat.zero_add, Nat.mul_one]
      exact heap_setCell_at hg' y
    · simpa using hf
    · simpa using h5
    · have hnc : n < cur.size := by omega
      rw [← h6]
      apply List.ext_getElem?
      intro j
      simp only [Array.toList_setIfInBounds, List.getElem?_take, List.getElem?_set, List.getElem?_append, List.length_take, Array.length_toList]
      rw [Nat.min_eq_left (by omega)]
      by_cases hj : j < n
      · simp [hj, show ¬ n = j by omega, show j < n + 1 by omega]
      · by_cases hjn : j = n
        · subst hjn; simp [hnc]
        · simp [hj, show ¬ j < n + 1 by omega, show j - n ≠ 0 by omega]
    · exact ((Below.refl base wr).alloc (by omega) _).setCell (by exact hbg) _
  · intro hfull v' w' hown' hgr
    refine h v' w' ?_ ?_
    · have := OwnB.of_own hown' (by omega)
      obtain ⟨q1, g2, c2, cu2, f2, q2, q3, q4⟩ := this
      exact ⟨q1, g2, c2, cu2, f2, q2, by simp at q3; omega, q4⟩
    · exact ((Below.refl base wr).alloc (by omega) _).grown hgr (by simp; omega) (fun k hk => by cases hk)
end Go.Proofs.YtamllmoakgnjoaaDoor
