/- append of one string to a full slice of strings that may be anybody's: a new row; no law of the program is named here. -/
import Derived.Test.YtamllmoakgnjoaaDoorStrs
import Derived.Test.YtamllmoakgnjoaaDoorMore
namespace Go.Proofs.YtamllmoakgnjoaaDoor
open Go.RowKit
section
variable {P : Program}
theorem fullS_new {w : World} {A : Option Addr} {n c : Nat} {ss : List ByteArray} (hs : SlS w A n c ss) (s : ByteArray) (e : TypeId) (Z : Array Value) (cap : Nat) (h1 : n + 1 ≤ cap) (h2 : cap ≤ maxLen) :
    SlS (w.drew.alloc (.cells ((ss.map Value.string).toArray ++ [Value.string s].toArray ++ Z) e)) (some ⟨w.heap.size, 0, none⟩) (n + 1) cap (ss ++ [s]) ∧ Grow w (w.drew.alloc (.cells ((ss.map Value.string).toArray ++ [Value.string s].toArray ++ Z) e)) := by
  refine ⟨⟨h1, h2, by simp [hs.2.2.1], fun _ => ⟨w.heap.size, 0, rfl, by simp, fun i hi => ?_⟩⟩, (Grow.refl w).drew.alloc (Nat.le_refl _) _⟩
  have hc : ((ss.map Value.string).toArray ++ [Value.string s].toArray ++ Z) = ((ss ++ [s]).map Value.string).toArray ++ Z := by simp
  have hB : Blk (w.drew.alloc (.cells ((ss.map Value.string).toArray ++ [Value.string s].toArray ++ Z) e)) w.heap.size e _ := Blk.new w.drew e _
  have hl : i < (ss ++ [s]).length := by simp [hs.2.2.1]; omega
  rw [Nat.zero_add, hB.cell, hc, Array.getElem?_append_left (by simpa using hl), List.getElem?_toArray, List.getElem?_map, List.getD_eq_getElem?_getD, List.getElem?_eq_getElem hl]
  rfl
theorem run_append_fullS (t ty e : TypeId) (z : Value) (bytes : Nat) (ht : P.underlying t = some (.slice e)) (hinfo : (P.info? e).map (fun i => (i.zero, i.size, i.bytes)) = some (some z, 1, bytes))
    {w : World} {A : Option Addr} {n : Nat} {ss : List ByteArray} (hs : SlS w A n n ss) (b : Nat) (s : ByteArray) (hB : Blk w b e #[.string s]) (hm : n + 1 ≤ maxLen) (hby : (n + 1) * bytes ≤ 140737488355328) :
    ∃ A' c' w', (Builtin.append_ #[t, t] ty #[.slice A n n, .slice (some ⟨b, 0, none⟩) 1 1]).run P w = .ok (.slice A' (n + 1) c') w' ∧ SlS w' A' (n + 1) c' (ss ++ [s]) ∧ Grow w w' := by
  obtain ⟨i, hi, hz, hsz, rfl⟩ := info_parts hinfo
  have hm' := hm
  simp only [maxLen] at hm'
  have hnews : ∀ j v, [Value.string s][j]? = some v → w.cell? ((⟨b, 0, none⟩ : Addr).add j) = some v := fun j v hv => by
    rw [Addr.add_mid, hB.cell, Nat.zero_add]
    simpa using hv
  cases A with
  | none =>
    have hn : n = 0 := by
      rcases Nat.eq_zero_or_pos n with h | h
      · exact h
      · obtain ⟨g, o, e, _⟩ := hs.2.2.2 h
        cases e
    subst hn
    have hss : ss = [] := List.eq_nil_of_length_eq_zero hs.2.2.1
    subst hss
    have hr := run_append_nil (P := P) w t ty e i z ht hi hz ⟨b, 0, none⟩ 1 1 [Value.string s] (by rw [hsz]; rfl) hnews (by omega) (by omega) (by simp only [Nat.zero_add] at hby; omega)
    have hf := fullS_new hs s e (Builtin.zeroCells z.cells (grownCap w 1 0 e - 1)) (grownCap w 1 0 e) (grownCap_ge _ _ _ _) (grownCap_le_maxLen _ _ _ _ (by simp [maxLen]))
    simp only [List.map_nil, List.nil_append, Array.empty_append] at hf hr
    exact ⟨_, _, _, hr, hf.1, hf.2⟩
  | some ad =>
    have holds : ∀ j v, (ss.map Value.string)[j]? = some v → w.cell? (ad.add j) = some v := fun j v hv => by
      have hj : j < ss.length := by simpa using (List.getElem?_eq_some_iff.1 hv).1
      obtain ⟨g, o, e', _, hc⟩ := hs.2.2.2 (by rw [← hs.2.2.1]; omega)
      injection e' with e'
      subst e'
      rw [Addr.add_mid, hc j (by rw [← hs.2.2.1]; exact hj), List.getD_eq_getElem?_getD, List.getElem?_eq_getElem hj]
      rw [List.getElem?_map, List.getElem?_eq_getElem hj] at hv
      exact hv
    have hr := run_append_grow (P := P) w t ty e i z ht hi hz ad n n (ss.map Value.string) (by rw [hsz]; simp [hs.2.2.1]) holds ⟨b, 0, none⟩ 1 1 [Value.string s] (by rw [hsz]; rfl) hnews (by omega) (by omega) (growslice_fits (by omega) hby)
    have hf := fullS_new hs s e (Builtin.zeroCells z.cells (grownCap w (n + 1) n e - (n + 1))) (grownCap w (n + 1) n e) (grownCap_ge _ _ _ _) (grownCap_le_maxLen _ _ _ _ hm)
    exact ⟨_, _, _, hr, hf.1, hf.2⟩
theorem wpList_append_fullS {ops : Array Oper} {rest : List Oper} {o : Oper} {a : Act} {Q : Exit → Act → World → Prop} {w : World} (hgd : o.guard = none) (s x : Operand) (t : TypeId)
    (ho : o.op = .call { callee := .builtin .append, args := #[s, x], argTypes := #[t, t] })
    (e : TypeId) (z : Value) (bytes : Nat) (ht : P.underlying t = some (.slice e)) (hinfo : (P.info? e).map (fun i => (i.zero, i.size, i.bytes)) = some (some z, 1, bytes))
    (A : Option Addr) (n : Nat) (ss : List ByteArray) (hv : a.eval s = .slice A n n) (hs : SlS w A n n ss) (b : Nat) (y : ByteArray) (hx : a.eval x = .slice (some ⟨b, 0, none⟩) 1 1) (hB : Blk w b e #[.string y]) (hm : n + 1 ≤ maxLen) (hby : (n + 1) * bytes ≤ 140737488355328)
    (h : ∀ A' c' w', SlS w' A' (n + 1) c' (ss ++ [y]) → Grow w w' → wpList P ops Q rest (a.put o.dst (.slice A' (n + 1) c')) w') : wpList P ops Q (o :: rest) a w := by
  refine wpList_plain hgd fun K hK' => ?_
  obtain ⟨A', c', w', hrun, r1, r2⟩ := run_append_fullS (P := P) t o.type e z bytes ht hinfo hs b y hB hm hby
  unfold Oper.wp
  simp [execOp, ho, resolve, invoke, builtin, hv, hx, hrun, Result.andThen]
  exact hK' _ _ (h A' c' w' r1 r2)
end
end Go.Proofs.YtamllmoakgnjoaaDoor
