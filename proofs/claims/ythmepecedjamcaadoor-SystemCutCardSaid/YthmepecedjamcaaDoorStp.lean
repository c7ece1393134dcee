import Derived.Test.YthmepecedjamcaaDoorOpe
import Derived.Test.YthmepecedjamcaaDoorLGrow
import Derived.Test.YthmepecedjamcaaDoorLJ1
/- What is kept of records, plainly; store.Save and the document's. -/
namespace Go.Proofs.YthmepecedjamcaaDoor
open Go.RowKit
set_option linter.unnecessarySimpa false
theorem findE_neg {acc : List ByteArray} {d : D} : findE acc d < 0 ↔ ∀ a ∈ acc, digE a ≠ d := by
  constructor
  · intro h a ha e
    have := seen_no h
    rw [List.findIdx?_eq_none_iff] at this
    simpa [e] using this a ha
  · intro h
    rw [findE_no (fun q hq e => h _ (ss_mem hq) e)]; omega
theorem openE_app (a b acc : List ByteArray) : openE (a ++ b) acc = openE b (openE a acc) := by
  induction a generalizing acc with
  | nil => rfl
  | cons r a ih => exact ih _
theorem openE_nodup : ∀ (rs acc : List ByteArray), (digsE (acc ++ rs)).Nodup → openE rs acc = acc ++ rs
  | [], acc, _ => (List.append_nil _).symm
  | r :: rs, acc, h => by
    have hn : findE acc (digE r) < 0 := findE_neg.2 fun a ha e => by
      unfold digsE at h
      rw [List.map_append, List.nodup_append] at h
      exact h.2.2 _ (List.mem_map.2 ⟨a, ha, rfl⟩) _ (List.mem_map.2 ⟨r, by simp, rfl⟩) e
    show openE rs (if _ then _ else _) = _
    rw [if_pos hn, openE_nodup rs (acc ++ [r]) (by simpa using h)]
    simp
theorem openE_has : ∀ (rs acc : List ByteArray), (∀ a ∈ acc, a ∈ openE rs acc) ∧ ∀ r ∈ rs, ∃ a ∈ openE rs acc, digE a = digE r
  | [], acc => ⟨fun a h => h, fun r h => (by cases h)⟩
  | r :: rs, acc => by
    by_cases hn : findE acc (digE r) < 0
    · have e : openE (r :: rs) acc = openE rs (acc ++ [r]) := by show openE rs (if _ then _ else _) = _; rw [if_pos hn]
      rw [e]
      obtain ⟨h1, h2⟩ := openE_has rs (acc ++ [r])
      refine ⟨fun a ha => h1 a (by simp [ha]), fun x hx => ?_⟩
      rcases List.mem_cons.1 hx with rfl | hx
      · exact ⟨x, h1 x (by simp), rfl⟩
      · exact h2 x hx
    · have e : openE (r :: rs) acc = openE rs acc := by show openE rs (if _ then _ else _) = _; rw [if_neg hn]
      rw [e]
      obtain ⟨h1, h2⟩ := openE_has rs acc
      refine ⟨h1, fun x hx => ?_⟩
      rcases List.mem_cons.1 hx with rfl | hx
      · have : ∃ a ∈ acc, digE a = digE x := by
          by_cases hh : ∃ a ∈ acc, digE a = digE x
          · exact hh
          · exact absurd (findE_neg.2 fun a ha e => hh ⟨a, ha, e⟩) hn
        obtain ⟨a, ha, hd⟩ := this
        exact ⟨a, h1 a ha, hd⟩
      · exact h2 x hx
theorem openE_known : ∀ (rs acc : List ByteArray), (∀ r ∈ rs, ∃ a ∈ acc, digE a = digE r) → openE rs acc = acc
  | [], acc, _ => rfl
  | r :: rs, acc, h => by
    obtain ⟨a, ha, hd⟩ := h r (by simp)
    have hn : ¬ findE acc (digE r) < 0 := fun hn => findE_neg.1 hn a ha hd
    show openE rs (if _ then _ else _) = _
    rw [if_neg hn]
    exact openE_known rs acc fun x hx => h x (by simp [hx])
theorem openE_twice (l : List ByteArray) : openE (l ++ l) [] = openE l [] := by
  rw [openE_app]
  exact openE_known _ _ (openE_has l []).2
theorem grow1_eq {s : List ByteArray} {a : ByteArray} (h : s.length < 1000) : grow1 s a = if findE s (digE a) < 0 then s ++ [a] else s := by
  unfold grow1 addE
  rcases findE_cases s (digE a) with hno | ⟨j, hj, hyes⟩
  · rw [hno, if_neg (by omega : ¬ (0 : Int) ≤ -1), if_neg (by omega : ¬ 1000 ≤ s.length), if_pos (by omega : (-1 : Int) < 0)]
    rfl
  · rw [hyes, if_pos (by omega : (0 : Int) ≤ (j : Int)), if_neg (by omega : ¬ (j : Int) < 0)]
    split
    · rfl
    · rfl
theorem openE_grow : ∀ (rs acc : List ByteArray), acc.length + rs.length < 1000 → openE rs acc = growE acc rs
  | [], acc, _ => rfl
  | r :: rs, acc, h => by
    have e : growE acc (r :: rs) = growE (grow1 acc r) rs := rfl
    rw [e, grow1_eq (by simp at h; omega)]
    show openE rs (if _ then _ else _) = _
    refine openE_grow rs _ ?_
    simp only [List.length_cons] at h
    split
    · rw [List.length_append, List.length_singleton]; omega
    · omega
theorem openE_len (rs acc : List ByteArray) : (openE rs acc).length ≤ acc.length + rs.length := by
  induction rs generalizing acc with
  | nil => exact Nat.le_refl _
  | cons r rs ih =>
    have := ih (if findE acc (digE r) < 0 then acc ++ [r] else acc)
    show (openE rs (if _ then _ else _)).length ≤ _
    simp only [List.length_cons]
    split at this
    · rename_i hn; rw [if_pos hn]; rw [List.length_append, List.length_singleton] at this; omega
    · rename_i hn; rw [if_neg hn]; omega
theorem putB_few : ∀ (l : List (List UInt8)) (n : Nat), (∀ r ∈ l, r.length ≤ n) → (putB l).length ≤ (20 + n) * l.length
  | [], n, _ => by simp [putB_nil]
  | r :: l, n, h => by
    rw [putB_cons, List.length_append, recB_len, List.length_cons, Nat.mul_add]
    have := putB_few l n fun x hx => h x (by simp [hx])
    have := h r (by simp)
    omega
/-- A store's texts, as bytes. -/
def toL (l : List ByteArray) : List (List UInt8) := l.map fun s => s.data.toList
theorem toL_bs (l : List ByteArray) : bsL (toL l) = l := bsL_data l
theorem toL_len (l : List ByteArray) : (toL l).length = l.length := List.length_map _
theorem toL_few {l : List ByteArray} {n : Nat} (h : ∀ s ∈ l, s.size ≤ n) : (putB (toL l)).length ≤ (20 + n) * l.length := by
  have := putB_few (toL l) n fun r hr => by
    obtain ⟨s, hs, rfl⟩ := List.mem_map.1 hr
    rw [Array.length_toList]; exact h s hs
  rwa [toL_len] at this
set_option maxRecDepth 100000 in
theorem s_save (l : List ByteArray) (hl : l.length ≤ 1000) (hp : (putB (toL l)).length ≤ 900000) : Spec (Ctx.mk Tryd.prog globX (0 + 1) Places) 16 [.agg [.sl .any (ssP l)]] [] (.tup [.v (.string (bs (putB (toL l)))), .v (.int .i64 0)]) [] := by
  have sp := s_put (toL l) (by rw [toL_len]; exact hl) hp
  rw [toL_bs] at sp
  refine spec_of_bodyL CX_mixed CX_gpk Tryd.func16 rfl 9 0 rfl rfl rfl rfl ?_
  refine go_ ?_
  with_reducible apply run_y
  exact want_
  · intro K hK
    refine ev_ ?_
    refine vcCall_plain (sp) (by kernel_rfl) ?_
    refine ev_ ?_
    exact hK
  refine go_ ?_
  refine ev_ ?_
  exact .mk (by rfl) trivial
set_option maxRecDepth 100000 in
theorem s_rsave (l : List ByteArray) (hl : l.length ≤ 1000) (hp : (putB (toL l)).length ≤ 900000) : Spec (Ctx.mk Tryd.prog globX (0 + 1) Places) 36 [.agg [.sl .any (ssP l)]] [] (.tup [.v (.string (bs (putB (toL l)))), .v (.int .i64 0)]) [] := by
  have sp := s_rput (toL l) (by rw [toL_len]; exact hl) hp
  rw [toL_bs] at sp
  refine spec_of_bodyL CX_mixed CX_gpk Tryd.func36 rfl 9 0 rfl rfl rfl rfl ?_
  refine go_ ?_
  with_reducible apply run_y
  exact want_
  · intro K hK
    refine ev_ ?_
    refine vcCall_plain (sp) (by kernel_rfl) ?_
    refine ev_ ?_
    exact hK
  refine go_ ?_
  refine ev_ ?_
  exact .mk (by rfl) trivial
end Go.Proofs.YthmepecedjamcaaDoor
