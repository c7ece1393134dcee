import Derived.Test.YtjokaennipmmaaaDoorPx
/- Maps whose keys are digests: which entry has a key. -/
namespace Go.Proofs.YtjokaennipmmaaaDoor
open Go.RowKit
set_option maxRecDepth 100000 in
theorem checkKey_D (e : Bool) (d : D) (w : World) : (Instr.checkKey e 10000 30 (.agg (us d.1))).run Tryd.prog w = .ok () w := by
  rw [us_eq4]
  kernel_rfl
set_option maxRecDepth 100000 in
theorem findAsking_D (d : D) (w : World) : ∀ (es : List MapEntry) (ks : List D) (i : Nat), es.map (·.key) = ks.map (fun k => Value.agg (us k.1)) →
    (Instr.findAsking 30 (.agg (us d.1)) es i).run Tryd.prog w = .ok ((ks.findIdx? (fun k => decide (d = k))).map fun j => (i + j, (es.getD j default).val)) w
  | [], [], _, _ => rfl
  | [], _ :: _, _, h => by simp at h
  | _ :: _, [], _, h => by simp at h
  | e :: es, k :: ks, i, h => by
    simp only [List.map_cons, List.cons.injEq] at h
    have he := (eq_D d k (.const undef) (.const undef) w).2.2
    rw [← h.1] at he
    unfold Instr.findAsking
    simp only [Sem.run_bind, he, Result.andThen_ok]
    by_cases hd : d = k
    · rw [decide_eq_true hd]
      simp [List.findIdx?_cons, hd, List.getD]
    · rw [decide_eq_false hd]
      simp only [Bool.false_eq_true, if_false]
      rw [findAsking_D d w es ks (i + 1) h.2]
      simp only [List.findIdx?_cons, decide_eq_false hd, Bool.false_eq_true, if_false, Option.map_map]
      congr 1
      congr 1
      funext j
      simp [Function.comp, Nat.add_assoc, Nat.add_comm 1 j, List.getD]
/-- A map from digests, as entries. -/
def mdP (l : List (D × PV)) : List (PV × PV) := l.map fun p => (.agg (dP p.1), p.2)
set_option maxRecDepth 100000 in
theorem findNow_D (d : D) (e : MapEntry) (es : List MapEntry) (k : D) (h : e.key = .agg (us k.1)) : Instr.findNow (.array 4 28) (.agg (us d.1)) (e :: es) 0 = none := by
  unfold Instr.findNow
  rw [h]
  rfl
theorem sameBits_D (n : Nat) (d : D) : Instr.sameBits (n + 1) (.agg (us d.1)) (.agg (us d.1)) = true := by
  rw [us_eq4]
  simp [Instr.sameBits, u]
set_option maxRecDepth 100000 in
theorem mapFind_D (d : D) (l : List (D × PV)) : MapFind Tryd.prog 30 (.agg (us d.1)) (mdP l) (l.findIdx? (fun p => decide (d = p.1))) := by
  intro w ents e hsz hkey
  have hlen : ents.size = l.length := by rw [hsz]; simp [mdP]
  have hk : ∀ i, (hi : i < l.length) → (ents.getD i default).key = .agg (us (l[i]).1.1) := fun i hi => by
    have := hkey i (.agg (dP (l[i]).1)) (l[i]).2 (by simp [mdP, hi])
    rw [dP_flat] at this
    exact (Option.some.inj this).symm
  have hmap : ents.toList.map (·.key) = (l.map (·.1)).map (fun k => Value.agg (us k.1)) := by
    apply List.ext_getElem
    · simp [hlen]
    · intro i h1 h2
      have hi : i < l.length := by simpa using h2
      have := hk i hi
      have hi2 : i < ents.size := by omega
      simp only [Array.getD, hi2, dite_true] at this
      simpa using this
  refine ⟨checkKey_D e d w, ?_, fun i hi => ?_⟩
  · have hfind : (l.map (·.1)).findIdx? (fun k => decide (d = k)) = l.findIdx? (fun p => decide (d = p.1)) := by rw [List.findIdx?_map]; rfl
    have hask := findAsking_D d w ents.toList (l.map (·.1)) 0 hmap
    rw [hfind] at hask
    unfold Instr.findKey
    simp only [Sem.run_bind, run_underlying Tryd.underlying30, Result.andThen_ok]
    cases hl : ents.toList with
    | nil =>
      have : l = [] := List.eq_nil_of_length_eq_zero (by rw [← hlen, ← Array.length_toList, hl]; rfl)
      subst this
      rfl
    | cons en rest =>
      rw [hl] at hask hmap
      cases l with
      | nil => simp at hmap
      | cons p l =>
        simp only [List.map_cons, List.cons.injEq] at hmap
        rw [findNow_D d en rest p.1 hmap.1]
        simp only
        rw [hask]
        congr 1
        cases hf : (p :: l).findIdx? (fun p => decide (d = p.1)) with
        | none => rfl
        | some j =>
          simp only [Option.map_some, Nat.zero_add]
          rw [← hl]
          simp [List.getD, Array.getD_eq_getD_getElem?]
  · have h1 := List.findIdx?_eq_some_iff_getElem.1 hi
    obtain ⟨hj, hd, _⟩ := h1
    refine ⟨by simpa [mdP] using hj, ?_⟩
    rw [hk i hj, ← of_decide_eq_true hd]
    exact sameBits_D 9999 d
end Go.Proofs.YtjokaennipmmaaaDoor
