import Derived.Test.YtddggjmfplohkaaDoorTn
/- Names of a program, the document's. -/
namespace Go.Proofs.YtddggjmfplohkaaDoor
open Go.RowKit
set_option linter.unnecessarySimpa false
noncomputable def isE (s : ByteArray) : Bool := !hasB s wordsL && nmE s
set_option maxHeartbeats 2000000 in
set_option maxRecDepth 100000 in
theorem s_isName (s : ByteArray) : Spec (Ctx.mk Tryd.prog globT 7 LaidT) 32 [.v (.string s)] [] (.v (.bool (isE s))) [] := by
  refine spec_of_bodyL CX_mixed CX_gpk Tryd.func32 rfl 20 0 rfl rfl rfl rfl ?_
  refine go_ ?_
  with_reducible apply run_y
  exact want_
  · intro K hK
    refine ev_ ?_
    refine vcCall_plain (s_rwords) (by kernel_rfl) ?_
    refine ev_ ?_
    exact hK
  refine go_ ?_
  refine c_loop (fun k q m h => ∃ j : Nat, j ≤ wordsL.length ∧ (∀ i, i < j → s ≠ wordsL.getD i ByteArray.empty) ∧ k = wordsL.length - j ∧ q = [.v (.string s), .top, .top, .sl .any (ssP wordsL), .v (.int .i64 (j : Int))] ++ List.replicate 15 .top ∧ m = 1 ∧ h = [])
    ⟨_, _, _, _, ?_, ?_, ⟨0, Nat.zero_le _, fun i hi => by omega, rfl, rfl, rfl, rfl⟩⟩ ?_
  · rfl
  · skip
    exact sub_
  rintro k q m h hlen ⟨j, hj, hn, rfl, rfl, rfl, rfl⟩
  clear hlen
  have hwl : wordsL.length = 10 := rfl
  refine go_ ?_
  first | refine run_b rfl rfl rfl (fun hb => ?_) (fun hb => ?_) | refine c_cond rfl (fun hb => ?_) (fun hb => ?_)
  · have hj' : j < wordsL.length := by have := of_decide_eq_true hb; rw [ssP_len] at this; omega
    have hw2 : IntKind.i64.wrap ((j : Int) + 1) = ((j + 1 : Nat) : Int) := by rw [wrap64 (by omega) (by omega)]; omega
    have e1 : wordsL.getD j ByteArray.empty = wordsL[j] := by simp [List.getD, hj']
    have hat := ssP_at hj'
    by_cases he : s = wordsL.getD j ByteArray.empty
    · have g1 : decide (s = wordsL.getD j ByteArray.empty) = true := decide_eq_true he
      have hm : s ∈ wordsL := by rw [he, e1]; exact List.getElem_mem hj'
      refine go_ ?_
      refine ev_ ?_
      exact .mk (vb_eq (by (unfold isE; rw [hasB_t hm]; rfl))) trivial
    · have g1 : decide (s = wordsL.getD j ByteArray.empty) = false := decide_eq_false he
      refine go_ ?_
      rw [hw2]
      refine c_round ⟨_, _, _, _, ?_, ?_, ?_, ⟨j + 1, by omega, fun i hi => ?_, rfl, rfl, rfl, rfl⟩⟩
      · omega
      · rfl
      · skip
        exact sub_
      · by_cases h : i = j
        · subst h; exact he
        · exact hn i (by omega)
  have hj' : j = wordsL.length := by have := of_decide_eq_false hb; rw [ssP_len] at this; omega
  have hm : s ∉ wordsL := fun hm => by
    obtain ⟨i, hi, e⟩ := List.getElem_of_mem hm
    exact hn i (by omega) (by simp [List.getD, hi, e])
  refine go_ ?_
  with_reducible apply run_y
  exact want_
  · intro K hK
    refine ev_ ?_
    refine vcCall_plain (s_rName s) (by kernel_rfl) ?_
    refine ev_ ?_
    exact hK
  refine go_ ?_
  refine ev_ ?_
  exact .mk (vb_eq (by (unfold isE; rw [hasB_f hm]; simp))) trivial
theorem all_not {l : List ByteArray} {j : Nat} (hj : j < l.length) (h : isE (l.getD j ByteArray.empty) = false) : l.all isE = false := by
  rw [List.all_eq_false]
  refine ⟨l[j], List.getElem_mem hj, ?_⟩
  have e : l.getD j ByteArray.empty = l[j] := by simp [List.getD, hj]
  rw [← e, h]
  decide
theorem all_yes {l : List ByteArray} (h : ∀ i, i < l.length → isE (l.getD i ByteArray.empty) = true) : l.all isE = true := by
  rw [List.all_eq_true]
  intro b hb
  obtain ⟨i, hi, rfl⟩ := List.getElem_of_mem hb
  have e : l.getD i ByteArray.empty = l[i] := by simp [List.getD, hi]
  rw [← e]
  exact h i hi
set_option maxHeartbeats 2000000 in
set_option maxRecDepth 100000 in
theorem s_rnames (l : List ByteArray) (hl : l.length ≤ 1000000) : Spec (Ctx.mk Tryd.prog globT 7 LaidT) 31 [.sl .any (ssP l)] [] (.v (.bool (l.all isE))) [] := by
  refine spec_of_bodyL CX_mixed CX_gpk Tryd.func31 rfl 16 0 rfl rfl rfl rfl ?_
  refine go_ ?_
  refine c_loop (fun k q m h => ∃ j : Nat, j ≤ l.length ∧ (∀ i, i < j → isE (l.getD i ByteArray.empty) = true) ∧ k = l.length - j ∧ q = [.sl .any (ssP l), .top, .top, .v (.int .i64 (j : Int))] ++ List.replicate (16 - 4) .top ∧ m = 1 ∧ h = [])
    ⟨_, _, _, _, ?_, ?_, ⟨0, Nat.zero_le _, fun i hi => by omega, rfl, rfl, rfl, rfl⟩⟩ ?_
  · rfl
  · skip
    exact sub_
  rintro k q m h hlen ⟨j, hj, hn, rfl, rfl, rfl, rfl⟩
  clear hlen
  refine go_ ?_
  first | refine run_b rfl rfl rfl (fun hb => ?_) (fun hb => ?_) | refine c_cond rfl (fun hb => ?_) (fun hb => ?_)
  · have hj' : j < l.length := by have := of_decide_eq_true hb; rw [ssP_len] at this; omega
    have hw2 : IntKind.i64.wrap ((j : Int) + 1) = ((j + 1 : Nat) : Int) := by rw [wrap64 (by omega) (by omega)]; omega
    have hat := ssP_at hj'
    by_cases he : isE (l.getD j ByteArray.empty) = true
    · have g1 : (!isE (l.getD j ByteArray.empty)) = false := by rw [he]; rfl
      refine go_ ?_
      with_reducible apply run_y
      exact want_
      · intro K hK
        refine ev_ ?_
        refine vcCall_plain (s_isName (l.getD j ByteArray.empty)) (by kernel_rfl) ?_
        refine ev_ ?_
        exact hK
      refine go_ ?_
      rw [hw2]
      refine c_round ⟨_, _, _, _, ?_, ?_, ?_, ⟨j + 1, by omega, fun i hi => ?_, rfl, rfl, rfl, rfl⟩⟩
      · omega
      · rfl
      · skip
        exact sub_
      · by_cases h : i = j
        · subst h; exact he
        · exact hn i (by omega)
    · have g1 : (!isE (l.getD j ByteArray.empty)) = true := by simpa using he
      refine go_ ?_
      with_reducible apply run_y
      exact want_
      · intro K hK
        refine ev_ ?_
        refine vcCall_plain (s_isName (l.getD j ByteArray.empty)) (by kernel_rfl) ?_
        refine ev_ ?_
        exact hK
      refine go_ ?_
      refine ev_ ?_
      exact .mk (vb_eq (by rw [all_not hj' (by simpa using he)])) trivial
  have hj' : j = l.length := by have := of_decide_eq_false hb; rw [ssP_len] at this; omega
  subst hj'
  refine go_ ?_
  refine ev_ ?_
  exact .mk (vb_eq (by rw [all_yes hn])) trivial
end Go.Proofs.YtddggjmfplohkaaDoor
