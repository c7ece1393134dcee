import Derived.Test.YtddggjmfplohkaaDoorKd
import Derived.Test.YtddggjmfplohkaaDoorTf
/- Names, as the program itself asks for them. -/
namespace Go.Proofs.YtddggjmfplohkaaDoor
open Go.RowKit
set_option linter.unnecessarySimpa false
theorem fr_ext {P : UInt8 → Bool} {s : ByteArray} : s.extract 0 (frN P s) = s ↔ s.data.toList.all P = true := by
  have ht := fr_toList P s
  constructor
  · intro h
    rw [h] at ht
    rw [List.all_eq_true]
    intro x hx
    rw [ht] at hx
    exact (List.all_eq_true.1 (List.all_takeWhile)) x hx
  · intro h
    have e : s.data.toList.takeWhile P = s.data.toList := by
      generalize s.data.toList = l at h
      induction l with
      | nil => rfl
      | cons x l ih =>
        simp only [List.all_cons, Bool.and_eq_true] at h
        rw [List.takeWhile_cons, h.1, if_pos rfl, ih h.2]
    rw [e] at ht
    exact ByteArray.ext (Array.toList_inj.1 ht)
set_option maxHeartbeats 4000000 in
set_option maxRecDepth 100000 in
theorem s_tName (s : ByteArray) : Spec (Ctx.mk Tryd.prog globU 7 LaidU) 54 [.v (.string s)] [] (.v (.bool (nmE s))) [] := by
  refine spec_of_bodyL CX_mixed CU_gpk Tryd.func54 rfl 26 0 rfl rfl rfl rfl ?_
  by_cases h0 : s = (⟨#[]⟩ : ByteArray)
  · have g0 : (!decide (s = (⟨#[]⟩ : ByteArray))) = false := by rw [h0]; rfl
    have hz : s.size = 0 := by rw [h0]; rfl
    refine go_ ?_
    refine ev_ ?_
    exact .mk (vb_eq (by simp [nmE, hz])) trivial
  have g0 : (!decide (s = (⟨#[]⟩ : ByteArray))) = true := by simpa using h0
  have hz : s.size ≠ 0 := fun h => h0 (ByteArray.ext (Array.eq_empty_of_size_eq_zero h))
  by_cases h1 : s.size ≤ 20
  rotate_left
  · have g1 : (bif (!decide (s = (⟨#[]⟩ : ByteArray))) then decide ((s.size : Int) ≤ 20) else false) = false := by rw [g0]; exact decide_eq_false (by omega)
    refine go_ ?_
    refine ev_ ?_
    exact .mk (vb_eq (by (unfold nmE; rw [decide_eq_false h1]; simp))) trivial
  have g1 : (bif (!decide (s = (⟨#[]⟩ : ByteArray))) then decide ((s.size : Int) ≤ 20) else false) = true := by rw [g0]; exact decide_eq_true (by omega)
  have hat := ba_at (s := s) (j := 0) (by omega)
  have hl := s_letter (s.data.getD 0 0)
  have hfr := s_frontN s (by omega)
  have hw := s_isWord s
  have hfe := fr_ext (P := inE) (s := s)
  generalize s.extract 0 (frN inE s) = x at *
  by_cases h2 : letterE (s.data.getD 0 0) = true
  rotate_left
  · have g2 : (bif (bif (!decide (s = (⟨#[]⟩ : ByteArray))) then decide ((s.size : Int) ≤ 20) else false) then letterE (s.data.getD 0 0) else false) = false := by rw [g1]; simpa using h2
    refine go_ ?_
    with_reducible apply run_y
    exact want_
    · intro K hK
      refine ev_ ?_
      refine ⟨0, _, rfl, hat, ?_⟩
      refine ev_ ?_
      exact hK
    refine go_ ?_
    with_reducible apply run_y
    exact want_
    · intro K hK
      refine ev_ ?_
      refine vcCall_plain (hl) (by kernel_rfl) ?_
      refine ev_ ?_
      exact hK
    refine go_ ?_
    refine ev_ ?_
    exact .mk (vb_eq (by (unfold nmE; rw [show letterE (s.data.getD 0 0) = false by simpa using h2]; simp))) trivial
  have g2 : (bif (bif (!decide (s = (⟨#[]⟩ : ByteArray))) then decide ((s.size : Int) ≤ 20) else false) then letterE (s.data.getD 0 0) else false) = true := by rw [g1]; exact h2
  by_cases h3 : x = s
  rotate_left
  · have g3 : (bif (bif (bif (!decide (s = (⟨#[]⟩ : ByteArray))) then decide ((s.size : Int) ≤ 20) else false) then letterE (s.data.getD 0 0) else false) then decide (x = s) else false) = false := by rw [g2]; exact decide_eq_false h3
    refine go_ ?_
    with_reducible apply run_y
    exact want_
    · intro K hK
      refine ev_ ?_
      refine ⟨0, _, rfl, hat, ?_⟩
      refine ev_ ?_
      exact hK
    refine go_ ?_
    with_reducible apply run_y
    exact want_
    · intro K hK
      refine ev_ ?_
      refine vcCall_plain (hl) (by kernel_rfl) ?_
      refine ev_ ?_
      exact hK
    refine go_ ?_
    with_reducible apply run_y
    exact want_
    · intro K hK
      refine ev_ ?_
      refine vcCall_plain (hfr) (by kernel_rfl) ?_
      refine ev_ ?_
      exact hK
    refine go_ ?_
    refine ev_ ?_
    exact .mk (vb_eq (by (unfold nmE; rw [show s.data.toList.all inE = false by simpa using fun h => h3 (hfe.2 h)]; simp))) trivial
  have g3 : (bif (bif (bif (!decide (s = (⟨#[]⟩ : ByteArray))) then decide ((s.size : Int) ≤ 20) else false) then letterE (s.data.getD 0 0) else false) then decide (x = s) else false) = true := by rw [g2]; exact decide_eq_true h3
  have h4 := hfe.1 h3
  refine go_ ?_
  with_reducible apply run_y
  exact want_
  · intro K hK
    refine ev_ ?_
    refine ⟨0, _, rfl, hat, ?_⟩
    refine ev_ ?_
    exact hK
  refine go_ ?_
  with_reducible apply run_y
  exact want_
  · intro K hK
    refine ev_ ?_
    refine vcCall_plain (hl) (by kernel_rfl) ?_
    refine ev_ ?_
    exact hK
  refine go_ ?_
  with_reducible apply run_y
  exact want_
  · intro K hK
    refine ev_ ?_
    refine vcCall_plain (hfr) (by kernel_rfl) ?_
    refine ev_ ?_
    exact hK
  refine go_ ?_
  with_reducible apply run_y
  exact want_
  · intro K hK
    refine ev_ ?_
    refine vcCall_plain (hw) (by kernel_rfl) ?_
    refine ev_ ?_
    exact hK
  refine go_ ?_
  refine ev_ ?_
  exact .mk (vb_eq (by (unfold nmE; rw [g3, h4, h2, decide_eq_true h1, decide_eq_true hz]; simp))) trivial
end Go.Proofs.YtddggjmfplohkaaDoor

/- Which names may stand in a program, walked. -/
namespace Go.Proofs.YtddggjmfplohkaaDoor
open Go.RowKit
set_option linter.unnecessarySimpa false
set_option maxHeartbeats 8000000 in
set_option maxRecDepth 100000 in
theorem s_mayStand (s : ByteArray) : Spec (Ctx.mk Tryd.prog globU 7 LaidU) 28 [.v (.string s)] [] (.v (.bool (isE s))) [] := by
  by_cases hm : s ∈ wordsL
  · have hw : isE s = false := by unfold isE; rw [hasB_t hm]; rfl
    simp only [wordsL, List.mem_cons, List.not_mem_nil, or_false] at hm
    rw [hw]
    clear hw
    rcases hm with rfl | rfl | rfl | rfl | rfl | rfl | rfl | rfl | rfl | rfl
    all_goals
      refine spec_of_bodyL CX_mixed CU_gpk Tryd.func28 rfl 17 0 rfl rfl rfl rfl ?_
      refine go_ ?_
      refine ev_ ?_
      exact .mk (vb_eq (by rfl)) trivial
  have hw : isE s = nmE s := by unfold isE; rw [hasB_f hm]; rfl
  simp only [wordsL, List.mem_cons, List.not_mem_nil, or_false, not_or] at hm
  obtain ⟨n1, n2, n3, n4, n5, n6, n7, n8, n9, n10⟩ := hm
  have n1 := decide_eq_false n1
  have n2 := decide_eq_false n2
  have n3 := decide_eq_false n3
  have n4 := decide_eq_false n4
  have n5 := decide_eq_false n5
  have n6 := decide_eq_false n6
  have n7 := decide_eq_false n7
  have n8 := decide_eq_false n8
  have n9 := decide_eq_false n9
  have n10 := decide_eq_false n10
  have h := s_tName s
  refine spec_of_bodyL CX_mixed CU_gpk Tryd.func28 rfl 17 0 rfl rfl rfl rfl ?_
  refine go_ ?_
  with_reducible apply run_y
  exact want_
  · intro K hK
    refine ev_ ?_
    refine vcCall_plain (h) (by kernel_rfl) ?_
    refine ev_ ?_
    exact hK
  refine go_ ?_
  refine ev_ ?_
  exact .mk (vb_eq (by rw [hw])) trivial
set_option maxHeartbeats 4000000 in
set_option maxRecDepth 100000 in
theorem s_allStand (l : List ByteArray) (hl : l.length ≤ 1000000) : Spec (Ctx.mk Tryd.prog globU 7 LaidU) 27 [.sl .any (ssP l)] [] (.v (.bool (l.all isE))) [] := by
  refine spec_of_bodyL CX_mixed CU_gpk Tryd.func27 rfl 15 0 rfl rfl rfl rfl ?_
  refine go_ ?_
  refine c_loop (fun k q m h => ∃ j : Nat, j ≤ l.length ∧ (∀ i, i < j → isE (l.getD i ByteArray.empty) = true) ∧ k = l.length - j ∧ q = [.sl .any (ssP l), .top, .top, .top, .top, .sl .any (ssP l), .v (.int .i64 ((ssP l).length : Int)), .v (.int .i64 (j : Int))] ++ List.replicate 7 .top ∧ m = 1 ∧ h = [])
    ⟨_, _, _, _, ?_, ?_, ⟨0, Nat.zero_le _, fun i hi => by omega, rfl, rfl, rfl, rfl⟩⟩ ?_
  · rfl
  · skip
    exact sub_
  rintro k q m h hlen ⟨j, hj, hn, rfl, rfl, rfl, rfl⟩
  clear hlen
  refine go_ ?_
  first | refine run_b rfl rfl rfl (fun hb => ?_) (fun hb => ?_) | refine c_cond rfl (fun hb => ?_) (fun hb => ?_)
  · have hj' : j < l.length := by have := of_decide_eq_true hb; rw [ssP_len] at this; omega
    have hw2 : IntKind.i64.wrap ((j : Int) + 1) = ((j + 1 : Nat) : Int) := by rw [wrap64 (by omega) (by omega)]; omega
    have hat := ssP_at hj'
    by_cases he : isE (l.getD j ByteArray.empty) = true
    · have g1 : (!isE (l.getD j ByteArray.empty)) = false := by rw [he]; rfl
      refine go_ ?_
      with_reducible apply run_y
      exact want_
      · intro K hK
        refine ev_ ?_
        refine vcCall_plain (s_mayStand (l.getD j ByteArray.empty)) (by kernel_rfl) ?_
        refine ev_ ?_
        exact hK
      refine go_ ?_
      rw [hw2]
      refine c_round ⟨_, _, _, _, ?_, ?_, ?_, ⟨j + 1, by omega, fun i hi => ?_, rfl, rfl, rfl, rfl⟩⟩
      · omega
      · rfl
      · skip
        exact sub_
      · by_cases h : i = j
        · subst h; exact he
        · exact hn i (by omega)
    · have g1 : (!isE (l.getD j ByteArray.empty)) = true := by simpa using he
      refine go_ ?_
      with_reducible apply run_y
      exact want_
      · intro K hK
        refine ev_ ?_
        refine vcCall_plain (s_mayStand (l.getD j ByteArray.empty)) (by kernel_rfl) ?_
        refine ev_ ?_
        exact hK
      refine go_ ?_
      refine ev_ ?_
      exact .mk (vb_eq (by rw [all_not hj' (by simpa using he)])) trivial
  have hj' : j = l.length := by have := of_decide_eq_false hb; rw [ssP_len] at this; omega
  subst hj'
  refine go_ ?_
  refine ev_ ?_
  exact .mk (vb_eq (by rw [all_yes hn])) trivial
set_option maxRecDepth 100000 in
theorem s_nameT (s : ByteArray) : Spec (Ctx.mk Tryd.prog globU 7 LaidU) 71 [.v (.string s), .v (.bool true)] [] (.v (.bool (isE s))) [] := by
  refine spec_of_bodyL CX_mixed CU_gpk Tryd.func71 rfl 10 0 rfl rfl rfl rfl ?_
  have h := s_mayStand s
  refine go_ ?_
  with_reducible apply run_y
  exact want_
  · intro K hK
    refine ev_ ?_
    refine vcCall_plain (h) (by kernel_rfl) ?_
    refine ev_ ?_
    exact hK
  refine go_ ?_
  refine ev_ ?_
  exact .mk (vb_eq (by rfl)) trivial
set_option maxRecDepth 100000 in
theorem s_nameN (s : ByteArray) : Spec (Ctx.mk Tryd.prog globU 7 LaidU) 71 [.v (.string s), .v (.bool false)] [] (.v (.bool (decide (s = (⟨#[]⟩ : ByteArray))))) [] := by
  refine spec_of_bodyL CX_mixed CU_gpk Tryd.func71 rfl 10 0 rfl rfl rfl rfl ?_
  refine go_ ?_
  refine ev_ ?_
  exact .mk (vb_eq (by rfl)) trivial
end Go.Proofs.YtddggjmfplohkaaDoor
