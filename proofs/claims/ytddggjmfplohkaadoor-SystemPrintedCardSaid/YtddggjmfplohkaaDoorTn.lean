import Derived.Test.YtddggjmfplohkaaDoorTpr
/- The document's names. -/
namespace Go.Proofs.YtddggjmfplohkaaDoor
open Go.RowKit
set_option linter.unnecessarySimpa false
def letterE (b : UInt8) : Bool := (decide (97 ≤ b.toNat) && decide (b.toNat ≤ 122)) || (decide (65 ≤ b.toNat) && decide (b.toNat ≤ 90))
def digitE (b : UInt8) : Bool := decide (48 ≤ b.toNat) && decide (b.toNat ≤ 57)
set_option maxRecDepth 100000 in
theorem s_rletter (b : UInt8) : Spec (Ctx.mk Tryd.prog globT 7 LaidT) 73 [.v (.int .u8 (b.toNat : Int))] [] (.v (.bool (letterE b))) [] := by
  by_cases h1 : 97 ≤ b.toNat
  · have g1 : decide ((b.toNat : Int) ≥ 97) = true := decide_eq_true (by omega)
    by_cases h2 : b.toNat ≤ 122
    · have g2 : (bif decide ((b.toNat : Int) ≥ 97) then decide ((b.toNat : Int) ≤ 122) else false) = true := by rw [g1]; exact decide_eq_true (by omega)
      refine spec_of_bodyL CX_mixed CX_gpk Tryd.func73 rfl 17 0 rfl rfl rfl rfl ?_
      refine go_ ?_
      refine ev_ ?_
      exact .mk (vb_eq (by (rw [Bool.eq_iff_iff]; simp [letterE]; omega))) trivial
    · have g2 : (bif decide ((b.toNat : Int) ≥ 97) then decide ((b.toNat : Int) ≤ 122) else false) = false := by rw [g1]; exact decide_eq_false (by omega)
      have g3 : decide ((b.toNat : Int) ≥ 65) = true := decide_eq_true (by omega)
      refine spec_of_bodyL CX_mixed CX_gpk Tryd.func73 rfl 17 0 rfl rfl rfl rfl ?_
      refine go_ ?_
      refine ev_ ?_
      exact .mk (vb_eq (by (rw [Bool.eq_iff_iff]; simp [letterE]; omega))) trivial
  · have g1 : decide ((b.toNat : Int) ≥ 97) = false := decide_eq_false (by omega)
    by_cases h3 : 65 ≤ b.toNat
    · have g3 : decide ((b.toNat : Int) ≥ 65) = true := decide_eq_true (by omega)
      refine spec_of_bodyL CX_mixed CX_gpk Tryd.func73 rfl 17 0 rfl rfl rfl rfl ?_
      refine go_ ?_
      refine ev_ ?_
      exact .mk (vb_eq (by (rw [Bool.eq_iff_iff]; simp [letterE]; omega))) trivial
    · have g3 : decide ((b.toNat : Int) ≥ 65) = false := decide_eq_false (by omega)
      refine spec_of_bodyL CX_mixed CX_gpk Tryd.func73 rfl 17 0 rfl rfl rfl rfl ?_
      refine go_ ?_
      refine ev_ ?_
      exact .mk (vb_eq (by (rw [Bool.eq_iff_iff]; simp [letterE]; omega))) trivial
set_option maxRecDepth 100000 in
theorem s_rdigit (b : UInt8) : Spec (Ctx.mk Tryd.prog globT 7 LaidT) 76 [.v (.int .u8 (b.toNat : Int))] [] (.v (.bool (digitE b))) [] := by
  by_cases h1 : 48 ≤ b.toNat
  · have g1 : decide ((b.toNat : Int) ≥ 48) = true := decide_eq_true (by omega)
    refine spec_of_bodyL CX_mixed CX_gpk Tryd.func76 rfl 9 0 rfl rfl rfl rfl ?_
    refine go_ ?_
    refine ev_ ?_
    exact .mk (vb_eq (by (rw [Bool.eq_iff_iff]; simp [digitE]; omega))) trivial
  · have g1 : decide ((b.toNat : Int) ≥ 48) = false := decide_eq_false (by omega)
    refine spec_of_bodyL CX_mixed CX_gpk Tryd.func76 rfl 9 0 rfl rfl rfl rfl ?_
    refine go_ ?_
    refine ev_ ?_
    exact .mk (vb_eq (by (rw [Bool.eq_iff_iff]; simp [digitE]; omega))) trivial
noncomputable def hasB (s : ByteArray) (l : List ByteArray) : Bool := @decide (s ∈ l) (Classical.propDecidable _)
theorem hasB_t {s : ByteArray} {l : List ByteArray} (h : s ∈ l) : hasB s l = true := by unfold hasB; simpa using h
theorem hasB_f {s : ByteArray} {l : List ByteArray} (h : s ∉ l) : hasB s l = false := by unfold hasB; simpa using h
set_option maxHeartbeats 2000000 in
set_option maxRecDepth 100000 in
theorem s_rin (l : List ByteArray) (s : ByteArray) (hl : l.length ≤ 1000000) : Spec (Ctx.mk Tryd.prog globT 7 LaidT) 74 [.sl .any (ssP l), .v (.string s)] [] (.v (.bool (hasB s l))) [] := by
  refine spec_of_bodyL CX_mixed CX_gpk Tryd.func74 rfl 18 0 rfl rfl rfl rfl ?_
  refine go_ ?_
  refine c_loop (fun k q m h => ∃ j : Nat, j ≤ l.length ∧ (∀ i, i < j → l.getD i ByteArray.empty ≠ s) ∧ k = l.length - j ∧ q = [.sl .any (ssP l), .v (.string s), .top, .top, .top, .v (.int .i64 (j : Int))] ++ List.replicate 12 .top ∧ m = 1 ∧ h = [])
    ⟨_, _, _, _, ?_, ?_, ⟨0, Nat.zero_le _, fun i hi => by omega, rfl, rfl, rfl, rfl⟩⟩ ?_
  · rfl
  · skip
    exact sub_
  rintro k q m h hlen ⟨j, hj, hn, rfl, rfl, rfl, rfl⟩
  clear hlen
  refine go_ ?_
  first | refine run_b rfl rfl rfl (fun hb => ?_) (fun hb => ?_) | refine c_cond rfl (fun hb => ?_) (fun hb => ?_)
  · have hj' : j < l.length := by have := of_decide_eq_true hb; rw [ssP_len] at this; omega
    have hw2 : IntKind.i64.wrap ((j : Int) + 1) = ((j + 1 : Nat) : Int) := by rw [wrap64 (by omega) (by omega)]; omega
    have e1 : l.getD j ByteArray.empty = l[j] := by simp [List.getD, hj']
    by_cases he : l.getD j ByteArray.empty = s
    · have g1 : decide (l.getD j ByteArray.empty = s) = true := decide_eq_true he
      have hm : s ∈ l := by rw [← he, e1]; exact List.getElem_mem hj'
      refine go_ ?_
      refine ev_ ?_
      exact .mk (vb_eq (by rw [hasB_t hm])) trivial
    · have g1 : decide (l.getD j ByteArray.empty = s) = false := decide_eq_false he
      refine go_ ?_
      rw [hw2]
      refine c_round ⟨_, _, _, _, ?_, ?_, ?_, ⟨j + 1, by omega, fun i hi => ?_, rfl, rfl, rfl, rfl⟩⟩
      · omega
      · rfl
      · skip
        exact sub_
      · by_cases h : i = j
        · subst h; exact he
        · exact hn i (by omega)
  have hj' : j = l.length := by have := of_decide_eq_false hb; rw [ssP_len] at this; omega
  have hm : s ∉ l := fun hm => by
    obtain ⟨i, hi, e⟩ := List.getElem_of_mem hm
    exact hn i (by omega) (by simp [List.getD, hi, e])
  refine go_ ?_
  refine ev_ ?_
  exact .mk (vb_eq (by rw [hasB_f hm])) trivial
set_option maxRecDepth 100000 in
theorem s_rWords : Spec (Ctx.mk Tryd.prog globT 7 LaidT) 75 [] [] (.sl .any (ssP wordsL)) [] := by
  refine spec_of_bodyL CX_mixed CX_gpk Tryd.func75 rfl 2 0 rfl rfl rfl rfl ?_
  refine go_ ?_
  refine ev_ ?_
  exact .mk (by rfl) trivial
set_option maxRecDepth 100000 in
theorem s_rwords : Spec (Ctx.mk Tryd.prog globT 7 LaidT) 58 [] [] (.sl .any (ssP wordsL)) [] := by
  refine spec_of_bodyL CX_mixed CX_gpk Tryd.func58 rfl 2 0 rfl rfl rfl rfl ?_
  refine go_ ?_
  refine ev_ ?_
  exact .mk (by rfl) trivial
def inE (b : UInt8) : Bool := letterE b || digitE b || decide (b.toNat = 95)
/-- May a text be a name? -/
noncomputable def nmE (s : ByteArray) : Bool := decide (s.size ≠ 0) && decide (s.size ≤ 20) && letterE (s.data.getD 0 0) && !hasB s wordsL && s.data.toList.all inE
theorem ba_at {s : ByteArray} {j : Nat} (h : j < s.size) : s[j]? = some (s.data.getD j 0) := by
  rw [getElem?_pos s j h]
  have : j < s.data.size := h
  simp only [Array.getD, this, dite_true]
  rfl
theorem ba_all {s : ByteArray} (h : ∀ i, i < s.size → inE (s.data.getD i 0) = true) : s.data.toList.all inE = true := by
  rw [List.all_eq_true]
  intro b hb
  obtain ⟨i, hi, rfl⟩ := List.getElem_of_mem hb
  have hi' : i < s.data.size := by simpa using hi
  have e : s.data.getD i 0 = s.data.toList[i] := by unfold Array.getD; rw [dif_pos hi']; rfl
  rw [← e]
  exact h i hi'
theorem ba_not {s : ByteArray} {j : Nat} (hj : j < s.size) (h : inE (s.data.getD j 0) = false) : s.data.toList.all inE = false := by
  rw [List.all_eq_false]
  have hi' : j < s.data.size := hj
  refine ⟨s.data[j], by simp, ?_⟩
  have e : s.data.getD j 0 = s.data[j] := by unfold Array.getD; rw [dif_pos hi']; rfl
  rw [← e, h]
  decide
set_option maxHeartbeats 4000000 in
set_option maxRecDepth 100000 in
theorem s_rName (s : ByteArray) : Spec (Ctx.mk Tryd.prog globT 7 LaidT) 59 [.v (.string s)] [] (.v (.bool (nmE s))) [] := by
  by_cases h0 : s.size = 0
  · have g0 : ((s.size : Int) == 0) = true := by simp [h0]
    refine spec_of_bodyL CX_mixed CX_gpk Tryd.func59 rfl 47 0 rfl rfl rfl rfl ?_
    refine go_ ?_
    refine ev_ ?_
    exact .mk (vb_eq (by simp [nmE, h0])) trivial
  have g0 : ((s.size : Int) == 0) = false := beq_eq_false_iff_ne.2 (by omega)
  by_cases h1 : s.size ≤ 20
  rotate_left
  · have g1 : (bif (s.size : Int) == 0 then true else decide ((s.size : Int) > 20)) = true := by rw [g0]; exact decide_eq_true (by omega)
    refine spec_of_bodyL CX_mixed CX_gpk Tryd.func59 rfl 47 0 rfl rfl rfl rfl ?_
    refine go_ ?_
    refine ev_ ?_
    exact .mk (vb_eq (by (unfold nmE; rw [decide_eq_false h1]; simp))) trivial
  have g1 : (bif (s.size : Int) == 0 then true else decide ((s.size : Int) > 20)) = false := by rw [g0]; exact decide_eq_false (by omega)
  have hat := ba_at (s := s) (j := 0) (by omega)
  have hl := s_rletter (s.data.getD 0 0)
  have hin := s_rin wordsL s (by decide)
  by_cases h2 : letterE (s.data.getD 0 0) = true
  rotate_left
  · have g2 : (bif (bif (s.size : Int) == 0 then true else decide ((s.size : Int) > 20)) then true else !letterE (s.data.getD 0 0)) = true := by rw [g1]; simpa using h2
    refine spec_of_bodyL CX_mixed CX_gpk Tryd.func59 rfl 47 0 rfl rfl rfl rfl ?_
    refine go_ ?_
    with_reducible apply run_y
    exact want_
    · intro K hK
      refine ev_ ?_
      refine ⟨0, _, rfl, hat, ?_⟩
      refine ev_ ?_
      exact hK
    refine go_ ?_
    with_reducible apply run_y
    exact want_
    · intro K hK
      refine ev_ ?_
      refine vcCall_plain (hl) (by kernel_rfl) ?_
      refine ev_ ?_
      exact hK
    refine go_ ?_
    refine ev_ ?_
    exact .mk (vb_eq (by (unfold nmE; rw [show letterE (s.data.getD 0 0) = false by simpa using h2]; simp))) trivial
  have g2 : (bif (bif (s.size : Int) == 0 then true else decide ((s.size : Int) > 20)) then true else !letterE (s.data.getD 0 0)) = false := by rw [g1]; simpa using h2
  by_cases h3 : hasB s wordsL = true
  · have g3 : (bif (bif (bif (s.size : Int) == 0 then true else decide ((s.size : Int) > 20)) then true else !letterE (s.data.getD 0 0)) then true else hasB s wordsL) = true := by rw [g2]; exact h3
    refine spec_of_bodyL CX_mixed CX_gpk Tryd.func59 rfl 47 0 rfl rfl rfl rfl ?_
    refine go_ ?_
    with_reducible apply run_y
    exact want_
    · intro K hK
      refine ev_ ?_
      refine ⟨0, _, rfl, hat, ?_⟩
      refine ev_ ?_
      exact hK
    refine go_ ?_
    with_reducible apply run_y
    exact want_
    · intro K hK
      refine ev_ ?_
      refine vcCall_plain (hl) (by kernel_rfl) ?_
      refine ev_ ?_
      exact hK
    refine go_ ?_
    with_reducible apply run_y
    exact want_
    · intro K hK
      refine ev_ ?_
      refine vcCall_plain (s_rWords) (by kernel_rfl) ?_
      refine ev_ ?_
      exact hK
    refine go_ ?_
    with_reducible apply run_y
    exact want_
    · intro K hK
      refine ev_ ?_
      refine vcCall_plain (hin) (by kernel_rfl) ?_
      refine ev_ ?_
      exact hK
    refine go_ ?_
    refine ev_ ?_
    exact .mk (vb_eq (by (unfold nmE; rw [h3]; simp))) trivial
  have g3 : (bif (bif (bif (s.size : Int) == 0 then true else decide ((s.size : Int) > 20)) then true else !letterE (s.data.getD 0 0)) then true else hasB s wordsL) = false := by rw [g2]; simpa using h3
  refine spec_of_bodyL CX_mixed CX_gpk Tryd.func59 rfl 47 0 rfl rfl rfl rfl ?_
  refine go_ ?_
  with_reducible apply run_y
  exact want_
  · intro K hK
    refine ev_ ?_
    refine ⟨0, _, rfl, hat, ?_⟩
    refine ev_ ?_
    exact hK
  refine go_ ?_
  with_reducible apply run_y
  exact want_
  · intro K hK
    refine ev_ ?_
    refine vcCall_plain (hl) (by kernel_rfl) ?_
    refine ev_ ?_
    exact hK
  refine go_ ?_
  with_reducible apply run_y
  exact want_
  · intro K hK
    refine ev_ ?_
    refine vcCall_plain (s_rWords) (by kernel_rfl) ?_
    refine ev_ ?_
    exact hK
  refine go_ ?_
  with_reducible apply run_y
  exact want_
  · intro K hK
    refine ev_ ?_
    refine vcCall_plain (hin) (by kernel_rfl) ?_
    refine ev_ ?_
    exact hK
  refine go_ ?_
  refine c_loop (fun k q m h => ∃ j : Nat, j ≤ s.size ∧ (∀ i, i < j → inE (s.data.getD i 0) = true) ∧ k = s.size - j ∧ q = [.v (.string s), .top, .top, .v (.int .i64 (j : Int))] ++ List.replicate 43 .top ∧ m = 1 ∧ h = [])
    ⟨_, _, _, _, ?_, ?_, ⟨0, Nat.zero_le _, fun i hi => by omega, rfl, rfl, rfl, rfl⟩⟩ ?_
  · rfl
  · skip
    exact sub_
  rintro k q m h hlen ⟨j, hj, hn, rfl, rfl, rfl, rfl⟩
  clear hlen
  refine go_ ?_
  first | refine run_b rfl rfl rfl (fun hb => ?_) (fun hb => ?_) | refine c_cond rfl (fun hb => ?_) (fun hb => ?_)
  · have hj' : j < s.size := by have := of_decide_eq_true hb; omega
    have hw2 : IntKind.i64.wrap ((j : Int) + 1) = ((j + 1 : Nat) : Int) := by rw [wrap64 (by omega) (by omega)]; omega
    have hat2 := ba_at hj'
    have hll := s_rletter (s.data.getD j 0)
    have hdd := s_rdigit (s.data.getD j 0)
    have hno : inE (s.data.getD j 0) = false → nmE s = false := fun h => by
      unfold nmE; rw [ba_not hj' h]; simp
    have hnx : inE (s.data.getD j 0) = true → ∀ i, i < j + 1 → inE (s.data.getD i 0) = true := fun h i hi => by
      by_cases e : i = j
      · subst e; exact h
      · exact hn i (by omega)
    generalize s.data.getD j 0 = b at *
    refine go_ ?_
    with_reducible apply run_y
    exact want_
    · intro K hK
      refine ev_ ?_
      refine ⟨j, _, rfl, hat2, ?_⟩
      refine ev_ ?_
      exact hK
    by_cases l1 : letterE b = true
    · have g4 : (!letterE b) = false := by rw [l1]; rfl
      refine go_ ?_
      with_reducible apply run_y
      exact want_
      · intro K hK
        refine ev_ ?_
        refine vcCall_plain (hll) (by kernel_rfl) ?_
        refine ev_ ?_
        exact hK
      refine go_ ?_
      rw [hw2]
      refine c_round ⟨_, _, _, _, ?_, ?_, ?_, ⟨j + 1, by omega, hnx (by unfold inE; rw [l1]; rfl), rfl, rfl, rfl, rfl⟩⟩
      · omega
      · rfl
      · skip
        exact sub_
    have l1 : letterE b = false := by simpa using l1
    have g4 : (!letterE b) = true := by rw [l1]; rfl
    by_cases l2 : digitE b = true
    · have g5 : (bif !letterE b then !digitE b else false) = false := by rw [l1, l2]; rfl
      refine go_ ?_
      with_reducible apply run_y
      exact want_
      · intro K hK
        refine ev_ ?_
        refine vcCall_plain (hll) (by kernel_rfl) ?_
        refine ev_ ?_
        exact hK
      refine go_ ?_
      with_reducible apply run_y
      exact want_
      · intro K hK
        refine ev_ ?_
        refine ⟨j, _, rfl, hat2, ?_⟩
        refine ev_ ?_
        exact hK
      refine go_ ?_
      with_reducible apply run_y
      exact want_
      · intro K hK
        refine ev_ ?_
        refine vcCall_plain (hdd) (by kernel_rfl) ?_
        refine ev_ ?_
        exact hK
      refine go_ ?_
      rw [hw2]
      refine c_round ⟨_, _, _, _, ?_, ?_, ?_, ⟨j + 1, by omega, hnx (by unfold inE; rw [l1, l2]; rfl), rfl, rfl, rfl, rfl⟩⟩
      · omega
      · rfl
      · skip
        exact sub_
    have l2 : digitE b = false := by simpa using l2
    have g5 : (bif !letterE b then !digitE b else false) = true := by rw [l1, l2]; rfl
    by_cases l3 : b.toNat = 95
    · have g6 : (bif (bif !letterE b then !digitE b else false) then ((b.toNat : Int) != 95) else false) = false := by rw [g5, l3]; rfl
      refine go_ ?_
      with_reducible apply run_y
      exact want_
      · intro K hK
        refine ev_ ?_
        refine vcCall_plain (hll) (by kernel_rfl) ?_
        refine ev_ ?_
        exact hK
      refine go_ ?_
      with_reducible apply run_y
      exact want_
      · intro K hK
        refine ev_ ?_
        refine ⟨j, _, rfl, hat2, ?_⟩
        refine ev_ ?_
        exact hK
      refine go_ ?_
      with_reducible apply run_y
      exact want_
      · intro K hK
        refine ev_ ?_
        refine vcCall_plain (hdd) (by kernel_rfl) ?_
        refine ev_ ?_
        exact hK
      refine go_ ?_
      with_reducible apply run_y
      exact want_
      · intro K hK
        refine ev_ ?_
        refine ⟨j, _, rfl, hat2, ?_⟩
        refine ev_ ?_
        exact hK
      refine go_ ?_
      rw [hw2]
      refine c_round ⟨_, _, _, _, ?_, ?_, ?_, ⟨j + 1, by omega, hnx (by unfold inE; rw [l1, l2, decide_eq_true l3]; rfl), rfl, rfl, rfl, rfl⟩⟩
      · omega
      · rfl
      · skip
        exact sub_
    have g6 : (bif (bif !letterE b then !digitE b else false) then ((b.toNat : Int) != 95) else false) = true := by rw [g5]; simp; omega
    refine go_ ?_
    with_reducible apply run_y
    exact want_
    · intro K hK
      refine ev_ ?_
      refine vcCall_plain (hll) (by kernel_rfl) ?_
      refine ev_ ?_
      exact hK
    refine go_ ?_
    with_reducible apply run_y
    exact want_
    · intro K hK
      refine ev_ ?_
      refine ⟨j, _, rfl, hat2, ?_⟩
      refine ev_ ?_
      exact hK
    refine go_ ?_
    with_reducible apply run_y
    exact want_
    · intro K hK
      refine ev_ ?_
      refine vcCall_plain (hdd) (by kernel_rfl) ?_
      refine ev_ ?_
      exact hK
    refine go_ ?_
    with_reducible apply run_y
    exact want_
    · intro K hK
      refine ev_ ?_
      refine ⟨j, _, rfl, hat2, ?_⟩
      refine ev_ ?_
      exact hK
    refine go_ ?_
    refine ev_ ?_
    exact .mk (vb_eq (by rw [hno (by unfold inE; rw [l1, l2, decide_eq_false l3]; rfl)])) trivial
  have hj' : j = s.size := by have := of_decide_eq_false hb; omega
  subst hj'
  refine go_ ?_
  refine ev_ ?_
  exact .mk (vb_eq (by (unfold nmE; rw [ba_all hn, h2, decide_eq_true h0, decide_eq_true h1, show hasB s wordsL = false by simpa using h3]; rfl))) trivial
end Go.Proofs.YtddggjmfplohkaaDoor
