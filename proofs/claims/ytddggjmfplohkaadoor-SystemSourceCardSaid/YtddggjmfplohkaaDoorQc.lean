import Derived.Test.YtddggjmfplohkaaDoorQb
import Derived.Test.YtddggjmfplohkaaDoorTl
/- Which expressions may stand in a program: their form, walked. -/
namespace Go.Proofs.YtddggjmfplohkaaDoor
open Go.RowKit
set_option linter.unnecessarySimpa false
noncomputable def frmE (k o : Int) (n : UInt32) (s : ByteArray) (len : Nat) : Bool :=
  if (k ≠ 6 ∧ o ≠ 0) ∨ (k ≠ 1 ∧ n ≠ 0) then false
  else if k = 2 ∨ k = 3 ∨ k = 4 then (if isE s = true then kdE true k o len else false)
  else (if s = ByteArray.empty then kdE true k o len else false)
theorem kdE_all (b : Bool) (k o : Int) {α : Type} (ks : List α) (hb : ks = [] → b = true) : kdE b k o ks.length = (kdE true k o ks.length && b) := by
  have h0 : decide (ks.length = 0) = (decide (ks.length = 0) && b) := by
    cases ks with
    | nil => rw [hb rfl]; rfl
    | cons x l => rfl
  unfold kdE
  split
  · exact h0
  · split
    · rw [Bool.and_true]
    · split
      · rw [Bool.and_true]
      · split
        · simp only [Bool.and_true, Bool.and_assoc]
        · split
          · rw [Bool.and_true]
          · rfl
theorem rX_frm (r : Nat) (k o : Int) (n : UInt32) (s : ByteArray) (ks : List Ex) : rX (r + 1) (.mk k o n s ks) = (frmE k o n s ks.length && ks.all fun e => rX r e) := by
  have h := kdE_all (ks.all fun e => rX r e) k o ks (fun h => by rw [h]; rfl)
  rw [rX]
  unfold frmE
  split
  · rfl
  · split
    · split
      · exact h
      · rfl
    · split
      · exact h
      · rfl
-- KINDS
set_option maxHeartbeats 8000000 in
set_option maxRecDepth 100000 in
theorem s_exF1 (o : Int) (n : UInt32) (s : ByteArray) (ks : List Ex) : Spec (Ctx.mk Tryd.prog globU 7 LaidU) 72 [.agg (exC (.mk 1 o n s ks))] [] (.v (.bool (frmE 1 o n s ks.length))) [] := by
  have hl : ((exsC ks).length : Int) = (ks.length : Int) := by rw [exsC_len]
  refine spec_of_bodyL CX_mixed CU_gpk Tryd.func72 rfl 73 0 rfl rfl rfl rfl ?_
  by_cases ho : o = 0
  rotate_left
  · have o0 : (o != 0) = true := by simpa using ho
    have o1 : (bif false then true else (bif !false then o != 0 else false)) = true := o0
    refine go_ ?_
    refine ev_ ?_
    exact .mk (vb_eq (by (unfold frmE; simp [ho]))) trivial
  have o0 : (o != 0) = false := by simpa using ho
  have o1 : (bif false then true else (bif !false then o != 0 else false)) = false := o0
  have hn : True := trivial
  by_cases hs : s = ByteArray.empty
  · have s0 : (!decide (s = (⟨#[]⟩ : ByteArray))) = false := by rw [decide_eq_true (show s = (⟨#[]⟩ : ByteArray) from hs)]; rfl
    have s1 : (bif (bif !true then ((n.toNat : Int) != 0) else false) then true else !decide (s = (⟨#[]⟩ : ByteArray))) = false := s0
    by_cases hg : 0 ≤ ks.length
    · have g0 : decide (((exsC ks).length : Int) ≥ 0) = true := decide_eq_true (by omega)
      refine go_ ?_
      with_reducible apply run_y
      exact want_
      · intro K hK
        refine ev_ ?_
        refine vcCall_plain (s_nameN s) (by kernel_rfl) ?_
        refine ev_ ?_
        exact hK
      refine go_ ?_
      refine ev_ ?_
      exact .mk (vb_eq (by ((try rw [hl]); rw [Bool.eq_iff_iff]; unfold frmE kdE; simp [ho, hs] <;> omega))) trivial
    · have g0 : decide (((exsC ks).length : Int) ≥ 0) = false := decide_eq_false (by omega)
      refine go_ ?_
      with_reducible apply run_y
      exact want_
      · intro K hK
        refine ev_ ?_
        refine vcCall_plain (s_nameN s) (by kernel_rfl) ?_
        refine ev_ ?_
        exact hK
      refine go_ ?_
      refine ev_ ?_
      exact .mk (vb_eq (by ((try rw [hl]); rw [Bool.eq_iff_iff]; unfold frmE kdE; simp [ho, hs] <;> omega))) trivial
  · have s0 : (!decide (s = (⟨#[]⟩ : ByteArray))) = true := by rw [decide_eq_false (show ¬ s = (⟨#[]⟩ : ByteArray) from hs)]; rfl
    have s1 : (bif (bif !true then ((n.toNat : Int) != 0) else false) then true else !decide (s = (⟨#[]⟩ : ByteArray))) = true := s0
    refine go_ ?_
    with_reducible apply run_y
    exact want_
    · intro K hK
      refine ev_ ?_
      refine vcCall_plain (s_nameN s) (by kernel_rfl) ?_
      refine ev_ ?_
      exact hK
    refine go_ ?_
    refine ev_ ?_
    exact .mk (vb_eq (by (unfold frmE; simp [ho, hs]))) trivial
set_option maxHeartbeats 8000000 in
set_option maxRecDepth 100000 in
theorem s_exF2 (o : Int) (n : UInt32) (s : ByteArray) (ks : List Ex) : Spec (Ctx.mk Tryd.prog globU 7 LaidU) 72 [.agg (exC (.mk 2 o n s ks))] [] (.v (.bool (frmE 2 o n s ks.length))) [] := by
  have hl : ((exsC ks).length : Int) = (ks.length : Int) := by rw [exsC_len]
  refine spec_of_bodyL CX_mixed CU_gpk Tryd.func72 rfl 73 0 rfl rfl rfl rfl ?_
  by_cases ho : o = 0
  rotate_left
  · have o0 : (o != 0) = true := by simpa using ho
    have o1 : (bif false then true else (bif !false then o != 0 else false)) = true := o0
    refine go_ ?_
    refine ev_ ?_
    exact .mk (vb_eq (by (unfold frmE; simp [ho]))) trivial
  have o0 : (o != 0) = false := by simpa using ho
  have o1 : (bif false then true else (bif !false then o != 0 else false)) = false := o0
  by_cases hn : n = 0
  rotate_left
  · have n0 : ((n.toNat : Int) != 0) = true := by simpa using fun e : n.toNat = 0 => hn (UInt32.toNat_inj.1 e)
    have n1 : (bif !false then ((n.toNat : Int) != 0) else false) = true := n0
    refine go_ ?_
    refine ev_ ?_
    exact .mk (vb_eq (by (unfold frmE; simp [hn]))) trivial
  have n0 : ((n.toNat : Int) != 0) = false := by rw [hn]; rfl
  have n1 : (bif !false then ((n.toNat : Int) != 0) else false) = false := n0
  by_cases hs : isE s = true
  · have s0 : (!isE s) = false := by rw [hs]; rfl
    have s1 : (bif (bif !false then ((n.toNat : Int) != 0) else false) then true else !isE s) = false := by rw [n1]; exact s0
    by_cases hg : 0 ≤ ks.length
    · have g0 : decide (((exsC ks).length : Int) ≥ 0) = true := decide_eq_true (by omega)
      refine go_ ?_
      with_reducible apply run_y
      exact want_
      · intro K hK
        refine ev_ ?_
        refine vcCall_plain (s_nameT s) (by kernel_rfl) ?_
        refine ev_ ?_
        exact hK
      refine go_ ?_
      refine ev_ ?_
      exact .mk (vb_eq (by ((try rw [hl]); rw [Bool.eq_iff_iff]; unfold frmE kdE; simp [ho, hn, hs] <;> omega))) trivial
    · have g0 : decide (((exsC ks).length : Int) ≥ 0) = false := decide_eq_false (by omega)
      refine go_ ?_
      with_reducible apply run_y
      exact want_
      · intro K hK
        refine ev_ ?_
        refine vcCall_plain (s_nameT s) (by kernel_rfl) ?_
        refine ev_ ?_
        exact hK
      refine go_ ?_
      refine ev_ ?_
      exact .mk (vb_eq (by ((try rw [hl]); rw [Bool.eq_iff_iff]; unfold frmE kdE; simp [ho, hn, hs] <;> omega))) trivial
  · have s0 : (!isE s) = true := by simpa using hs
    have s1 : (bif (bif !false then ((n.toNat : Int) != 0) else false) then true else !isE s) = true := by rw [n1]; exact s0
    refine go_ ?_
    with_reducible apply run_y
    exact want_
    · intro K hK
      refine ev_ ?_
      refine vcCall_plain (s_nameT s) (by kernel_rfl) ?_
      refine ev_ ?_
      exact hK
    refine go_ ?_
    refine ev_ ?_
    exact .mk (vb_eq (by (unfold frmE; simp [ho, hn, hs]))) trivial
set_option maxHeartbeats 8000000 in
set_option maxRecDepth 100000 in
theorem s_exF3 (o : Int) (n : UInt32) (s : ByteArray) (ks : List Ex) : Spec (Ctx.mk Tryd.prog globU 7 LaidU) 72 [.agg (exC (.mk 3 o n s ks))] [] (.v (.bool (frmE 3 o n s ks.length))) [] := by
  have hl : ((exsC ks).length : Int) = (ks.length : Int) := by rw [exsC_len]
  refine spec_of_bodyL CX_mixed CU_gpk Tryd.func72 rfl 73 0 rfl rfl rfl rfl ?_
  by_cases ho : o = 0
  rotate_left
  · have o0 : (o != 0) = true := by simpa using ho
    have o1 : (bif false then true else (bif !false then o != 0 else false)) = true := o0
    refine go_ ?_
    refine ev_ ?_
    exact .mk (vb_eq (by (unfold frmE; simp [ho]))) trivial
  have o0 : (o != 0) = false := by simpa using ho
  have o1 : (bif false then true else (bif !false then o != 0 else false)) = false := o0
  by_cases hn : n = 0
  rotate_left
  · have n0 : ((n.toNat : Int) != 0) = true := by simpa using fun e : n.toNat = 0 => hn (UInt32.toNat_inj.1 e)
    have n1 : (bif !false then ((n.toNat : Int) != 0) else false) = true := n0
    refine go_ ?_
    refine ev_ ?_
    exact .mk (vb_eq (by (unfold frmE; simp [hn]))) trivial
  have n0 : ((n.toNat : Int) != 0) = false := by rw [hn]; rfl
  have n1 : (bif !false then ((n.toNat : Int) != 0) else false) = false := n0
  by_cases hs : isE s = true
  · have s0 : (!isE s) = false := by rw [hs]; rfl
    have s1 : (bif (bif !false then ((n.toNat : Int) != 0) else false) then true else !isE s) = false := by rw [n1]; exact s0
    by_cases hg : 1 ≤ ks.length
    · have g0 : decide (((exsC ks).length : Int) ≥ 1) = true := decide_eq_true (by omega)
      refine go_ ?_
      with_reducible apply run_y
      exact want_
      · intro K hK
        refine ev_ ?_
        refine vcCall_plain (s_nameT s) (by kernel_rfl) ?_
        refine ev_ ?_
        exact hK
      refine go_ ?_
      refine ev_ ?_
      exact .mk (vb_eq (by ((try rw [hl]); rw [Bool.eq_iff_iff]; unfold frmE kdE; simp [ho, hn, hs] <;> omega))) trivial
    · have g0 : decide (((exsC ks).length : Int) ≥ 1) = false := decide_eq_false (by omega)
      refine go_ ?_
      with_reducible apply run_y
      exact want_
      · intro K hK
        refine ev_ ?_
        refine vcCall_plain (s_nameT s) (by kernel_rfl) ?_
        refine ev_ ?_
        exact hK
      refine go_ ?_
      refine ev_ ?_
      exact .mk (vb_eq (by ((try rw [hl]); rw [Bool.eq_iff_iff]; unfold frmE kdE; simp [ho, hn, hs] <;> omega))) trivial
  · have s0 : (!isE s) = true := by simpa using hs
    have s1 : (bif (bif !false then ((n.toNat : Int) != 0) else false) then true else !isE s) = true := by rw [n1]; exact s0
    refine go_ ?_
    with_reducible apply run_y
    exact want_
    · intro K hK
      refine ev_ ?_
      refine vcCall_plain (s_nameT s) (by kernel_rfl) ?_
      refine ev_ ?_
      exact hK
    refine go_ ?_
    refine ev_ ?_
    exact .mk (vb_eq (by (unfold frmE; simp [ho, hn, hs]))) trivial
set_option maxHeartbeats 8000000 in
set_option maxRecDepth 100000 in
theorem s_exF4 (o : Int) (n : UInt32) (s : ByteArray) (ks : List Ex) : Spec (Ctx.mk Tryd.prog globU 7 LaidU) 72 [.agg (exC (.mk 4 o n s ks))] [] (.v (.bool (frmE 4 o n s ks.length))) [] := by
  have hl : ((exsC ks).length : Int) = (ks.length : Int) := by rw [exsC_len]
  refine spec_of_bodyL CX_mixed CU_gpk Tryd.func72 rfl 73 0 rfl rfl rfl rfl ?_
  by_cases ho : o = 0
  rotate_left
  · have o0 : (o != 0) = true := by simpa using ho
    have o1 : (bif false then true else (bif !false then o != 0 else false)) = true := o0
    refine go_ ?_
    refine ev_ ?_
    exact .mk (vb_eq (by (unfold frmE; simp [ho]))) trivial
  have o0 : (o != 0) = false := by simpa using ho
  have o1 : (bif false then true else (bif !false then o != 0 else false)) = false := o0
  by_cases hn : n = 0
  rotate_left
  · have n0 : ((n.toNat : Int) != 0) = true := by simpa using fun e : n.toNat = 0 => hn (UInt32.toNat_inj.1 e)
    have n1 : (bif !false then ((n.toNat : Int) != 0) else false) = true := n0
    refine go_ ?_
    refine ev_ ?_
    exact .mk (vb_eq (by (unfold frmE; simp [hn]))) trivial
  have n0 : ((n.toNat : Int) != 0) = false := by rw [hn]; rfl
  have n1 : (bif !false then ((n.toNat : Int) != 0) else false) = false := n0
  by_cases hs : isE s = true
  · have s0 : (!isE s) = false := by rw [hs]; rfl
    have s1 : (bif (bif !false then ((n.toNat : Int) != 0) else false) then true else !isE s) = false := by rw [n1]; exact s0
    by_cases hg : 0 ≤ ks.length
    · have g0 : decide (((exsC ks).length : Int) ≥ 0) = true := decide_eq_true (by omega)
      refine go_ ?_
      with_reducible apply run_y
      exact want_
      · intro K hK
        refine ev_ ?_
        refine vcCall_plain (s_nameT s) (by kernel_rfl) ?_
        refine ev_ ?_
        exact hK
      refine go_ ?_
      refine ev_ ?_
      exact .mk (vb_eq (by ((try rw [hl]); rw [Bool.eq_iff_iff]; unfold frmE kdE; simp [ho, hn, hs] <;> omega))) trivial
    · have g0 : decide (((exsC ks).length : Int) ≥ 0) = false := decide_eq_false (by omega)
      refine go_ ?_
      with_reducible apply run_y
      exact want_
      · intro K hK
        refine ev_ ?_
        refine vcCall_plain (s_nameT s) (by kernel_rfl) ?_
        refine ev_ ?_
        exact hK
      refine go_ ?_
      refine ev_ ?_
      exact .mk (vb_eq (by ((try rw [hl]); rw [Bool.eq_iff_iff]; unfold frmE kdE; simp [ho, hn, hs] <;> omega))) trivial
  · have s0 : (!isE s) = true := by simpa using hs
    have s1 : (bif (bif !false then ((n.toNat : Int) != 0) else false) then true else !isE s) = true := by rw [n1]; exact s0
    refine go_ ?_
    with_reducible apply run_y
    exact want_
    · intro K hK
      refine ev_ ?_
      refine vcCall_plain (s_nameT s) (by kernel_rfl) ?_
      refine ev_ ?_
      exact hK
    refine go_ ?_
    refine ev_ ?_
    exact .mk (vb_eq (by (unfold frmE; simp [ho, hn, hs]))) trivial
set_option maxHeartbeats 8000000 in
set_option maxRecDepth 100000 in
theorem s_exF5 (o : Int) (n : UInt32) (s : ByteArray) (ks : List Ex) : Spec (Ctx.mk Tryd.prog globU 7 LaidU) 72 [.agg (exC (.mk 5 o n s ks))] [] (.v (.bool (frmE 5 o n s ks.length))) [] := by
  have hl : ((exsC ks).length : Int) = (ks.length : Int) := by rw [exsC_len]
  refine spec_of_bodyL CX_mixed CU_gpk Tryd.func72 rfl 73 0 rfl rfl rfl rfl ?_
  by_cases ho : o = 0
  rotate_left
  · have o0 : (o != 0) = true := by simpa using ho
    have o1 : (bif false then true else (bif !false then o != 0 else false)) = true := o0
    refine go_ ?_
    refine ev_ ?_
    exact .mk (vb_eq (by (unfold frmE; simp [ho]))) trivial
  have o0 : (o != 0) = false := by simpa using ho
  have o1 : (bif false then true else (bif !false then o != 0 else false)) = false := o0
  by_cases hn : n = 0
  rotate_left
  · have n0 : ((n.toNat : Int) != 0) = true := by simpa using fun e : n.toNat = 0 => hn (UInt32.toNat_inj.1 e)
    have n1 : (bif !false then ((n.toNat : Int) != 0) else false) = true := n0
    refine go_ ?_
    refine ev_ ?_
    exact .mk (vb_eq (by (unfold frmE; simp [hn]))) trivial
  have n0 : ((n.toNat : Int) != 0) = false := by rw [hn]; rfl
  have n1 : (bif !false then ((n.toNat : Int) != 0) else false) = false := n0
  by_cases hs : s = ByteArray.empty
  · have s0 : (!decide (s = (⟨#[]⟩ : ByteArray))) = false := by rw [decide_eq_true (show s = (⟨#[]⟩ : ByteArray) from hs)]; rfl
    have s1 : (bif (bif !false then ((n.toNat : Int) != 0) else false) then true else !decide (s = (⟨#[]⟩ : ByteArray))) = false := by rw [n1]; exact s0
    by_cases hg : 0 ≤ ks.length
    · have g0 : decide (((exsC ks).length : Int) ≥ 0) = true := decide_eq_true (by omega)
      refine go_ ?_
      with_reducible apply run_y
      exact want_
      · intro K hK
        refine ev_ ?_
        refine vcCall_plain (s_nameN s) (by kernel_rfl) ?_
        refine ev_ ?_
        exact hK
      refine go_ ?_
      refine ev_ ?_
      exact .mk (vb_eq (by ((try rw [hl]); rw [Bool.eq_iff_iff]; unfold frmE kdE; simp [ho, hn, hs] <;> omega))) trivial
    · have g0 : decide (((exsC ks).length : Int) ≥ 0) = false := decide_eq_false (by omega)
      refine go_ ?_
      with_reducible apply run_y
      exact want_
      · intro K hK
        refine ev_ ?_
        refine vcCall_plain (s_nameN s) (by kernel_rfl) ?_
        refine ev_ ?_
        exact hK
      refine go_ ?_
      refine ev_ ?_
      exact .mk (vb_eq (by ((try rw [hl]); rw [Bool.eq_iff_iff]; unfold frmE kdE; simp [ho, hn, hs] <;> omega))) trivial
  · have s0 : (!decide (s = (⟨#[]⟩ : ByteArray))) = true := by rw [decide_eq_false (show ¬ s = (⟨#[]⟩ : ByteArray) from hs)]; rfl
    have s1 : (bif (bif !false then ((n.toNat : Int) != 0) else false) then true else !decide (s = (⟨#[]⟩ : ByteArray))) = true := by rw [n1]; exact s0
    refine go_ ?_
    with_reducible apply run_y
    exact want_
    · intro K hK
      refine ev_ ?_
      refine vcCall_plain (s_nameN s) (by kernel_rfl) ?_
      refine ev_ ?_
      exact hK
    refine go_ ?_
    refine ev_ ?_
    exact .mk (vb_eq (by (unfold frmE; simp [ho, hn, hs]))) trivial
set_option maxHeartbeats 8000000 in
set_option maxRecDepth 100000 in
theorem s_exF6 (o : Int) (n : UInt32) (s : ByteArray) (ks : List Ex) : Spec (Ctx.mk Tryd.prog globU 7 LaidU) 72 [.agg (exC (.mk 6 o n s ks))] [] (.v (.bool (frmE 6 o n s ks.length))) [] := by
  have hl : ((exsC ks).length : Int) = (ks.length : Int) := by rw [exsC_len]
  refine spec_of_bodyL CX_mixed CU_gpk Tryd.func72 rfl 73 0 rfl rfl rfl rfl ?_
  by_cases h4 : 4 ≤ o
  rotate_left
  · have c0 : decide (o < 4) = true := decide_eq_true (by omega)
    have e0 : (bif decide (o < 4) then true else false) = true := by rw [c0]; rfl
    have e1 : (bif true then (bif decide (o < 4) then true else false) else false) = true := by rw [c0]; rfl
    have e2 : (bif (bif true then (bif decide (o < 4) then true else false) else false) then true else false) = true := by rw [c0]; rfl
    refine go_ ?_
    refine ev_ ?_
    exact .mk (vb_eq (by (unfold frmE kdE; simp [h4]))) trivial
  have c0 : decide (o < 4) = false := decide_eq_false (by omega)
  by_cases h15 : o ≤ 15
  rotate_left
  · have c1 : decide (o > 15) = true := decide_eq_true (by omega)
    have d0 : (bif decide (o < 4) then true else decide (o > 15)) = true := by rw [c0, c1]; rfl
    have d1 : (bif true then (bif decide (o < 4) then true else decide (o > 15)) else false) = true := by rw [c0, c1]; rfl
    have d2 : (bif (bif true then (bif decide (o < 4) then true else decide (o > 15)) else false) then true else false) = true := by rw [c0, c1]; rfl
    refine go_ ?_
    refine ev_ ?_
    exact .mk (vb_eq (by (unfold frmE kdE; simp [h15]))) trivial
  have c1 : decide (o > 15) = false := decide_eq_false (by omega)
  have d0 : (bif decide (o < 4) then true else decide (o > 15)) = false := by rw [c0, c1]; rfl
  have d1 : (bif true then (bif decide (o < 4) then true else decide (o > 15)) else false) = false := by rw [c0, c1]; rfl
  have d2 : (bif (bif true then (bif decide (o < 4) then true else decide (o > 15)) else false) then true else false) = false := by rw [c0, c1]; rfl
  by_cases hn : n = 0
  rotate_left
  · have n0 : ((n.toNat : Int) != 0) = true := by simpa using fun e : n.toNat = 0 => hn (UInt32.toNat_inj.1 e)
    have n1 : (bif !false then ((n.toNat : Int) != 0) else false) = true := n0
    refine go_ ?_
    refine ev_ ?_
    exact .mk (vb_eq (by (unfold frmE; simp [hn]))) trivial
  have n0 : ((n.toNat : Int) != 0) = false := by rw [hn]; rfl
  have n1 : (bif !false then ((n.toNat : Int) != 0) else false) = false := n0
  by_cases hs : s = ByteArray.empty
  · have s0 : (!decide (s = (⟨#[]⟩ : ByteArray))) = false := by rw [decide_eq_true (show s = (⟨#[]⟩ : ByteArray) from hs)]; rfl
    have s1 : (bif (bif !false then ((n.toNat : Int) != 0) else false) then true else !decide (s = (⟨#[]⟩ : ByteArray))) = false := by rw [n1]; exact s0
    by_cases hg : 2 ≤ ks.length
    · have g0 : decide (((exsC ks).length : Int) ≥ 2) = true := decide_eq_true (by omega)
      refine go_ ?_
      with_reducible apply run_y
      exact want_
      · intro K hK
        refine ev_ ?_
        refine vcCall_plain (s_nameN s) (by kernel_rfl) ?_
        refine ev_ ?_
        exact hK
      refine go_ ?_
      refine ev_ ?_
      exact .mk (vb_eq (by ((try rw [hl]); rw [Bool.eq_iff_iff]; unfold frmE kdE; simp [h4, h15, hn, hs] <;> omega))) trivial
    · have g0 : decide (((exsC ks).length : Int) ≥ 2) = false := decide_eq_false (by omega)
      refine go_ ?_
      with_reducible apply run_y
      exact want_
      · intro K hK
        refine ev_ ?_
        refine vcCall_plain (s_nameN s) (by kernel_rfl) ?_
        refine ev_ ?_
        exact hK
      refine go_ ?_
      refine ev_ ?_
      exact .mk (vb_eq (by ((try rw [hl]); rw [Bool.eq_iff_iff]; unfold frmE kdE; simp [h4, h15, hn, hs] <;> omega))) trivial
  · have s0 : (!decide (s = (⟨#[]⟩ : ByteArray))) = true := by rw [decide_eq_false (show ¬ s = (⟨#[]⟩ : ByteArray) from hs)]; rfl
    have s1 : (bif (bif !false then ((n.toNat : Int) != 0) else false) then true else !decide (s = (⟨#[]⟩ : ByteArray))) = true := by rw [n1]; exact s0
    refine go_ ?_
    with_reducible apply run_y
    exact want_
    · intro K hK
      refine ev_ ?_
      refine vcCall_plain (s_nameN s) (by kernel_rfl) ?_
      refine ev_ ?_
      exact hK
    refine go_ ?_
    refine ev_ ?_
    exact .mk (vb_eq (by (unfold frmE; simp [hn, hs]))) trivial
set_option maxHeartbeats 8000000 in
set_option maxRecDepth 100000 in
theorem s_exF7 (o : Int) (n : UInt32) (s : ByteArray) (ks : List Ex) : Spec (Ctx.mk Tryd.prog globU 7 LaidU) 72 [.agg (exC (.mk 7 o n s ks))] [] (.v (.bool (frmE 7 o n s ks.length))) [] := by
  have hl : ((exsC ks).length : Int) = (ks.length : Int) := by rw [exsC_len]
  refine spec_of_bodyL CX_mixed CU_gpk Tryd.func72 rfl 73 0 rfl rfl rfl rfl ?_
  by_cases ho : o = 0
  rotate_left
  · have o0 : (o != 0) = true := by simpa using ho
    have o1 : (bif false then true else (bif !false then o != 0 else false)) = true := o0
    refine go_ ?_
    refine ev_ ?_
    exact .mk (vb_eq (by (unfold frmE; simp [ho]))) trivial
  have o0 : (o != 0) = false := by simpa using ho
  have o1 : (bif false then true else (bif !false then o != 0 else false)) = false := o0
  by_cases hn : n = 0
  rotate_left
  · have n0 : ((n.toNat : Int) != 0) = true := by simpa using fun e : n.toNat = 0 => hn (UInt32.toNat_inj.1 e)
    have n1 : (bif !false then ((n.toNat : Int) != 0) else false) = true := n0
    refine go_ ?_
    refine ev_ ?_
    exact .mk (vb_eq (by (unfold frmE; simp [hn]))) trivial
  have n0 : ((n.toNat : Int) != 0) = false := by rw [hn]; rfl
  have n1 : (bif !false then ((n.toNat : Int) != 0) else false) = false := n0
  by_cases hs : s = ByteArray.empty
  · have s0 : (!decide (s = (⟨#[]⟩ : ByteArray))) = false := by rw [decide_eq_true (show s = (⟨#[]⟩ : ByteArray) from hs)]; rfl
    have s1 : (bif (bif !false then ((n.toNat : Int) != 0) else false) then true else !decide (s = (⟨#[]⟩ : ByteArray))) = false := by rw [n1]; exact s0
    by_cases hg : 1 ≤ ks.length
    · have g0 : decide (((exsC ks).length : Int) ≥ 1) = true := decide_eq_true (by omega)
      refine go_ ?_
      with_reducible apply run_y
      exact want_
      · intro K hK
        refine ev_ ?_
        refine vcCall_plain (s_nameN s) (by kernel_rfl) ?_
        refine ev_ ?_
        exact hK
      refine go_ ?_
      refine ev_ ?_
      exact .mk (vb_eq (by ((try rw [hl]); rw [Bool.eq_iff_iff]; unfold frmE kdE; simp [ho, hn, hs] <;> omega))) trivial
    · have g0 : decide (((exsC ks).length : Int) ≥ 1) = false := decide_eq_false (by omega)
      refine go_ ?_
      with_reducible apply run_y
      exact want_
      · intro K hK
        refine ev_ ?_
        refine vcCall_plain (s_nameN s) (by kernel_rfl) ?_
        refine ev_ ?_
        exact hK
      refine go_ ?_
      refine ev_ ?_
      exact .mk (vb_eq (by ((try rw [hl]); rw [Bool.eq_iff_iff]; unfold frmE kdE; simp [ho, hn, hs] <;> omega))) trivial
  · have s0 : (!decide (s = (⟨#[]⟩ : ByteArray))) = true := by rw [decide_eq_false (show ¬ s = (⟨#[]⟩ : ByteArray) from hs)]; rfl
    have s1 : (bif (bif !false then ((n.toNat : Int) != 0) else false) then true else !decide (s = (⟨#[]⟩ : ByteArray))) = true := by rw [n1]; exact s0
    refine go_ ?_
    with_reducible apply run_y
    exact want_
    · intro K hK
      refine ev_ ?_
      refine vcCall_plain (s_nameN s) (by kernel_rfl) ?_
      refine ev_ ?_
      exact hK
    refine go_ ?_
    refine ev_ ?_
    exact .mk (vb_eq (by (unfold frmE; simp [ho, hn, hs]))) trivial
set_option maxHeartbeats 8000000 in
set_option maxRecDepth 100000 in
theorem s_exF8 (o : Int) (n : UInt32) (s : ByteArray) (ks : List Ex) : Spec (Ctx.mk Tryd.prog globU 7 LaidU) 72 [.agg (exC (.mk 8 o n s ks))] [] (.v (.bool (frmE 8 o n s ks.length))) [] := by
  have hl : ((exsC ks).length : Int) = (ks.length : Int) := by rw [exsC_len]
  refine spec_of_bodyL CX_mixed CU_gpk Tryd.func72 rfl 73 0 rfl rfl rfl rfl ?_
  by_cases ho : o = 0
  rotate_left
  · have o0 : (o != 0) = true := by simpa using ho
    have o1 : (bif false then true else (bif !false then o != 0 else false)) = true := o0
    refine go_ ?_
    refine ev_ ?_
    exact .mk (vb_eq (by (unfold frmE; simp [ho]))) trivial
  have o0 : (o != 0) = false := by simpa using ho
  have o1 : (bif false then true else (bif !false then o != 0 else false)) = false := o0
  by_cases hn : n = 0
  rotate_left
  · have n0 : ((n.toNat : Int) != 0) = true := by simpa using fun e : n.toNat = 0 => hn (UInt32.toNat_inj.1 e)
    have n1 : (bif !false then ((n.toNat : Int) != 0) else false) = true := n0
    refine go_ ?_
    refine ev_ ?_
    exact .mk (vb_eq (by (unfold frmE; simp [hn]))) trivial
  have n0 : ((n.toNat : Int) != 0) = false := by rw [hn]; rfl
  have n1 : (bif !false then ((n.toNat : Int) != 0) else false) = false := n0
  by_cases hs : s = ByteArray.empty
  · have s0 : (!decide (s = (⟨#[]⟩ : ByteArray))) = false := by rw [decide_eq_true (show s = (⟨#[]⟩ : ByteArray) from hs)]; rfl
    have s1 : (bif (bif !false then ((n.toNat : Int) != 0) else false) then true else !decide (s = (⟨#[]⟩ : ByteArray))) = false := by rw [n1]; exact s0
    by_cases hg : 2 ≤ ks.length
    · have g0 : decide (((exsC ks).length : Int) ≥ 2) = true := decide_eq_true (by omega)
      refine go_ ?_
      with_reducible apply run_y
      exact want_
      · intro K hK
        refine ev_ ?_
        refine vcCall_plain (s_nameN s) (by kernel_rfl) ?_
        refine ev_ ?_
        exact hK
      refine go_ ?_
      refine ev_ ?_
      exact .mk (vb_eq (by ((try rw [hl]); rw [Bool.eq_iff_iff]; unfold frmE kdE; simp [ho, hn, hs] <;> omega))) trivial
    · have g0 : decide (((exsC ks).length : Int) ≥ 2) = false := decide_eq_false (by omega)
      refine go_ ?_
      with_reducible apply run_y
      exact want_
      · intro K hK
        refine ev_ ?_
        refine vcCall_plain (s_nameN s) (by kernel_rfl) ?_
        refine ev_ ?_
        exact hK
      refine go_ ?_
      refine ev_ ?_
      exact .mk (vb_eq (by ((try rw [hl]); rw [Bool.eq_iff_iff]; unfold frmE kdE; simp [ho, hn, hs] <;> omega))) trivial
  · have s0 : (!decide (s = (⟨#[]⟩ : ByteArray))) = true := by rw [decide_eq_false (show ¬ s = (⟨#[]⟩ : ByteArray) from hs)]; rfl
    have s1 : (bif (bif !false then ((n.toNat : Int) != 0) else false) then true else !decide (s = (⟨#[]⟩ : ByteArray))) = true := by rw [n1]; exact s0
    refine go_ ?_
    with_reducible apply run_y
    exact want_
    · intro K hK
      refine ev_ ?_
      refine vcCall_plain (s_nameN s) (by kernel_rfl) ?_
      refine ev_ ?_
      exact hK
    refine go_ ?_
    refine ev_ ?_
    exact .mk (vb_eq (by (unfold frmE; simp [ho, hn, hs]))) trivial
set_option maxHeartbeats 8000000 in
set_option maxRecDepth 100000 in
theorem s_exF9 (o : Int) (n : UInt32) (s : ByteArray) (ks : List Ex) : Spec (Ctx.mk Tryd.prog globU 7 LaidU) 72 [.agg (exC (.mk 9 o n s ks))] [] (.v (.bool (frmE 9 o n s ks.length))) [] := by
  have hl : ((exsC ks).length : Int) = (ks.length : Int) := by rw [exsC_len]
  refine spec_of_bodyL CX_mixed CU_gpk Tryd.func72 rfl 73 0 rfl rfl rfl rfl ?_
  by_cases ho : o = 0
  rotate_left
  · have o0 : (o != 0) = true := by simpa using ho
    have o1 : (bif false then true else (bif !false then o != 0 else false)) = true := o0
    refine go_ ?_
    refine ev_ ?_
    exact .mk (vb_eq (by (unfold frmE; simp [ho]))) trivial
  have o0 : (o != 0) = false := by simpa using ho
  have o1 : (bif false then true else (bif !false then o != 0 else false)) = false := o0
  by_cases hn : n = 0
  rotate_left
  · have n0 : ((n.toNat : Int) != 0) = true := by simpa using fun e : n.toNat = 0 => hn (UInt32.toNat_inj.1 e)
    have n1 : (bif !false then ((n.toNat : Int) != 0) else false) = true := n0
    refine go_ ?_
    refine ev_ ?_
    exact .mk (vb_eq (by (unfold frmE; simp [hn]))) trivial
  have n0 : ((n.toNat : Int) != 0) = false := by rw [hn]; rfl
  have n1 : (bif !false then ((n.toNat : Int) != 0) else false) = false := n0
  by_cases hs : s = ByteArray.empty
  · have s0 : (!decide (s = (⟨#[]⟩ : ByteArray))) = false := by rw [decide_eq_true (show s = (⟨#[]⟩ : ByteArray) from hs)]; rfl
    have s1 : (bif (bif !false then ((n.toNat : Int) != 0) else false) then true else !decide (s = (⟨#[]⟩ : ByteArray))) = false := by rw [n1]; exact s0
    by_cases hg : 2 ≤ ks.length
    · have g0 : decide (((exsC ks).length : Int) ≥ 2) = true := decide_eq_true (by omega)
      refine go_ ?_
      with_reducible apply run_y
      exact want_
      · intro K hK
        refine ev_ ?_
        refine vcCall_plain (s_nameN s) (by kernel_rfl) ?_
        refine ev_ ?_
        exact hK
      refine go_ ?_
      refine ev_ ?_
      exact .mk (vb_eq (by ((try rw [hl]); rw [Bool.eq_iff_iff]; unfold frmE kdE; simp [ho, hn, hs] <;> omega))) trivial
    · have g0 : decide (((exsC ks).length : Int) ≥ 2) = false := decide_eq_false (by omega)
      refine go_ ?_
      with_reducible apply run_y
      exact want_
      · intro K hK
        refine ev_ ?_
        refine vcCall_plain (s_nameN s) (by kernel_rfl) ?_
        refine ev_ ?_
        exact hK
      refine go_ ?_
      refine ev_ ?_
      exact .mk (vb_eq (by ((try rw [hl]); rw [Bool.eq_iff_iff]; unfold frmE kdE; simp [ho, hn, hs] <;> omega))) trivial
  · have s0 : (!decide (s = (⟨#[]⟩ : ByteArray))) = true := by rw [decide_eq_false (show ¬ s = (⟨#[]⟩ : ByteArray) from hs)]; rfl
    have s1 : (bif (bif !false then ((n.toNat : Int) != 0) else false) then true else !decide (s = (⟨#[]⟩ : ByteArray))) = true := by rw [n1]; exact s0
    refine go_ ?_
    with_reducible apply run_y
    exact want_
    · intro K hK
      refine ev_ ?_
      refine vcCall_plain (s_nameN s) (by kernel_rfl) ?_
      refine ev_ ?_
      exact hK
    refine go_ ?_
    refine ev_ ?_
    exact .mk (vb_eq (by (unfold frmE; simp [ho, hn, hs]))) trivial
set_option maxHeartbeats 8000000 in
set_option maxRecDepth 100000 in
theorem s_exF0 (k o : Int) (n : UInt32) (s : ByteArray) (ks : List Ex) (hk : k ≠ 1 ∧ k ≠ 2 ∧ k ≠ 3 ∧ k ≠ 4 ∧ k ≠ 5 ∧ k ≠ 6 ∧ k ≠ 7 ∧ k ≠ 8 ∧ k ≠ 9) : Spec (Ctx.mk Tryd.prog globU 7 LaidU) 72 [.agg (exC (.mk k o n s ks))] [] (.v (.bool (frmE k o n s ks.length))) [] := by
  obtain ⟨h1, h2, h3, h4, h5, h6, h7, h8, h9⟩ := hk
  have e : frmE k o n s ks.length = false := by
    unfold frmE kdE
    simp only [h1, h2, h3, h4, h5, h6, h7, h8, h9, or_self, if_false]
    repeat' split
    all_goals rfl
  rw [e]
  have q1 : (k == 1) = false := by simpa using h1
  have q2 : (k == 2) = false := by simpa using h2
  have q3 : (k == 3) = false := by simpa using h3
  have q4 : (k == 4) = false := by simpa using h4
  have q5 : (k == 5) = false := by simpa using h5
  have q6 : (k == 6) = false := by simpa using h6
  have q7 : (k == 7) = false := by simpa using h7
  have q8 : (k == 8) = false := by simpa using h8
  have q9 : (k == 9) = false := by simpa using h9
  refine spec_of_bodyL CX_mixed CU_gpk Tryd.func72 rfl 73 0 rfl rfl rfl rfl ?_
  refine go_ ?_
  refine ev_ ?_
  exact .mk (vb_eq (by rfl)) trivial
theorem s_exprForm (k o : Int) (n : UInt32) (s : ByteArray) (ks : List Ex) : Spec (Ctx.mk Tryd.prog globU 7 LaidU) 72 [.agg (exC (.mk k o n s ks))] [] (.v (.bool (frmE k o n s ks.length))) [] := by
  by_cases h1 : k = 1
  · subst h1; exact s_exF1 o n s ks
  by_cases h2 : k = 2
  · subst h2; exact s_exF2 o n s ks
  by_cases h3 : k = 3
  · subst h3; exact s_exF3 o n s ks
  by_cases h4 : k = 4
  · subst h4; exact s_exF4 o n s ks
  by_cases h5 : k = 5
  · subst h5; exact s_exF5 o n s ks
  by_cases h6 : k = 6
  · subst h6; exact s_exF6 o n s ks
  by_cases h7 : k = 7
  · subst h7; exact s_exF7 o n s ks
  by_cases h8 : k = 8
  · subst h8; exact s_exF8 o n s ks
  by_cases h9 : k = 9
  · subst h9; exact s_exF9 o n s ks
  exact s_exF0 k o n s ks ⟨h1, h2, h3, h4, h5, h6, h7, h8, h9⟩
end Go.Proofs.YtddggjmfplohkaaDoor
