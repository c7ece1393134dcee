import Derived.Test.YtddggjmfplohkaaDoorQc
/- Which lists of expressions may stand in a program, walked. -/
namespace Go.Proofs.YtddggjmfplohkaaDoor
open Go.RowKit
set_option linter.unnecessarySimpa false
theorem allX_no {α : Type} {P : α → Bool} {l : List α} {j : Nat} (hj : j < l.length) (h : P l[j] = false) : l.all P = false := by
  rw [List.all_eq_false]
  exact ⟨l[j], List.getElem_mem hj, by rw [h]; decide⟩
theorem allX_yes {α : Type} {P : α → Bool} {l : List α} (h : ∀ i (hi : i < l.length), P l[i] = true) : l.all P = true := by
  rw [List.all_eq_true]
  intro b hb
  obtain ⟨i, hi, rfl⟩ := List.getElem_of_mem hb
  exact h i hi
theorem frm_len {k o : Int} {n : UInt32} {s : ByteArray} {len : Nat} (h : frmE k o n s len = true) : len ≤ 6 := by
  unfold frmE at h
  have hk : kdE true k o len = true := by
    split at h
    · cases h
    · split at h
      · split at h
        · exact h
        · cases h
      · split at h
        · exact h
        · cases h
  unfold kdE at hk
  split at hk
  · have := of_decide_eq_true hk; omega
  · split at hk
    · simp at hk; omega
    · split at hk
      · simp at hk; omega
      · split at hk
        · simp at hk; omega
        · split at hk
          · simp at hk; omega
          · cases hk
set_option maxHeartbeats 8000000 in
set_option maxRecDepth 100000 in
theorem s_rightExprs : ∀ (r : Nat), r ≤ 24 → ∀ (lv : Int), lv = 25 - (r : Int) → ∀ (l : List Ex), l.length ≤ 1000000 → Spec (Ctx.mk Tryd.prog globU 7 LaidU) 56 [.sl .any (exsC l), .v (.int .i64 lv)] [] (.v (.bool (l.all fun e => rX r e))) [] := by
  intro r
  induction r with
  | zero =>
    intro _ lv hlv l hl
    cases l with
    | nil =>
      refine spec_of_bodyL CX_mixed CU_gpk Tryd.func56 rfl 32 0 rfl rfl rfl rfl ?_
      refine go_ ?_
      refine c_loop (fun k q m h => k = 0 ∧ q = [.sl .any (exsC []), .v (.int .i64 lv), .top, .top, .top, .top, .top, .top, .top, .top, .top, .top, .top, .top, .sl .any (exsC []), .v (.int .i64 ((exsC []).length : Int)), .v (.int .i64 0)] ++ List.replicate 15 .top ∧ m = 1 ∧ h = [])
        ⟨_, _, _, _, ?_, ?_, ⟨rfl, rfl, rfl, rfl⟩⟩ ?_
      · rfl
      · skip
        exact sub_
      rintro k q m h hlen ⟨rfl, rfl, rfl, rfl⟩
      refine go_ ?_
      refine ev_ ?_
      exact .mk (vb_eq (by rfl)) trivial
    | cons x l =>
      have g0 : decide (((exsC (x :: l)).length : Int) > 0) = true := decide_eq_true (by rw [exsC_len]; simp <;> omega)
      have g1 : decide (lv > 24) = true := decide_eq_true (by omega)
      have g2 : (bif decide (((exsC (x :: l)).length : Int) > 0) then decide (lv > 24) else false) = true := by rw [g0, g1]; rfl
      refine spec_of_bodyL CX_mixed CU_gpk Tryd.func56 rfl 32 0 rfl rfl rfl rfl ?_
      refine go_ ?_
      refine ev_ ?_
      exact .mk (vb_eq (by (cases x; rfl))) trivial
  | succ r ih =>
    intro hr lv hlv l hl
    have hw1 : IntKind.i64.wrap (lv + 1) = 25 - (r : Int) := by rw [wrap64 (by omega) (by omega)]; omega
    have ih' := ih (by omega) (25 - (r : Int)) rfl
    clear ih
    have gl : decide (lv > 24) = false := decide_eq_false (by omega)
    have g2 : (bif decide (((exsC l).length : Int) > 0) then decide (lv > 24) else false) = false := by rw [gl]; cases decide (((exsC l).length : Int) > 0) <;> rfl
    refine spec_of_bodyL CX_mixed CU_gpk Tryd.func56 rfl 32 0 rfl rfl rfl rfl ?_
    by_cases h0 : decide (((exsC l).length : Int) > 0) = true
    rotate_left
    · have h0 : decide (((exsC l).length : Int) > 0) = false := by simpa using h0
      have hn : l = [] := by
        have := of_decide_eq_false h0
        rw [exsC_len] at this
        exact List.eq_nil_of_length_eq_zero (by omega)
      have gg : (bif decide (((exsC l).length : Int) > 0) then false else false) = false := by rw [h0]; rfl
      subst hn
      refine go_ ?_
      refine c_loop (fun k q m h => k = 0 ∧ q = [.sl .any (exsC []), .v (.int .i64 lv), .top, .top, .top, .top, .top, .top, .top, .top, .top, .top, .top, .top, .sl .any (exsC []), .v (.int .i64 ((exsC []).length : Int)), .v (.int .i64 0)] ++ List.replicate 15 .top ∧ m = 1 ∧ h = [])
        ⟨_, _, _, _, ?_, ?_, ⟨rfl, rfl, rfl, rfl⟩⟩ ?_
      · rfl
      · skip
        exact sub_
      rintro k q m h hlen ⟨rfl, rfl, rfl, rfl⟩
      refine go_ ?_
      refine ev_ ?_
      exact .mk (vb_eq (by rfl)) trivial
    refine go_ ?_
    refine c_loop (fun k q m h => ∃ j : Nat, j ≤ l.length ∧ (∀ i (hi : i < l.length), i < j → rX (r + 1) l[i] = true) ∧ k = l.length - j ∧ q = [.sl .any (exsC l), .v (.int .i64 lv), .top, .top, .top, .top, .top, .top, .top, .top, .top, .top, .top, .top, .sl .any (exsC l), .v (.int .i64 ((exsC l).length : Int)), .v (.int .i64 (j : Int))] ++ List.replicate 15 .top ∧ m = 1 ∧ h = [])
      ⟨_, _, _, _, ?_, ?_, ⟨0, Nat.zero_le _, fun i _ hi => by omega, rfl, rfl, rfl, rfl⟩⟩ ?_
    · rfl
    · skip
      exact sub_
    rintro k q m h hlen ⟨j, hj, hn, rfl, rfl, rfl, rfl⟩
    clear hlen g2 gl h0
    by_cases hj' : j < l.length
    · have g0 : decide ((j : Int) < ((exsC l).length : Int)) = true := decide_eq_true (by rw [exsC_len]; omega)
      have hw2 : IntKind.i64.wrap ((j : Int) + 1) = ((j + 1 : Nat) : Int) := by rw [wrap64 (by omega) (by omega)]; omega
      have hat := exsC_at hj'
      have hno : rX (r + 1) l[j] = false → (l.all fun e => rX (r + 1) e) = false := fun h => allX_no hj' h
      have hyes : rX (r + 1) l[j] = true → ∀ i (hi : i < l.length), i < j + 1 → rX (r + 1) l[i] = true := fun h i hi hi2 => by
        by_cases e : i = j
        · subst e; exact h
        · exact hn i hi (by omega)
      generalize l[j] = x at *
      obtain ⟨xk, xo, xn, xs, xks⟩ := x
      rw [rX_frm] at hno hyes
      have hf := s_exprForm xk xo xn xs xks
      have hfl := fun h => frm_len (k := xk) (o := xo) (n := xn) (s := xs) (len := xks.length) h
      generalize frmE xk xo xn xs xks.length = fm at *
      by_cases hfm : fm = true
      rotate_left
      · have hfm : fm = false := by simpa using hfm
        have n0 : (!fm) = true := by rw [hfm]; rfl
        have n1 : (bif !fm then true else false) = true := by rw [hfm]; rfl
        refine go_ ?_
        with_reducible apply run_y
        exact want_
        · intro K hK
          refine ev_ ?_
          refine ⟨j, _, rfl, hat, rfl, ?_⟩
          refine ev_ ?_
          exact hK
        refine go_ ?_
        with_reducible apply run_y
        exact want_
        · intro K hK
          refine ev_ ?_
          refine vcCall_plain (hf) (by kernel_rfl) ?_
          refine ev_ ?_
          exact hK
        refine go_ ?_
        refine ev_ ?_
        exact .mk (vb_eq (by rw [hno (by rw [hfm]; rfl)])) trivial
      have hk := ih' xks (by have := hfl hfm; omega)
      have n0 : (!fm) = false := by rw [hfm]; rfl
      generalize (xks.all fun e => rX r e) = al at *
      by_cases hal : al = true
      rotate_left
      · have hal : al = false := by simpa using hal
        have n1 : (bif !fm then true else !al) = true := by rw [hfm, hal]; rfl
        refine go_ ?_
        with_reducible apply run_y
        exact want_
        · intro K hK
          refine ev_ ?_
          refine ⟨j, _, rfl, hat, rfl, ?_⟩
          refine ev_ ?_
          exact hK
        refine go_ ?_
        with_reducible apply run_y
        exact want_
        · intro K hK
          refine ev_ ?_
          refine vcCall_plain (hf) (by kernel_rfl) ?_
          refine ev_ ?_
          exact hK
        refine go_ ?_
        rw [hw1]
        refine go_ ?_
        with_reducible apply run_y
        exact want_
        · intro K hK
          refine ev_ ?_
          refine vcCall_plain (hk) (by kernel_rfl) ?_
          refine ev_ ?_
          exact hK
        refine go_ ?_
        refine ev_ ?_
        exact .mk (vb_eq (by rw [hno (by rw [hfm, hal]; rfl)])) trivial
      have n1 : (bif !fm then true else !al) = false := by rw [hfm, hal]; rfl
      refine go_ ?_
      with_reducible apply run_y
      exact want_
      · intro K hK
        refine ev_ ?_
        refine ⟨j, _, rfl, hat, rfl, ?_⟩
        refine ev_ ?_
        exact hK
      refine go_ ?_
      with_reducible apply run_y
      exact want_
      · intro K hK
        refine ev_ ?_
        refine vcCall_plain (hf) (by kernel_rfl) ?_
        refine ev_ ?_
        exact hK
      refine go_ ?_
      rw [hw1]
      refine go_ ?_
      with_reducible apply run_y
      exact want_
      · intro K hK
        refine ev_ ?_
        refine vcCall_plain (hk) (by kernel_rfl) ?_
        refine ev_ ?_
        exact hK
      refine go_ ?_
      rw [hw2]
      refine c_round ⟨_, _, _, _, ?_, ?_, ?_, ⟨j + 1, by omega, hyes (by rw [hfm, hal]; rfl), rfl, rfl, rfl, rfl⟩⟩
      · omega
      · rfl
      · skip
        exact sub_
    have g0 : decide ((j : Int) < ((exsC l).length : Int)) = false := decide_eq_false (by rw [exsC_len]; omega)
    refine go_ ?_
    refine ev_ ?_
    exact .mk (vb_eq (by rw [allX_yes fun i hi => hn i hi (by omega)])) trivial
end Go.Proofs.YtddggjmfplohkaaDoor

/- Which statements may stand in a program: their form, walked. -/
namespace Go.Proofs.YtddggjmfplohkaaDoor
open Go.RowKit
set_option linter.unnecessarySimpa false
noncomputable def frmS (k : Int) (s : ByteArray) (ne nt nf : Nat) : Bool :=
  if (k ≠ 4 ∧ nf ≠ 0) ∨ (k ≠ 4 ∧ k ≠ 5 ∧ nt ≠ 0) then false
  else if k = 1 ∨ k = 2 ∨ k = 6 then (if isE s = true then fitE k ne else false)
  else (if s = ByteArray.empty then fitE k ne else false)
theorem rS_frm (r : Nat) (k : Int) (s : ByteArray) (es : List Ex) (t f : List Sm) : rS (r + 1) (.mk k s es t f) = (frmS k s es.length t.length f.length && ((es.all fun e => rX r e) && ((t.all fun x => rS r x) && (f.all fun x => rS r x)))) := by
  rw [rS]
  unfold frmS
  split
  · rfl
  · split
    · split
      · rfl
      · rfl
    · split
      · rfl
      · rfl
theorem frmS_len {k : Int} {s : ByteArray} {ne nt nf : Nat} (h : frmS k s ne nt nf = true) : ne ≤ 6 := by
  unfold frmS at h
  have hk : fitE k ne = true := by
    split at h
    · cases h
    · split at h
      · split at h
        · exact h
        · cases h
      · split at h
        · exact h
        · cases h
  unfold fitE at hk
  split at hk
  · have := of_decide_eq_true hk; omega
  · split at hk
    · have := of_decide_eq_true hk; omega
    · split at hk
      · have := of_decide_eq_true hk; omega
      · split at hk
        · have := of_decide_eq_true hk; omega
        · cases hk
set_option maxHeartbeats 8000000 in
set_option maxRecDepth 100000 in
theorem s_stF1 (s : ByteArray) (es : List Ex) (t f : List Sm) : Spec (Ctx.mk Tryd.prog globU 7 LaidU) 55 [.agg (smC (.mk 1 s es t f))] [] (.v (.bool (frmS 1 s es.length t.length f.length))) [] := by
  have hl : ((exsC es).length : Int) = (es.length : Int) := by rw [exsC_len]
  have hlt : ((smsC t).length : Int) = (t.length : Int) := by rw [smsC_len]
  have hlf : ((smsC f).length : Int) = (f.length : Int) := by rw [smsC_len]
  refine spec_of_bodyL CX_mixed CU_gpk Tryd.func55 rfl 59 0 rfl rfl rfl rfl ?_
  by_cases hs : isE s = true
  rotate_left
  · have s0 : (!isE s) = true := by simpa using hs
    have s1 : (bif !isE s then true else false) = true := by rw [s0]; rfl
    have s2 : (bif (bif !isE s then true else false) then true else false) = true := by rw [s1]; rfl
    refine go_ ?_
    with_reducible apply run_y
    exact want_
    · intro K hK
      refine ev_ ?_
      refine vcCall_plain (s_nameT s) (by kernel_rfl) ?_
      refine ev_ ?_
      exact hK
    refine go_ ?_
    refine ev_ ?_
    exact .mk (vb_eq (by (unfold frmS; simp [hs]))) trivial
  have s0 : (!isE s) = false := by rw [hs]; rfl
  by_cases hg : 1 ≤ es.length
  rotate_left
  · have l0 : decide (((exsC es).length : Int) < 1) = true := decide_eq_true (by omega)
    have p0 : (bif !isE s then true else decide (((exsC es).length : Int) < 1)) = true := by rw [s0, l0]; rfl
    have p1 : (bif (bif !isE s then true else decide (((exsC es).length : Int) < 1)) then true else false) = true := by rw [p0]; rfl
    refine go_ ?_
    with_reducible apply run_y
    exact want_
    · intro K hK
      refine ev_ ?_
      refine vcCall_plain (s_nameT s) (by kernel_rfl) ?_
      refine ev_ ?_
      exact hK
    refine go_ ?_
    refine ev_ ?_
    exact .mk (vb_eq (by (unfold frmS fitE; simp [hs] <;> omega))) trivial
  have l0 : decide (((exsC es).length : Int) < 1) = false := decide_eq_false (by omega)
  have p0 : (bif !isE s then true else decide (((exsC es).length : Int) < 1)) = false := by rw [s0, l0]; rfl
  by_cases hh : es.length ≤ 1
  rotate_left
  · have l1 : decide (((exsC es).length : Int) > 1) = true := decide_eq_true (by omega)
    have p1 : (bif (bif !isE s then true else decide (((exsC es).length : Int) < 1)) then true else decide (((exsC es).length : Int) > 1)) = true := by rw [p0, l1]; rfl
    refine go_ ?_
    with_reducible apply run_y
    exact want_
    · intro K hK
      refine ev_ ?_
      refine vcCall_plain (s_nameT s) (by kernel_rfl) ?_
      refine ev_ ?_
      exact hK
    refine go_ ?_
    refine ev_ ?_
    exact .mk (vb_eq (by (unfold frmS fitE; simp [hs] <;> omega))) trivial
  have l1 : decide (((exsC es).length : Int) > 1) = false := decide_eq_false (by omega)
  have p1 : (bif (bif !isE s then true else decide (((exsC es).length : Int) < 1)) then true else decide (((exsC es).length : Int) > 1)) = false := by rw [p0, l1]; rfl
  by_cases ht : t.length = 0
  rotate_left
  · have t0 : (((smsC t).length : Int) == 0) = false := by simp only [beq_eq_false_iff_ne, ne_eq]; omega
    have t1 : (bif false then true else (((smsC t).length : Int) == 0)) = false := t0
    refine go_ ?_
    with_reducible apply run_y
    exact want_
    · intro K hK
      refine ev_ ?_
      refine vcCall_plain (s_nameT s) (by kernel_rfl) ?_
      refine ev_ ?_
      exact hK
    refine go_ ?_
    refine ev_ ?_
    exact .mk (vb_eq (by ((try rw [hlt]); (try rw [hlf]); rw [Bool.eq_iff_iff]; unfold frmS fitE; simp [hs, -List.length_eq_zero_iff] <;> omega))) trivial
  have t0 : (((smsC t).length : Int) == 0) = true := by simp only [beq_iff_eq]; omega
  have t1 : (bif false then true else (((smsC t).length : Int) == 0)) = true := t0
  refine go_ ?_
  with_reducible apply run_y
  exact want_
  · intro K hK
    refine ev_ ?_
    refine vcCall_plain (s_nameT s) (by kernel_rfl) ?_
    refine ev_ ?_
    exact hK
  refine go_ ?_
  refine ev_ ?_
  exact .mk (vb_eq (by ((try rw [hlt]); (try rw [hlf]); rw [Bool.eq_iff_iff]; unfold frmS fitE; simp [hs, -List.length_eq_zero_iff] <;> omega))) trivial
set_option maxHeartbeats 8000000 in
set_option maxRecDepth 100000 in
theorem s_stF2 (s : ByteArray) (es : List Ex) (t f : List Sm) : Spec (Ctx.mk Tryd.prog globU 7 LaidU) 55 [.agg (smC (.mk 2 s es t f))] [] (.v (.bool (frmS 2 s es.length t.length f.length))) [] := by
  have hl : ((exsC es).length : Int) = (es.length : Int) := by rw [exsC_len]
  have hlt : ((smsC t).length : Int) = (t.length : Int) := by rw [smsC_len]
  have hlf : ((smsC f).length : Int) = (f.length : Int) := by rw [smsC_len]
  refine spec_of_bodyL CX_mixed CU_gpk Tryd.func55 rfl 59 0 rfl rfl rfl rfl ?_
  by_cases hs : isE s = true
  rotate_left
  · have s0 : (!isE s) = true := by simpa using hs
    have s1 : (bif !isE s then true else false) = true := by rw [s0]; rfl
    have s2 : (bif (bif !isE s then true else false) then true else false) = true := by rw [s1]; rfl
    refine go_ ?_
    with_reducible apply run_y
    exact want_
    · intro K hK
      refine ev_ ?_
      refine vcCall_plain (s_nameT s) (by kernel_rfl) ?_
      refine ev_ ?_
      exact hK
    refine go_ ?_
    refine ev_ ?_
    exact .mk (vb_eq (by (unfold frmS; simp [hs]))) trivial
  have s0 : (!isE s) = false := by rw [hs]; rfl
  by_cases hg : 2 ≤ es.length
  rotate_left
  · have l0 : decide (((exsC es).length : Int) < 2) = true := decide_eq_true (by omega)
    have p0 : (bif !isE s then true else decide (((exsC es).length : Int) < 2)) = true := by rw [s0, l0]; rfl
    have p1 : (bif (bif !isE s then true else decide (((exsC es).length : Int) < 2)) then true else false) = true := by rw [p0]; rfl
    refine go_ ?_
    with_reducible apply run_y
    exact want_
    · intro K hK
      refine ev_ ?_
      refine vcCall_plain (s_nameT s) (by kernel_rfl) ?_
      refine ev_ ?_
      exact hK
    refine go_ ?_
    refine ev_ ?_
    exact .mk (vb_eq (by (unfold frmS fitE; simp [hs] <;> omega))) trivial
  have l0 : decide (((exsC es).length : Int) < 2) = false := decide_eq_false (by omega)
  have p0 : (bif !isE s then true else decide (((exsC es).length : Int) < 2)) = false := by rw [s0, l0]; rfl
  by_cases hh : es.length ≤ 2
  rotate_left
  · have l1 : decide (((exsC es).length : Int) > 2) = true := decide_eq_true (by omega)
    have p1 : (bif (bif !isE s then true else decide (((exsC es).length : Int) < 2)) then true else decide (((exsC es).length : Int) > 2)) = true := by rw [p0, l1]; rfl
    refine go_ ?_
    with_reducible apply run_y
    exact want_
    · intro K hK
      refine ev_ ?_
      refine vcCall_plain (s_nameT s) (by kernel_rfl) ?_
      refine ev_ ?_
      exact hK
    refine go_ ?_
    refine ev_ ?_
    exact .mk (vb_eq (by (unfold frmS fitE; simp [hs] <;> omega))) trivial
  have l1 : decide (((exsC es).length : Int) > 2) = false := decide_eq_false (by omega)
  have p1 : (bif (bif !isE s then true else decide (((exsC es).length : Int) < 2)) then true else decide (((exsC es).length : Int) > 2)) = false := by rw [p0, l1]; rfl
  by_cases ht : t.length = 0
  rotate_left
  · have t0 : (((smsC t).length : Int) == 0) = false := by simp only [beq_eq_false_iff_ne, ne_eq]; omega
    have t1 : (bif false then true else (((smsC t).length : Int) == 0)) = false := t0
    refine go_ ?_
    with_reducible apply run_y
    exact want_
    · intro K hK
      refine ev_ ?_
      refine vcCall_plain (s_nameT s) (by kernel_rfl) ?_
      refine ev_ ?_
      exact hK
    refine go_ ?_
    refine ev_ ?_
    exact .mk (vb_eq (by ((try rw [hlt]); (try rw [hlf]); rw [Bool.eq_iff_iff]; unfold frmS fitE; simp [hs, -List.length_eq_zero_iff] <;> omega))) trivial
  have t0 : (((smsC t).length : Int) == 0) = true := by simp only [beq_iff_eq]; omega
  have t1 : (bif false then true else (((smsC t).length : Int) == 0)) = true := t0
  refine go_ ?_
  with_reducible apply run_y
  exact want_
  · intro K hK
    refine ev_ ?_
    refine vcCall_plain (s_nameT s) (by kernel_rfl) ?_
    refine ev_ ?_
    exact hK
  refine go_ ?_
  refine ev_ ?_
  exact .mk (vb_eq (by ((try rw [hlt]); (try rw [hlf]); rw [Bool.eq_iff_iff]; unfold frmS fitE; simp [hs, -List.length_eq_zero_iff] <;> omega))) trivial
set_option maxHeartbeats 8000000 in
set_option maxRecDepth 100000 in
theorem s_stF3 (s : ByteArray) (es : List Ex) (t f : List Sm) : Spec (Ctx.mk Tryd.prog globU 7 LaidU) 55 [.agg (smC (.mk 3 s es t f))] [] (.v (.bool (frmS 3 s es.length t.length f.length))) [] := by
  have hl : ((exsC es).length : Int) = (es.length : Int) := by rw [exsC_len]
  have hlt : ((smsC t).length : Int) = (t.length : Int) := by rw [smsC_len]
  have hlf : ((smsC f).length : Int) = (f.length : Int) := by rw [smsC_len]
  refine spec_of_bodyL CX_mixed CU_gpk Tryd.func55 rfl 59 0 rfl rfl rfl rfl ?_
  by_cases hs : s = ByteArray.empty
  rotate_left
  · have s0 : (!decide (s = (⟨#[]⟩ : ByteArray))) = true := by rw [decide_eq_false (show ¬ s = (⟨#[]⟩ : ByteArray) from hs)]; rfl
    have s1 : (bif !decide (s = (⟨#[]⟩ : ByteArray)) then true else false) = true := by rw [s0]; rfl
    have s2 : (bif (bif !decide (s = (⟨#[]⟩ : ByteArray)) then true else false) then true else false) = true := by rw [s1]; rfl
    refine go_ ?_
    with_reducible apply run_y
    exact want_
    · intro K hK
      refine ev_ ?_
      refine vcCall_plain (s_nameN s) (by kernel_rfl) ?_
      refine ev_ ?_
      exact hK
    refine go_ ?_
    refine ev_ ?_
    exact .mk (vb_eq (by (unfold frmS; simp [hs]))) trivial
  have s0 : (!decide (s = (⟨#[]⟩ : ByteArray))) = false := by rw [decide_eq_true (show s = (⟨#[]⟩ : ByteArray) from hs)]; rfl
  by_cases hg : 1 ≤ es.length
  rotate_left
  · have l0 : decide (((exsC es).length : Int) < 1) = true := decide_eq_true (by omega)
    have p0 : (bif !decide (s = (⟨#[]⟩ : ByteArray)) then true else decide (((exsC es).length : Int) < 1)) = true := by rw [s0, l0]; rfl
    have p1 : (bif (bif !decide (s = (⟨#[]⟩ : ByteArray)) then true else decide (((exsC es).length : Int) < 1)) then true else false) = true := by rw [p0]; rfl
    refine go_ ?_
    with_reducible apply run_y
    exact want_
    · intro K hK
      refine ev_ ?_
      refine vcCall_plain (s_nameN s) (by kernel_rfl) ?_
      refine ev_ ?_
      exact hK
    refine go_ ?_
    refine ev_ ?_
    exact .mk (vb_eq (by (unfold frmS fitE; simp [hs] <;> omega))) trivial
  have l0 : decide (((exsC es).length : Int) < 1) = false := decide_eq_false (by omega)
  have p0 : (bif !decide (s = (⟨#[]⟩ : ByteArray)) then true else decide (((exsC es).length : Int) < 1)) = false := by rw [s0, l0]; rfl
  by_cases hh : es.length ≤ 1
  rotate_left
  · have l1 : decide (((exsC es).length : Int) > 1) = true := decide_eq_true (by omega)
    have p1 : (bif (bif !decide (s = (⟨#[]⟩ : ByteArray)) then true else decide (((exsC es).length : Int) < 1)) then true else decide (((exsC es).length : Int) > 1)) = true := by rw [p0, l1]; rfl
    refine go_ ?_
    with_reducible apply run_y
    exact want_
    · intro K hK
      refine ev_ ?_
      refine vcCall_plain (s_nameN s) (by kernel_rfl) ?_
      refine ev_ ?_
      exact hK
    refine go_ ?_
    refine ev_ ?_
    exact .mk (vb_eq (by (unfold frmS fitE; simp [hs] <;> omega))) trivial
  have l1 : decide (((exsC es).length : Int) > 1) = false := decide_eq_false (by omega)
  have p1 : (bif (bif !decide (s = (⟨#[]⟩ : ByteArray)) then true else decide (((exsC es).length : Int) < 1)) then true else decide (((exsC es).length : Int) > 1)) = false := by rw [p0, l1]; rfl
  by_cases ht : t.length = 0
  rotate_left
  · have t0 : (((smsC t).length : Int) == 0) = false := by simp only [beq_eq_false_iff_ne, ne_eq]; omega
    have t1 : (bif false then true else (((smsC t).length : Int) == 0)) = false := t0
    refine go_ ?_
    with_reducible apply run_y
    exact want_
    · intro K hK
      refine ev_ ?_
      refine vcCall_plain (s_nameN s) (by kernel_rfl) ?_
      refine ev_ ?_
      exact hK
    refine go_ ?_
    refine ev_ ?_
    exact .mk (vb_eq (by ((try rw [hlt]); (try rw [hlf]); rw [Bool.eq_iff_iff]; unfold frmS fitE; simp [hs, -List.length_eq_zero_iff] <;> omega))) trivial
  have t0 : (((smsC t).length : Int) == 0) = true := by simp only [beq_iff_eq]; omega
  have t1 : (bif false then true else (((smsC t).length : Int) == 0)) = true := t0
  refine go_ ?_
  with_reducible apply run_y
  exact want_
  · intro K hK
    refine ev_ ?_
    refine vcCall_plain (s_nameN s) (by kernel_rfl) ?_
    refine ev_ ?_
    exact hK
  refine go_ ?_
  refine ev_ ?_
  exact .mk (vb_eq (by ((try rw [hlt]); (try rw [hlf]); rw [Bool.eq_iff_iff]; unfold frmS fitE; simp [hs, -List.length_eq_zero_iff] <;> omega))) trivial
set_option maxHeartbeats 8000000 in
set_option maxRecDepth 100000 in
theorem s_stF4 (s : ByteArray) (es : List Ex) (t f : List Sm) : Spec (Ctx.mk Tryd.prog globU 7 LaidU) 55 [.agg (smC (.mk 4 s es t f))] [] (.v (.bool (frmS 4 s es.length t.length f.length))) [] := by
  have hl : ((exsC es).length : Int) = (es.length : Int) := by rw [exsC_len]
  have hlt : ((smsC t).length : Int) = (t.length : Int) := by rw [smsC_len]
  have hlf : ((smsC f).length : Int) = (f.length : Int) := by rw [smsC_len]
  refine spec_of_bodyL CX_mixed CU_gpk Tryd.func55 rfl 59 0 rfl rfl rfl rfl ?_
  by_cases hs : s = ByteArray.empty
  rotate_left
  · have s0 : (!decide (s = (⟨#[]⟩ : ByteArray))) = true := by rw [decide_eq_false (show ¬ s = (⟨#[]⟩ : ByteArray) from hs)]; rfl
    have s1 : (bif !decide (s = (⟨#[]⟩ : ByteArray)) then true else false) = true := by rw [s0]; rfl
    have s2 : (bif (bif !decide (s = (⟨#[]⟩ : ByteArray)) then true else false) then true else false) = true := by rw [s1]; rfl
    refine go_ ?_
    with_reducible apply run_y
    exact want_
    · intro K hK
      refine ev_ ?_
      refine vcCall_plain (s_nameN s) (by kernel_rfl) ?_
      refine ev_ ?_
      exact hK
    refine go_ ?_
    refine ev_ ?_
    exact .mk (vb_eq (by (unfold frmS; simp [hs]))) trivial
  have s0 : (!decide (s = (⟨#[]⟩ : ByteArray))) = false := by rw [decide_eq_true (show s = (⟨#[]⟩ : ByteArray) from hs)]; rfl
  by_cases hg : 1 ≤ es.length
  rotate_left
  · have l0 : decide (((exsC es).length : Int) < 1) = true := decide_eq_true (by omega)
    have p0 : (bif !decide (s = (⟨#[]⟩ : ByteArray)) then true else decide (((exsC es).length : Int) < 1)) = true := by rw [s0, l0]; rfl
    have p1 : (bif (bif !decide (s = (⟨#[]⟩ : ByteArray)) then true else decide (((exsC es).length : Int) < 1)) then true else false) = true := by rw [p0]; rfl
    refine go_ ?_
    with_reducible apply run_y
    exact want_
    · intro K hK
      refine ev_ ?_
      refine vcCall_plain (s_nameN s) (by kernel_rfl) ?_
      refine ev_ ?_
      exact hK
    refine go_ ?_
    refine ev_ ?_
    exact .mk (vb_eq (by (unfold frmS fitE; simp [hs] <;> omega))) trivial
  have l0 : decide (((exsC es).length : Int) < 1) = false := decide_eq_false (by omega)
  have p0 : (bif !decide (s = (⟨#[]⟩ : ByteArray)) then true else decide (((exsC es).length : Int) < 1)) = false := by rw [s0, l0]; rfl
  by_cases hh : es.length ≤ 1
  rotate_left
  · have l1 : decide (((exsC es).length : Int) > 1) = true := decide_eq_true (by omega)
    have p1 : (bif (bif !decide (s = (⟨#[]⟩ : ByteArray)) then true else decide (((exsC es).length : Int) < 1)) then true else decide (((exsC es).length : Int) > 1)) = true := by rw [p0, l1]; rfl
    refine go_ ?_
    with_reducible apply run_y
    exact want_
    · intro K hK
      refine ev_ ?_
      refine vcCall_plain (s_nameN s) (by kernel_rfl) ?_
      refine ev_ ?_
      exact hK
    refine go_ ?_
    refine ev_ ?_
    exact .mk (vb_eq (by (unfold frmS fitE; simp [hs] <;> omega))) trivial
  have l1 : decide (((exsC es).length : Int) > 1) = false := decide_eq_false (by omega)
  have p1 : (bif (bif !decide (s = (⟨#[]⟩ : ByteArray)) then true else decide (((exsC es).length : Int) < 1)) then true else decide (((exsC es).length : Int) > 1)) = false := by rw [p0, l1]; rfl
  refine go_ ?_
  with_reducible apply run_y
  exact want_
  · intro K hK
    refine ev_ ?_
    refine vcCall_plain (s_nameN s) (by kernel_rfl) ?_
    refine ev_ ?_
    exact hK
  refine go_ ?_
  refine ev_ ?_
  exact .mk (vb_eq (by ((try rw [hlt]); (try rw [hlf]); rw [Bool.eq_iff_iff]; unfold frmS fitE; simp [hs, -List.length_eq_zero_iff] <;> omega))) trivial
set_option maxHeartbeats 8000000 in
set_option maxRecDepth 100000 in
theorem s_stF5 (s : ByteArray) (es : List Ex) (t f : List Sm) : Spec (Ctx.mk Tryd.prog globU 7 LaidU) 55 [.agg (smC (.mk 5 s es t f))] [] (.v (.bool (frmS 5 s es.length t.length f.length))) [] := by
  have hl : ((exsC es).length : Int) = (es.length : Int) := by rw [exsC_len]
  have hlt : ((smsC t).length : Int) = (t.length : Int) := by rw [smsC_len]
  have hlf : ((smsC f).length : Int) = (f.length : Int) := by rw [smsC_len]
  refine spec_of_bodyL CX_mixed CU_gpk Tryd.func55 rfl 59 0 rfl rfl rfl rfl ?_
  by_cases hs : s = ByteArray.empty
  rotate_left
  · have s0 : (!decide (s = (⟨#[]⟩ : ByteArray))) = true := by rw [decide_eq_false (show ¬ s = (⟨#[]⟩ : ByteArray) from hs)]; rfl
    have s1 : (bif !decide (s = (⟨#[]⟩ : ByteArray)) then true else false) = true := by rw [s0]; rfl
    have s2 : (bif (bif !decide (s = (⟨#[]⟩ : ByteArray)) then true else false) then true else false) = true := by rw [s1]; rfl
    refine go_ ?_
    with_reducible apply run_y
    exact want_
    · intro K hK
      refine ev_ ?_
      refine vcCall_plain (s_nameN s) (by kernel_rfl) ?_
      refine ev_ ?_
      exact hK
    refine go_ ?_
    refine ev_ ?_
    exact .mk (vb_eq (by (unfold frmS; simp [hs]))) trivial
  have s0 : (!decide (s = (⟨#[]⟩ : ByteArray))) = false := by rw [decide_eq_true (show s = (⟨#[]⟩ : ByteArray) from hs)]; rfl
  by_cases hg : 1 ≤ es.length
  rotate_left
  · have l0 : decide (((exsC es).length : Int) < 1) = true := decide_eq_true (by omega)
    have p0 : (bif !decide (s = (⟨#[]⟩ : ByteArray)) then true else decide (((exsC es).length : Int) < 1)) = true := by rw [s0, l0]; rfl
    have p1 : (bif (bif !decide (s = (⟨#[]⟩ : ByteArray)) then true else decide (((exsC es).length : Int) < 1)) then true else false) = true := by rw [p0]; rfl
    refine go_ ?_
    with_reducible apply run_y
    exact want_
    · intro K hK
      refine ev_ ?_
      refine vcCall_plain (s_nameN s) (by kernel_rfl) ?_
      refine ev_ ?_
      exact hK
    refine go_ ?_
    refine ev_ ?_
    exact .mk (vb_eq (by (unfold frmS fitE; simp [hs] <;> omega))) trivial
  have l0 : decide (((exsC es).length : Int) < 1) = false := decide_eq_false (by omega)
  have p0 : (bif !decide (s = (⟨#[]⟩ : ByteArray)) then true else decide (((exsC es).length : Int) < 1)) = false := by rw [s0, l0]; rfl
  by_cases hh : es.length ≤ 1
  rotate_left
  · have l1 : decide (((exsC es).length : Int) > 1) = true := decide_eq_true (by omega)
    have p1 : (bif (bif !decide (s = (⟨#[]⟩ : ByteArray)) then true else decide (((exsC es).length : Int) < 1)) then true else decide (((exsC es).length : Int) > 1)) = true := by rw [p0, l1]; rfl
    refine go_ ?_
    with_reducible apply run_y
    exact want_
    · intro K hK
      refine ev_ ?_
      refine vcCall_plain (s_nameN s) (by kernel_rfl) ?_
      refine ev_ ?_
      exact hK
    refine go_ ?_
    refine ev_ ?_
    exact .mk (vb_eq (by (unfold frmS fitE; simp [hs] <;> omega))) trivial
  have l1 : decide (((exsC es).length : Int) > 1) = false := decide_eq_false (by omega)
  have p1 : (bif (bif !decide (s = (⟨#[]⟩ : ByteArray)) then true else decide (((exsC es).length : Int) < 1)) then true else decide (((exsC es).length : Int) > 1)) = false := by rw [p0, l1]; rfl
  refine go_ ?_
  with_reducible apply run_y
  exact want_
  · intro K hK
    refine ev_ ?_
    refine vcCall_plain (s_nameN s) (by kernel_rfl) ?_
    refine ev_ ?_
    exact hK
  refine go_ ?_
  refine ev_ ?_
  exact .mk (vb_eq (by ((try rw [hlt]); (try rw [hlf]); rw [Bool.eq_iff_iff]; unfold frmS fitE; simp [hs, -List.length_eq_zero_iff] <;> omega))) trivial
set_option maxHeartbeats 8000000 in
set_option maxRecDepth 100000 in
theorem s_stF6 (s : ByteArray) (es : List Ex) (t f : List Sm) : Spec (Ctx.mk Tryd.prog globU 7 LaidU) 55 [.agg (smC (.mk 6 s es t f))] [] (.v (.bool (frmS 6 s es.length t.length f.length))) [] := by
  have hl : ((exsC es).length : Int) = (es.length : Int) := by rw [exsC_len]
  have hlt : ((smsC t).length : Int) = (t.length : Int) := by rw [smsC_len]
  have hlf : ((smsC f).length : Int) = (f.length : Int) := by rw [smsC_len]
  refine spec_of_bodyL CX_mixed CU_gpk Tryd.func55 rfl 59 0 rfl rfl rfl rfl ?_
  by_cases hs : isE s = true
  rotate_left
  · have s0 : (!isE s) = true := by simpa using hs
    have s1 : (bif !isE s then true else false) = true := by rw [s0]; rfl
    have s2 : (bif (bif !isE s then true else false) then true else false) = true := by rw [s1]; rfl
    refine go_ ?_
    with_reducible apply run_y
    exact want_
    · intro K hK
      refine ev_ ?_
      refine vcCall_plain (s_nameT s) (by kernel_rfl) ?_
      refine ev_ ?_
      exact hK
    refine go_ ?_
    refine ev_ ?_
    exact .mk (vb_eq (by (unfold frmS; simp [hs]))) trivial
  have s0 : (!isE s) = false := by rw [hs]; rfl
  have hg : 0 ≤ es.length := Nat.zero_le _
  have l0 : decide (((exsC es).length : Int) < 0) = false := decide_eq_false (by omega)
  have p0 : (bif !isE s then true else decide (((exsC es).length : Int) < 0)) = false := by rw [s0, l0]; rfl
  by_cases hh : es.length ≤ 6
  rotate_left
  · have l1 : decide (((exsC es).length : Int) > 6) = true := decide_eq_true (by omega)
    have p1 : (bif (bif !isE s then true else decide (((exsC es).length : Int) < 0)) then true else decide (((exsC es).length : Int) > 6)) = true := by rw [p0, l1]; rfl
    refine go_ ?_
    with_reducible apply run_y
    exact want_
    · intro K hK
      refine ev_ ?_
      refine vcCall_plain (s_nameT s) (by kernel_rfl) ?_
      refine ev_ ?_
      exact hK
    refine go_ ?_
    refine ev_ ?_
    exact .mk (vb_eq (by (unfold frmS fitE; simp [hs] <;> omega))) trivial
  have l1 : decide (((exsC es).length : Int) > 6) = false := decide_eq_false (by omega)
  have p1 : (bif (bif !isE s then true else decide (((exsC es).length : Int) < 0)) then true else decide (((exsC es).length : Int) > 6)) = false := by rw [p0, l1]; rfl
  by_cases ht : t.length = 0
  rotate_left
  · have t0 : (((smsC t).length : Int) == 0) = false := by simp only [beq_eq_false_iff_ne, ne_eq]; omega
    have t1 : (bif false then true else (((smsC t).length : Int) == 0)) = false := t0
    refine go_ ?_
    with_reducible apply run_y
    exact want_
    · intro K hK
      refine ev_ ?_
      refine vcCall_plain (s_nameT s) (by kernel_rfl) ?_
      refine ev_ ?_
      exact hK
    refine go_ ?_
    refine ev_ ?_
    exact .mk (vb_eq (by ((try rw [hlt]); (try rw [hlf]); rw [Bool.eq_iff_iff]; unfold frmS fitE; simp [hs, -List.length_eq_zero_iff] <;> omega))) trivial
  have t0 : (((smsC t).length : Int) == 0) = true := by simp only [beq_iff_eq]; omega
  have t1 : (bif false then true else (((smsC t).length : Int) == 0)) = true := t0
  refine go_ ?_
  with_reducible apply run_y
  exact want_
  · intro K hK
    refine ev_ ?_
    refine vcCall_plain (s_nameT s) (by kernel_rfl) ?_
    refine ev_ ?_
    exact hK
  refine go_ ?_
  refine ev_ ?_
  exact .mk (vb_eq (by ((try rw [hlt]); (try rw [hlf]); rw [Bool.eq_iff_iff]; unfold frmS fitE; simp [hs, -List.length_eq_zero_iff] <;> omega))) trivial
set_option maxHeartbeats 8000000 in
set_option maxRecDepth 100000 in
theorem s_stF7 (s : ByteArray) (es : List Ex) (t f : List Sm) : Spec (Ctx.mk Tryd.prog globU 7 LaidU) 55 [.agg (smC (.mk 7 s es t f))] [] (.v (.bool (frmS 7 s es.length t.length f.length))) [] := by
  have hl : ((exsC es).length : Int) = (es.length : Int) := by rw [exsC_len]
  have hlt : ((smsC t).length : Int) = (t.length : Int) := by rw [smsC_len]
  have hlf : ((smsC f).length : Int) = (f.length : Int) := by rw [smsC_len]
  refine spec_of_bodyL CX_mixed CU_gpk Tryd.func55 rfl 59 0 rfl rfl rfl rfl ?_
  by_cases hs : s = ByteArray.empty
  rotate_left
  · have s0 : (!decide (s = (⟨#[]⟩ : ByteArray))) = true := by rw [decide_eq_false (show ¬ s = (⟨#[]⟩ : ByteArray) from hs)]; rfl
    have s1 : (bif !decide (s = (⟨#[]⟩ : ByteArray)) then true else false) = true := by rw [s0]; rfl
    have s2 : (bif (bif !decide (s = (⟨#[]⟩ : ByteArray)) then true else false) then true else false) = true := by rw [s1]; rfl
    refine go_ ?_
    with_reducible apply run_y
    exact want_
    · intro K hK
      refine ev_ ?_
      refine vcCall_plain (s_nameN s) (by kernel_rfl) ?_
      refine ev_ ?_
      exact hK
    refine go_ ?_
    refine ev_ ?_
    exact .mk (vb_eq (by (unfold frmS; simp [hs]))) trivial
  have s0 : (!decide (s = (⟨#[]⟩ : ByteArray))) = false := by rw [decide_eq_true (show s = (⟨#[]⟩ : ByteArray) from hs)]; rfl
  have hg : 0 ≤ es.length := Nat.zero_le _
  have l0 : decide (((exsC es).length : Int) < 0) = false := decide_eq_false (by omega)
  have p0 : (bif !decide (s = (⟨#[]⟩ : ByteArray)) then true else decide (((exsC es).length : Int) < 0)) = false := by rw [s0, l0]; rfl
  by_cases hh : es.length ≤ 1
  rotate_left
  · have l1 : decide (((exsC es).length : Int) > 1) = true := decide_eq_true (by omega)
    have p1 : (bif (bif !decide (s = (⟨#[]⟩ : ByteArray)) then true else decide (((exsC es).length : Int) < 0)) then true else decide (((exsC es).length : Int) > 1)) = true := by rw [p0, l1]; rfl
    refine go_ ?_
    with_reducible apply run_y
    exact want_
    · intro K hK
      refine ev_ ?_
      refine vcCall_plain (s_nameN s) (by kernel_rfl) ?_
      refine ev_ ?_
      exact hK
    refine go_ ?_
    refine ev_ ?_
    exact .mk (vb_eq (by (unfold frmS fitE; simp [hs] <;> omega))) trivial
  have l1 : decide (((exsC es).length : Int) > 1) = false := decide_eq_false (by omega)
  have p1 : (bif (bif !decide (s = (⟨#[]⟩ : ByteArray)) then true else decide (((exsC es).length : Int) < 0)) then true else decide (((exsC es).length : Int) > 1)) = false := by rw [p0, l1]; rfl
  by_cases ht : t.length = 0
  rotate_left
  · have t0 : (((smsC t).length : Int) == 0) = false := by simp only [beq_eq_false_iff_ne, ne_eq]; omega
    have t1 : (bif false then true else (((smsC t).length : Int) == 0)) = false := t0
    refine go_ ?_
    with_reducible apply run_y
    exact want_
    · intro K hK
      refine ev_ ?_
      refine vcCall_plain (s_nameN s) (by kernel_rfl) ?_
      refine ev_ ?_
      exact hK
    refine go_ ?_
    refine ev_ ?_
    exact .mk (vb_eq (by ((try rw [hlt]); (try rw [hlf]); rw [Bool.eq_iff_iff]; unfold frmS fitE; simp [hs, -List.length_eq_zero_iff] <;> omega))) trivial
  have t0 : (((smsC t).length : Int) == 0) = true := by simp only [beq_iff_eq]; omega
  have t1 : (bif false then true else (((smsC t).length : Int) == 0)) = true := t0
  refine go_ ?_
  with_reducible apply run_y
  exact want_
  · intro K hK
    refine ev_ ?_
    refine vcCall_plain (s_nameN s) (by kernel_rfl) ?_
    refine ev_ ?_
    exact hK
  refine go_ ?_
  refine ev_ ?_
  exact .mk (vb_eq (by ((try rw [hlt]); (try rw [hlf]); rw [Bool.eq_iff_iff]; unfold frmS fitE; simp [hs, -List.length_eq_zero_iff] <;> omega))) trivial
set_option maxHeartbeats 8000000 in
set_option maxRecDepth 100000 in
theorem s_stF0 (k : Int) (s : ByteArray) (es : List Ex) (t f : List Sm) (hk : k ≠ 1 ∧ k ≠ 2 ∧ k ≠ 3 ∧ k ≠ 4 ∧ k ≠ 5 ∧ k ≠ 6 ∧ k ≠ 7) : Spec (Ctx.mk Tryd.prog globU 7 LaidU) 55 [.agg (smC (.mk k s es t f))] [] (.v (.bool (frmS k s es.length t.length f.length))) [] := by
  obtain ⟨h1, h2, h3, h4, h5, h6, h7⟩ := hk
  have e : frmS k s es.length t.length f.length = false := by
    unfold frmS fitE
    simp only [h1, h2, h3, h4, h5, h6, h7, or_self, if_false]
    repeat' split
    all_goals rfl
  rw [e]
  have q1 : (k == 1) = false := by simpa using h1
  have q2 : (k == 2) = false := by simpa using h2
  have q3 : (k == 3) = false := by simpa using h3
  have q4 : (k == 4) = false := by simpa using h4
  have q5 : (k == 5) = false := by simpa using h5
  have q6 : (k == 6) = false := by simpa using h6
  have q7 : (k == 7) = false := by simpa using h7
  refine spec_of_bodyL CX_mixed CU_gpk Tryd.func55 rfl 59 0 rfl rfl rfl rfl ?_
  refine go_ ?_
  refine ev_ ?_
  exact .mk (vb_eq (by rfl)) trivial
theorem s_stmtForm (k : Int) (s : ByteArray) (es : List Ex) (t f : List Sm) : Spec (Ctx.mk Tryd.prog globU 7 LaidU) 55 [.agg (smC (.mk k s es t f))] [] (.v (.bool (frmS k s es.length t.length f.length))) [] := by
  by_cases h1 : k = 1
  · subst h1; exact s_stF1 s es t f
  by_cases h2 : k = 2
  · subst h2; exact s_stF2 s es t f
  by_cases h3 : k = 3
  · subst h3; exact s_stF3 s es t f
  by_cases h4 : k = 4
  · subst h4; exact s_stF4 s es t f
  by_cases h5 : k = 5
  · subst h5; exact s_stF5 s es t f
  by_cases h6 : k = 6
  · subst h6; exact s_stF6 s es t f
  by_cases h7 : k = 7
  · subst h7; exact s_stF7 s es t f
  exact s_stF0 k s es t f ⟨h1, h2, h3, h4, h5, h6, h7⟩
end Go.Proofs.YtddggjmfplohkaaDoor
