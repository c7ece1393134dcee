import Derived.Test.YtddggjmfplohkaaDoorQe
/- Which programs may be, walked. -/
namespace Go.Proofs.YtddggjmfplohkaaDoor
open Go.RowKit
set_option linter.unnecessarySimpa false
/-- The lists of statements are short. -/
def bdS : Nat → Sm → Prop
  | 0, _ => True
  | r + 1, .mk _ _ _ t f => t.length ≤ 1000000 ∧ f.length ≤ 1000000 ∧ (∀ x ∈ t, bdS r x) ∧ ∀ x ∈ f, bdS r x
theorem smsC_at2 {l : List Sm} {j : Nat} (h : j < l.length) : (smsC l)[j]? = some (smC l[j]) := by rw [smsC_eq]; simp [h]
set_option maxHeartbeats 16000000 in
set_option maxRecDepth 100000 in
theorem s_rightStmts : ∀ (r : Nat), r ≤ 24 → ∀ (lv : Int), lv = 25 - (r : Int) → ∀ (l : List Sm), l.length ≤ 1000000 → (∀ x ∈ l, bdS r x) → Spec (Ctx.mk Tryd.prog globU 7 LaidU) 29 [.sl .any (smsC l), .v (.int .i64 lv)] [] (.v (.bool (l.all fun e => rS r e))) [] := by
  intro r
  induction r with
  | zero =>
    intro _ lv hlv l hl _
    cases l with
    | nil =>
      refine spec_of_bodyL CX_mixed CU_gpk Tryd.func29 rfl 46 0 rfl rfl rfl rfl ?_
      refine go_ ?_
      refine c_loop (fun k q m h => k = 0 ∧ q = [.sl .any (smsC []), .v (.int .i64 lv), .top, .top, .top, .top, .top, .top, .top, .top, .top, .top, .top, .top, .sl .any (smsC []), .v (.int .i64 ((smsC []).length : Int)), .v (.int .i64 0)] ++ List.replicate 29 .top ∧ m = 1 ∧ h = [])
        ⟨_, _, _, _, ?_, ?_, ⟨rfl, rfl, rfl, rfl⟩⟩ ?_
      · rfl
      · skip
        exact sub_
      rintro k q m h hlen ⟨rfl, rfl, rfl, rfl⟩
      refine go_ ?_
      refine ev_ ?_
      exact .mk (vb_eq (by rfl)) trivial
    | cons x l =>
      have g0 : decide (((smsC (x :: l)).length : Int) > 0) = true := decide_eq_true (by rw [smsC_len]; simp <;> omega)
      have g1 : decide (lv > 24) = true := decide_eq_true (by omega)
      have g2 : (bif decide (((smsC (x :: l)).length : Int) > 0) then decide (lv > 24) else false) = true := by rw [g0, g1]; rfl
      refine spec_of_bodyL CX_mixed CU_gpk Tryd.func29 rfl 46 0 rfl rfl rfl rfl ?_
      refine go_ ?_
      refine ev_ ?_
      exact .mk (vb_eq (by (cases x; rfl))) trivial
  | succ r ih =>
    intro hr lv hlv l hl hbd
    have hw1 : IntKind.i64.wrap (lv + 1) = 25 - (r : Int) := by rw [wrap64 (by omega) (by omega)]; omega
    have ih' := ih (by omega) (25 - (r : Int)) rfl
    have he' := s_rightExprs r (by omega) (25 - (r : Int)) rfl
    clear ih
    have gl : decide (lv > 24) = false := decide_eq_false (by omega)
    have g2 : (bif decide (((smsC l).length : Int) > 0) then decide (lv > 24) else false) = false := by rw [gl]; cases decide (((smsC l).length : Int) > 0) <;> rfl
    refine spec_of_bodyL CX_mixed CU_gpk Tryd.func29 rfl 46 0 rfl rfl rfl rfl ?_
    by_cases h0 : decide (((smsC l).length : Int) > 0) = true
    rotate_left
    · have h0 : decide (((smsC l).length : Int) > 0) = false := by simpa using h0
      have hn : l = [] := by
        have := of_decide_eq_false h0
        rw [smsC_len] at this
        exact List.eq_nil_of_length_eq_zero (by omega)
      have gg : (bif decide (((smsC l).length : Int) > 0) then false else false) = false := by rw [h0]; rfl
      subst hn
      refine go_ ?_
      refine c_loop (fun k q m h => k = 0 ∧ q = [.sl .any (smsC []), .v (.int .i64 lv), .top, .top, .top, .top, .top, .top, .top, .top, .top, .top, .top, .top, .sl .any (smsC []), .v (.int .i64 ((smsC []).length : Int)), .v (.int .i64 0)] ++ List.replicate 29 .top ∧ m = 1 ∧ h = [])
        ⟨_, _, _, _, ?_, ?_, ⟨rfl, rfl, rfl, rfl⟩⟩ ?_
      · rfl
      · skip
        exact sub_
      rintro k q m h hlen ⟨rfl, rfl, rfl, rfl⟩
      refine go_ ?_
      refine ev_ ?_
      exact .mk (vb_eq (by rfl)) trivial
    refine go_ ?_
    refine c_loop (fun k q m h => ∃ j : Nat, j ≤ l.length ∧ (∀ i (hi : i < l.length), i < j → rS (r + 1) l[i] = true) ∧ k = l.length - j ∧ q = [.sl .any (smsC l), .v (.int .i64 lv), .top, .top, .top, .top, .top, .top, .top, .top, .top, .top, .top, .top, .sl .any (smsC l), .v (.int .i64 ((smsC l).length : Int)), .v (.int .i64 (j : Int))] ++ List.replicate 29 .top ∧ m = 1 ∧ h = [])
      ⟨_, _, _, _, ?_, ?_, ⟨0, Nat.zero_le _, fun i _ hi => by omega, rfl, rfl, rfl, rfl⟩⟩ ?_
    · rfl
    · skip
      exact sub_
    rintro k q m h hlen ⟨j, hj, hn, rfl, rfl, rfl, rfl⟩
    clear hlen g2 gl h0
    by_cases hj' : j < l.length
    · have g0 : decide ((j : Int) < ((smsC l).length : Int)) = true := decide_eq_true (by rw [smsC_len]; omega)
      have hw2 : IntKind.i64.wrap ((j : Int) + 1) = ((j + 1 : Nat) : Int) := by rw [wrap64 (by omega) (by omega)]; omega
      have hat := smsC_at2 hj'
      have hno : rS (r + 1) l[j] = false → (l.all fun e => rS (r + 1) e) = false := fun h => allX_no hj' h
      have hyes : rS (r + 1) l[j] = true → ∀ i (hi : i < l.length), i < j + 1 → rS (r + 1) l[i] = true := fun h i hi hi2 => by
        by_cases e : i = j
        · subst e; exact h
        · exact hn i hi (by omega)
      have hb := hbd l[j] (List.getElem_mem hj')
      generalize l[j] = x at *
      obtain ⟨xk, xs, es, t, f⟩ := x
      obtain ⟨hb1, hb2, hb3, hb4⟩ := hb
      rw [rS_frm] at hno hyes
      have hf := s_stmtForm xk xs es t f
      have hfl := fun h => frmS_len (k := xk) (s := xs) (ne := es.length) (nt := t.length) (nf := f.length) h
      have ht := ih' t hb1 hb3
      have hff := ih' f hb2 hb4
      clear hbd hb3 hb4 ih'
      generalize frmS xk xs es.length t.length f.length = fm at *
      by_cases hfm : fm = true
      rotate_left
      · have hfm : fm = false := by simpa using hfm
        have n0 : (!fm) = true := by rw [hfm]; rfl
        have n1 : (bif !fm then true else false) = true := by rw [hfm]; rfl
        refine go_ ?_
        with_reducible apply run_y
        exact want_
        · intro K hK
          refine ev_ ?_
          refine ⟨j, _, rfl, hat, rfl, ?_⟩
          refine ev_ ?_
          exact hK
        refine go_ ?_
        with_reducible apply run_y
        exact want_
        · intro K hK
          refine ev_ ?_
          refine vcCall_plain (hf) (by kernel_rfl) ?_
          refine ev_ ?_
          exact hK
        refine go_ ?_
        refine ev_ ?_
        exact .mk (vb_eq (by rw [hno (by rw [hfm]; rfl)])) trivial
      have hk := he' es (by have := hfl hfm; omega)
      have n0 : (!fm) = false := by rw [hfm]; rfl
      generalize (es.all fun e => rX r e) = al at *
      by_cases hal : al = true
      rotate_left
      · have hal : al = false := by simpa using hal
        have n1 : (bif !fm then true else !al) = true := by rw [hfm, hal]; rfl
        refine go_ ?_
        with_reducible apply run_y
        exact want_
        · intro K hK
          refine ev_ ?_
          refine ⟨j, _, rfl, hat, rfl, ?_⟩
          refine ev_ ?_
          exact hK
        refine go_ ?_
        with_reducible apply run_y
        exact want_
        · intro K hK
          refine ev_ ?_
          refine vcCall_plain (hf) (by kernel_rfl) ?_
          refine ev_ ?_
          exact hK
        refine go_ ?_
        rw [hw1]
        refine go_ ?_
        with_reducible apply run_y
        exact want_
        · intro K hK
          refine ev_ ?_
          refine vcCall_plain (hk) (by kernel_rfl) ?_
          refine ev_ ?_
          exact hK
        refine go_ ?_
        refine ev_ ?_
        exact .mk (vb_eq (by rw [hno (by rw [hfm, hal]; rfl)])) trivial
      have n1 : (bif !fm then true else !al) = false := by rw [hfm, hal]; rfl
      generalize (t.all fun e => rS r e) = bt at *
      by_cases hbt : bt = true
      rotate_left
      · have hbt : bt = false := by simpa using hbt
        have n2 : (!bt) = true := by rw [hbt]; rfl
        have n3 : (bif !bt then true else false) = true := by rw [hbt]; rfl
        refine go_ ?_
        with_reducible apply run_y
        exact want_
        · intro K hK
          refine ev_ ?_
          refine ⟨j, _, rfl, hat, rfl, ?_⟩
          refine ev_ ?_
          exact hK
        refine go_ ?_
        with_reducible apply run_y
        exact want_
        · intro K hK
          refine ev_ ?_
          refine vcCall_plain (hf) (by kernel_rfl) ?_
          refine ev_ ?_
          exact hK
        refine go_ ?_
        rw [hw1]
        refine go_ ?_
        with_reducible apply run_y
        exact want_
        · intro K hK
          refine ev_ ?_
          refine vcCall_plain (hk) (by kernel_rfl) ?_
          refine ev_ ?_
          exact hK
        refine go_ ?_
        rw [hw1]
        refine go_ ?_
        with_reducible apply run_y
        exact want_
        · intro K hK
          refine ev_ ?_
          refine vcCall_plain (ht) (by kernel_rfl) ?_
          refine ev_ ?_
          exact hK
        refine go_ ?_
        refine ev_ ?_
        exact .mk (vb_eq (by rw [hno (by rw [hfm, hal, hbt]; rfl)])) trivial
      have n2 : (!bt) = false := by rw [hbt]; rfl
      generalize (f.all fun e => rS r e) = bf at *
      by_cases hbf : bf = true
      rotate_left
      · have hbf : bf = false := by simpa using hbf
        have n3 : (bif !bt then true else !bf) = true := by rw [hbt, hbf]; rfl
        refine go_ ?_
        with_reducible apply run_y
        exact want_
        · intro K hK
          refine ev_ ?_
          refine ⟨j, _, rfl, hat, rfl, ?_⟩
          refine ev_ ?_
          exact hK
        refine go_ ?_
        with_reducible apply run_y
        exact want_
        · intro K hK
          refine ev_ ?_
          refine vcCall_plain (hf) (by kernel_rfl) ?_
          refine ev_ ?_
          exact hK
        refine go_ ?_
        rw [hw1]
        refine go_ ?_
        with_reducible apply run_y
        exact want_
        · intro K hK
          refine ev_ ?_
          refine vcCall_plain (hk) (by kernel_rfl) ?_
          refine ev_ ?_
          exact hK
        refine go_ ?_
        rw [hw1]
        refine go_ ?_
        with_reducible apply run_y
        exact want_
        · intro K hK
          refine ev_ ?_
          refine vcCall_plain (ht) (by kernel_rfl) ?_
          refine ev_ ?_
          exact hK
        refine go_ ?_
        rw [hw1]
        refine go_ ?_
        with_reducible apply run_y
        exact want_
        · intro K hK
          refine ev_ ?_
          refine vcCall_plain (hff) (by kernel_rfl) ?_
          refine ev_ ?_
          exact hK
        refine go_ ?_
        refine ev_ ?_
        exact .mk (vb_eq (by rw [hno (by rw [hfm, hal, hbt, hbf]; rfl)])) trivial
      have n3 : (bif !bt then true else !bf) = false := by rw [hbt, hbf]; rfl
      refine go_ ?_
      with_reducible apply run_y
      exact want_
      · intro K hK
        refine ev_ ?_
        refine ⟨j, _, rfl, hat, rfl, ?_⟩
        refine ev_ ?_
        exact hK
      refine go_ ?_
      with_reducible apply run_y
      exact want_
      · intro K hK
        refine ev_ ?_
        refine vcCall_plain (hf) (by kernel_rfl) ?_
        refine ev_ ?_
        exact hK
      refine go_ ?_
      rw [hw1]
      refine go_ ?_
      with_reducible apply run_y
      exact want_
      · intro K hK
        refine ev_ ?_
        refine vcCall_plain (hk) (by kernel_rfl) ?_
        refine ev_ ?_
        exact hK
      refine go_ ?_
      rw [hw1]
      refine go_ ?_
      with_reducible apply run_y
      exact want_
      · intro K hK
        refine ev_ ?_
        refine vcCall_plain (ht) (by kernel_rfl) ?_
        refine ev_ ?_
        exact hK
      refine go_ ?_
      rw [hw1]
      refine go_ ?_
      with_reducible apply run_y
      exact want_
      · intro K hK
        refine ev_ ?_
        refine vcCall_plain (hff) (by kernel_rfl) ?_
        refine ev_ ?_
        exact hK
      refine go_ ?_
      rw [hw2]
      refine c_round ⟨_, _, _, _, ?_, ?_, ?_, ⟨j + 1, by omega, hyes (by rw [hfm, hal, hbt, hbf]; rfl), rfl, rfl, rfl, rfl⟩⟩
      · omega
      · rfl
      · skip
        exact sub_
    have g0 : decide ((j : Int) < ((smsC l).length : Int)) = false := decide_eq_false (by rw [smsC_len]; omega)
    refine go_ ?_
    refine ev_ ?_
    exact .mk (vb_eq (by rw [allX_yes fun i hi => hn i hi (by omega)])) trivial
end Go.Proofs.YtddggjmfplohkaaDoor
