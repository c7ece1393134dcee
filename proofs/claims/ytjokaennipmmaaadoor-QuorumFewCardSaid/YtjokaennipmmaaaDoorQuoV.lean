import Derived.Test.YtjokaennipmmaaaDoorQuoW
/- Who agrees, the document's answer, walked over plain values. -/
namespace Go.Proofs.YtjokaennipmmaaaDoor
open Go.RowKit
set_option linter.unnecessarySimpa false
def agE (b msg : D) (s : Sd) : Bool := decide (s.1 = b) && kcheckE b msg s.2
theorem agrees_not {b msg : D} {l : List Sd} (h : ∀ i, i < l.length → agE b msg (l.getD i zeroSd) = false) : agreesE b msg l = false := by
  cases ha : agreesE b msg l with
  | false => rfl
  | true =>
    unfold agreesE at ha
    rw [List.any_eq_true] at ha
    obtain ⟨s, hs, h1⟩ := ha
    obtain ⟨i, hi, rfl⟩ := List.mem_iff_getElem.1 hs
    have h2 := h i hi
    have e : l.getD i zeroSd = l[i] := by rw [List.getD_eq_getElem?_getD, List.getElem?_eq_getElem hi]; rfl
    rw [e] at h2
    unfold agE at h2
    rw [h1] at h2; cases h2
theorem agrees_yes {b msg : D} {l : List Sd} {i : Nat} (hi : i < l.length) (h : agE b msg (l.getD i zeroSd) = true) : agreesE b msg l = true := by
  unfold agreesE
  rw [List.any_eq_true]
  have e : l.getD i zeroSd = l[i] := by rw [List.getD_eq_getElem?_getD, List.getElem?_eq_getElem hi]; rfl
  rw [e] at h
  exact ⟨l[i], List.getElem_mem hi, h⟩
theorem sd_mem {l : List Sd} {i : Nat} (hi : i < l.length) : l.getD i zeroSd ∈ l := by
  rw [List.getD_eq_getElem?_getD, List.getElem?_eq_getElem hi]; exact List.getElem_mem hi
theorem agE_eq (b msg sb : D) (sg : Sg) : agE b msg (sb, sg) = (decide (sb = b) && kcheckE b msg sg) := rfl
set_option maxRecDepth 100000 in
set_option maxHeartbeats 2000000 in
theorem s_ragrees (b msg : D) (l : List Sd) (hl : l.length ≤ 1000000) (hs : ∀ s ∈ l, s.2.2.2.length ≤ 1000000) : Spec (Ctx.mk Tryd.prog globX (0 + 1) Places) 24 [.agg (dP b), .agg (dP msg), .sl .any (sdsP l)] [] (.v (.bool (agreesE b msg l))) [] := by
  have hlen := sdsP_len l
  refine spec_of_bodyL CX_mixed CX_gpk Tryd.func24 rfl 31 0 rfl rfl rfl rfl ?_
  refine go_ ?_
  refine c_loop (fun f q m h => ∃ j : Nat, j ≤ l.length ∧ (∀ i, i < j → agE b msg (l.getD i zeroSd) = false) ∧ f = l.length - j ∧ q = [.top, .top, .sl .any (sdsP l), .ptr 1 0, .ptr 2 0, .top, .v (.bool false), .v (.int .i64 (j : Int))] ++ List.replicate 23 .top ∧ m = 3 ∧ h = [(1, .cells (dP b)), (2, .cells (dP msg))])
    ⟨_, _, _, _, ?_, ?_, ⟨0, Nat.zero_le _, fun i hi => by omega, rfl, rfl, rfl, rfl⟩⟩ ?_
  · rfl
  · skip
    exact sub_
  · rintro f q m h hlen2 ⟨j, hj, hn, rfl, rfl, rfl, rfl⟩
    clear hlen2
    by_cases h1 : j < l.length
    · have g1 : decide ((j : Int) < ((sdsP l).length : Int)) = true := decide_eq_true (by rw [hlen]; omega)
      have hw : IntKind.i64.wrap ((j : Int) + 1) = ((j + 1 : Nat) : Int) := by rw [wrap64 (by omega) (by omega)]; omega
      have hat := sdsP_at h1
      have hsl := hs _ (sd_mem h1)
      have hyes := agrees_yes (b := b) (msg := msg) h1
      have hnext : agE b msg (l.getD j zeroSd) = false → ∀ i, i < j + 1 → agE b msg (l.getD i zeroSd) = false := fun h i hi => by
        by_cases e : i = j
        · subst e; exact h
        · exact hn i (by omega)
      generalize l.getD j zeroSd = s at *
      obtain ⟨sb, si, so, sp⟩ := s
      rw [agE_eq] at hyes hnext
      have hk := s_rkcheck b msg (si, so, sp) hsl
      refine go_ ?_
      with_reducible apply run_y
      exact want_
      · intro K hK
        refine ev_ ?_
        refine ⟨j, _, rfl, hat, rfl, ?_⟩
        refine ev_ ?_
        exact hK
      refine go_ ?_
      cases e1 : decide (sb = b)
      case false =>
        replace hnext := hnext (by rw [e1]; rfl)
        refine go_ ?_
        rw [hw]
        refine c_round ⟨_, _, _, _, ?_, ?_, ?_, ⟨j + 1, h1, hnext, rfl, rfl, rfl, rfl⟩⟩
        · omega
        · rfl
        · skip
          exact sub_
      case true =>
        rw [e1, Bool.true_and] at hyes hnext
        refine go_ ?_
        with_reducible apply run_y
        exact want_
        · intro K hK
          refine ev_ ?_
          refine ⟨j, _, rfl, hat, rfl, ?_⟩
          refine ev_ ?_
          exact hK
        refine go_ ?_
        with_reducible apply run_y
        exact want_
        · intro K hK
          refine ev_ ?_
          refine vcCall_plain (hk) (by kernel_rfl) ?_
          refine ev_ ?_
          exact hK
        refine go_ ?_
        cases e2 : kcheckE b msg (si, so, sp)
        case false =>
          replace hnext := hnext e2
          refine go_ ?_
          rw [hw]
          refine c_round ⟨_, _, _, _, ?_, ?_, ?_, ⟨j + 1, h1, hnext, rfl, rfl, rfl, rfl⟩⟩
          · omega
          · rfl
          · skip
            exact sub_
        case true =>
          rw [hyes e2]
          refine go_ ?_
          refine ev_ ?_
          exact .mk (by rfl) trivial
    · have hjl : j = l.length := by omega
      subst hjl
      have g1 : decide (((l.length : Nat) : Int) < ((sdsP l).length : Int)) = false := decide_eq_false (by rw [hlen]; omega)
      rw [agrees_not hn]
      refine go_ ?_
      refine ev_ ?_
      exact .mk (by rfl) trivial
/-- Who of the first i builders agrees. -/
def whoUp (bs : List D) (msg : D) (l : List Sd) (i : Nat) : List Nat := (List.range i).filter fun i => agreesE (bs.getD i D.zero) msg l
theorem whoUp_len (bs : List D) (msg : D) (l : List Sd) (i : Nat) : (whoUp bs msg l i).length ≤ i := by
  unfold whoUp
  have := List.length_filter_le (fun i => agreesE (bs.getD i D.zero) msg l) (List.range i)
  rwa [List.length_range] at this
theorem whoUp_yes {bs : List D} {msg : D} {l : List Sd} {i : Nat} (h : agreesE (bs.getD i D.zero) msg l = true) : whoUp bs msg l (i + 1) = whoUp bs msg l i ++ [i] := by
  unfold whoUp
  rw [List.range_succ, List.filter_append, List.filter_cons, if_pos h]; rfl
theorem whoUp_no {bs : List D} {msg : D} {l : List Sd} {i : Nat} (h : agreesE (bs.getD i D.zero) msg l = false) : whoUp bs msg l (i + 1) = whoUp bs msg l i := by
  unfold whoUp
  rw [List.range_succ, List.filter_append, List.filter_cons, if_neg (by rw [h]; decide)]; simp
set_option maxRecDepth 100000 in
set_option maxHeartbeats 2000000 in
theorem s_rwho (bs : List D) (need : Int) (msg : D) (l : List Sd) (hb : bs.length ≤ 1000000) (hl : l.length ≤ 1000000) (hs : ∀ s ∈ l, s.2.2.2.length ≤ 1000000) : Spec (Ctx.mk Tryd.prog globX (0 + 1) Places) 18 [.agg (polP bs need), .agg (dP msg), .sl .any (sdsP l)] [] (.sl .any (isP (whoE bs msg l))) [] := by
  have hlen := dsP_len bs
  show Spec _ _ _ _ (.sl .any (isP (whoUp bs msg l bs.length))) _
  refine spec_of_bodyL CX_mixed CX_gpk Tryd.func18 rfl 29 0 rfl rfl rfl rfl ?_
  refine go_ ?_
  refine c_loop (fun f q m h => ∃ i : Nat, ∃ κ, i ≤ bs.length ∧ f = bs.length - i ∧ q = [.top, .top, .sl .any (sdsP l), .ptr 1 0, .ptr 2 0, .top, .sl .full [], .sl κ (isP (whoUp bs msg l i)), .v (.int .i64 (i : Int))] ++ List.replicate 20 .top ∧
      ((whoUp bs msg l i = [] ∧ κ = .full ∧ m = 3 ∧ h = [(1, .cells (polP bs need)), (2, .cells (dP msg))]) ∨ (κ = .own 3 ∧ m = 4 ∧ h = [(1, .cells (polP bs need)), (2, .cells (dP msg)), (3, .row (isP (whoUp bs msg l i)).length 3)])))
    ⟨_, _, _, _, ?_, ?_, ⟨0, .full, Nat.zero_le _, rfl, rfl, .inl ⟨rfl, rfl, rfl, rfl⟩⟩⟩ ?_
  · rfl
  · skip
    exact sub_
  · rintro f q m h hlen2 ⟨i, κ, hi, rfl, rfl, hc⟩
    clear hlen2
    by_cases h1 : i < bs.length
    · have g1 : decide ((i : Int) < ((dsP bs).length : Int)) = true := decide_eq_true (by rw [hlen]; omega)
      have hw : IntKind.i64.wrap ((i : Int) + 1) = ((i + 1 : Nat) : Int) := by rw [wrap64 (by omega) (by omega)]; omega
      have ha := s_ragrees (bs.getD i D.zero) msg l hl hs
      have hup := whoUp_len bs msg l i
      cases e1 : agreesE (bs.getD i D.zero) msg l with
      | false =>
        have hno := whoUp_no e1
        rw [e1] at ha
        rcases hc with ⟨h0, rfl, rfl, rfl⟩ | ⟨rfl, rfl, rfl⟩
        · skip
          refine go_ ?_
          with_reducible apply run_y
          exact want_
          · intro K hK
            refine ev_ ?_
            refine vcCall_plain (ha) (by kernel_rfl) ?_
            refine ev_ ?_
            exact hK
          refine go_ ?_
          rw [hw]
          refine c_round ⟨_, _, _, _, ?_, ?_, ?_, ⟨i + 1, .full, h1, rfl, by rw [hno], .inl ⟨hno.trans h0, rfl, rfl, rfl⟩⟩⟩
          · omega
          · rfl
          · skip
            exact sub_
        · skip
          refine go_ ?_
          with_reducible apply run_y
          exact want_
          · intro K hK
            refine ev_ ?_
            refine vcCall_plain (ha) (by kernel_rfl) ?_
            refine ev_ ?_
            exact hK
          refine go_ ?_
          rw [hw]
          refine c_round ⟨_, _, _, _, ?_, ?_, ?_, ⟨i + 1, .own 3, h1, rfl, by rw [hno], .inr ⟨rfl, rfl, by rw [hno]⟩⟩⟩
          · omega
          · rfl
          · skip
            exact sub_
      | true =>
        have hyes := whoUp_yes e1
        rw [e1] at ha
        rcases hc with ⟨h0, rfl, rfl, rfl⟩ | ⟨rfl, rfl, rfl⟩
        · rw [h0] at hyes ⊢
          refine go_ ?_
          with_reducible apply run_y
          exact want_
          · intro K hK
            refine ev_ ?_
            refine vcCall_plain (ha) (by kernel_rfl) ?_
            refine ev_ ?_
            exact hK
          refine go_ ?_
          with_reducible apply run_y
          exact want_
          · intro K hK
            refine ev_ ?_
            refine ⟨isP ([] ++ [i]), isP_app [] [i], appOk_is (l := []) (l' := [i]) rfl rfl rfl (by simp), ?_⟩
            conv => whnf
            refine Or.inl ?_
            refine ev_ ?_
            exact hK
          refine go_ ?_
          rw [hw]
          refine c_round ⟨_, _, _, _, ?_, ?_, ?_, ⟨i + 1, .own 3, h1, rfl, by rw [hyes], .inr ⟨rfl, rfl, by rw [hyes]⟩⟩⟩
          · omega
          · rfl
          · skip
            exact sub_
        · skip
          refine go_ ?_
          with_reducible apply run_y
          exact want_
          · intro K hK
            refine ev_ ?_
            refine vcCall_plain (ha) (by kernel_rfl) ?_
            refine ev_ ?_
            exact hK
          refine go_ ?_
          with_reducible apply run_y
          exact want_
          · intro K hK
            refine ev_ ?_
            refine ⟨isP (whoUp bs msg l i ++ [i]), isP_app _ [i], appOk_is (l' := [i]) rfl rfl rfl (by simp; omega), ?_⟩
            refine ev_ ?_
            exact hK
          refine go_ ?_
          rw [hw]
          refine c_round ⟨_, _, _, _, ?_, ?_, ?_, ⟨i + 1, .own 3, h1, rfl, by rw [hyes], .inr ⟨rfl, rfl, by rw [hyes]⟩⟩⟩
          · omega
          · rfl
          · skip
            exact sub_
    · have hil : i = bs.length := by omega
      subst hil
      have g1 : decide (((bs.length : Nat) : Int) < ((dsP bs).length : Int)) = false := decide_eq_false (by rw [hlen]; omega)
      rcases hc with ⟨h0, rfl, rfl, rfl⟩ | ⟨rfl, rfl, rfl⟩
      · skip
        refine go_ ?_
        refine ev_ ?_
        exact .mk (by rfl) trivial
      · skip
        refine go_ ?_
        refine ev_ ?_
        exact .mk (by rfl) trivial
set_option maxRecDepth 100000 in
set_option maxHeartbeats 2000000 in
theorem s_rqholds (bs : List D) (need : Int) (msg : D) (l : List Sd) (hb : bs.length ≤ 1000000) (hl : l.length ≤ 1000000) (hs : ∀ s ∈ l, s.2.2.2.length ≤ 1000000) : Spec (Ctx.mk Tryd.prog globX (0 + 1) Places) 20 [.agg (polP bs need), .agg (dP msg), .sl .any (sdsP l)] [] (.v (.bool (holdsE bs need msg l))) [] := by
  have q1 := s_rqright bs need hb
  have q2 := s_rwho bs need msg l hb hl hs
  have hq : holdsE bs need msg l = (qrightE bs need && decide (((isP (whoE bs msg l)).length : Int) ≥ need)) := by rw [isP_len]; rfl
  rw [hq]
  generalize whoE bs msg l = k at *
  refine spec_of_bodyL CX_mixed CX_gpk Tryd.func20 rfl 19 0 rfl rfl rfl rfl ?_
  refine go_ ?_
  with_reducible apply run_y
  exact want_
  · intro K hK
    refine ev_ ?_
    refine vcCall_plain (q1) (by kernel_rfl) ?_
    refine ev_ ?_
    exact hK
  refine go_ ?_
  cases e1 : qrightE bs need
  · skip
    refine go_ ?_
    refine ev_ ?_
    exact .mk (by rfl) trivial
  · skip
    refine go_ ?_
    with_reducible apply run_y
    exact want_
    · intro K hK
      refine ev_ ?_
      refine vcCall_plain (q2) (by kernel_rfl) ?_
      refine ev_ ?_
      exact hK
    refine go_ ?_
    refine ev_ ?_
    exact .mk (by rfl) trivial
end Go.Proofs.YtjokaennipmmaaaDoor
