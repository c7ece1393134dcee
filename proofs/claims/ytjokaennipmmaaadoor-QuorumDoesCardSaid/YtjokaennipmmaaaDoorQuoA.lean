import Derived.Test.YtjokaennipmmaaaDoorKeyT
import Derived.Test.YtjokaennipmmaaaDoorQuoP
import Derived.Test.YtjokaennipmmaaaDoorMapD
/- How many agree: policies, and the document's answer, walked over plain values. -/
namespace Go.Proofs.YtjokaennipmmaaaDoor
open Go.RowKit
set_option linter.unnecessarySimpa false
def polP (bs : List D) (need : Int) : List PV := [.sl .any (dsP bs), .v (.int .i64 need)]
def isP (l : List Nat) : List (List PV) := l.map fun (i : Nat) => [.v (.int .i64 (i : Int))]
theorem isP_len (l : List Nat) : (isP l).length = l.length := List.length_map _
theorem isP_at {l : List Nat} {j : Nat} (h : j < l.length) : (isP l)[j]? = some [.v (.int .i64 ((l.getD j 0 : Nat) : Int))] := by simp [isP, List.getD, h]
theorem isP_app (l l' : List Nat) : isP l ++ isP l' = isP (l ++ l') := by simp [isP]
theorem isP_wide (l : List Nat) (i : Nat) (h : i < (isP l).length) : ((isP l).getD i []).length = 1 := by
  rw [isP_len] at h
  simp [isP, List.getD, h]
theorem appOk_is {zs sz by_ : Nat} {l l' : List Nat} (hz : zs = 1) (hs : sz = 1) (hb : by_ = 8) (h : l.length + l'.length ≤ 1000000000) : AppOk zs sz by_ (isP l) (isP l') := by
  subst hz hs hb
  exact ⟨rfl, by omega, isP_wide l, isP_wide l', by rw [isP_len, isP_len]; simp only [maxLen]; omega, by rw [isP_len, isP_len]; omega⟩
/-- No two of the first i are the same. -/
def fresh (bs : List D) (i : Nat) : Prop := ∀ a b, a < i → b < a → bs.getD a D.zero ≠ bs.getD b D.zero
theorem fresh_zero (bs : List D) : fresh bs 0 := fun a b h _ => by omega
theorem fresh_next {bs : List D} {i : Nat} (h : fresh bs i) (k : ∀ b, b < i → bs.getD i D.zero ≠ bs.getD b D.zero) : fresh bs (i + 1) := fun a b ha hb => by
  by_cases e : a = i
  · subst e; exact k b hb
  · exact h a b (by omega) hb
theorem dup_not {bs : List D} (h : fresh bs bs.length) : dupE bs = false := by
  cases hd : dupE bs with
  | false => rfl
  | true =>
    unfold dupE at hd
    rw [List.any_eq_true] at hd
    obtain ⟨i, hi, h2⟩ := hd
    rw [List.any_eq_true] at h2
    obtain ⟨k, hk, h3⟩ := h2
    exact absurd (of_decide_eq_true h3) (h i k (List.mem_range.1 hi) (List.mem_range.1 hk))
theorem dup_yes {bs : List D} {i k : Nat} (hi : i < bs.length) (hk : k < i) (h : bs.getD i D.zero = bs.getD k D.zero) : dupE bs = true := by
  unfold dupE
  rw [List.any_eq_true]
  refine ⟨i, List.mem_range.2 hi, ?_⟩
  rw [List.any_eq_true]
  exact ⟨k, List.mem_range.2 hk, decide_eq_true h⟩
theorem qright_dup {bs : List D} {need : Int} (h : dupE bs = true) : qrightE bs need = false := by unfold qrightE; rw [h]; simp
theorem qright_no {bs : List D} {need : Int} (h : ¬ (1 ≤ bs.length ∧ bs.length ≤ 20 ∧ 1 ≤ need ∧ need ≤ (bs.length : Int))) : qrightE bs need = false := by
  cases hq : qrightE bs need with
  | false => rfl
  | true =>
    unfold qrightE at hq
    simp only [Bool.and_eq_true, decide_eq_true_eq] at hq
    exact absurd ⟨hq.1.1.1.1, hq.1.1.1.2, hq.1.1.2, hq.1.2⟩ h
theorem qright_yes {bs : List D} {need : Int} (h : 1 ≤ bs.length ∧ bs.length ≤ 20 ∧ 1 ≤ need ∧ need ≤ (bs.length : Int)) (hf : fresh bs bs.length) : qrightE bs need = true := by
  unfold qrightE
  rw [dup_not hf]
  simp only [Bool.and_eq_true, decide_eq_true_eq]
  exact ⟨⟨⟨⟨h.1, h.2.1⟩, h.2.2.1⟩, h.2.2.2⟩, rfl⟩
set_option maxRecDepth 100000 in
theorem s_bad (bs : List D) (need : Int) : Spec (Ctx.mk Tryd.prog globX (0 + 1) Places) 13 [.agg (polP bs need)] [] (.v (.int .i64 (IntKind.i64.wrap (need - 1)))) [] := by
  refine spec_of_bodyL CX_mixed CX_gpk Tryd.func13 rfl 6 0 rfl rfl rfl rfl ?_
  refine go_ ?_
  refine ev_ ?_
  exact .mk (by rfl) trivial
set_option maxRecDepth 100000 in
theorem s_rbad (bs : List D) (need : Int) : Spec (Ctx.mk Tryd.prog globX (0 + 1) Places) 14 [.agg (polP bs need)] [] (.v (.int .i64 (IntKind.i64.wrap (need - 1)))) [] := by
  refine spec_of_bodyL CX_mixed CX_gpk Tryd.func14 rfl 6 0 rfl rfl rfl rfl ?_
  refine go_ ?_
  refine ev_ ?_
  exact .mk (by rfl) trivial
set_option maxRecDepth 100000 in
set_option maxHeartbeats 2000000 in
theorem s_qright (bs : List D) (need : Int) (hl : bs.length ≤ 1000000) : Spec (Ctx.mk Tryd.prog globX (0 + 1) Places) 11 [.agg (polP bs need)] [] (.v (.bool (qrightE bs need))) [] := by
  have hlen := dsP_len bs
  refine spec_of_bodyL CX_mixed CX_gpk Tryd.func11 rfl 50 0 rfl rfl rfl rfl ?_
  refine go_ ?_
  cases g1 : decide (((dsP bs).length : Int) < 1)
  case true =>
    rw [qright_no (bs := bs) (need := need) (by have := of_decide_eq_true g1; rw [hlen] at this; omega)]
    refine go_ ?_
    refine ev_ ?_
    exact .mk (vb_eq (by simp)) trivial
  case false =>
    refine go_ ?_
    cases g2 : decide (((dsP bs).length : Int) > 20)
    case true =>
      rw [qright_no (bs := bs) (need := need) (by have := of_decide_eq_true g2; rw [hlen] at this; omega)]
      refine go_ ?_
      refine ev_ ?_
      exact .mk (vb_eq (by simp)) trivial
    case false =>
      refine go_ ?_
      cases g3 : decide (need < 1)
      case true =>
        rw [qright_no (bs := bs) (need := need) (by have := of_decide_eq_true g3; omega)]
        refine go_ ?_
        refine ev_ ?_
        exact .mk (vb_eq (by simp)) trivial
      case false =>
        refine go_ ?_
        cases g4 : decide (need > ((dsP bs).length : Int))
        case true =>
          rw [qright_no (bs := bs) (need := need) (by have := of_decide_eq_true g4; rw [hlen] at this; omega)]
          refine go_ ?_
          refine ev_ ?_
          exact .mk (vb_eq (by simp)) trivial
        case false =>
          have hr : 1 ≤ bs.length ∧ bs.length ≤ 20 ∧ 1 ≤ need ∧ need ≤ (bs.length : Int) := by
            have h1 := of_decide_eq_false g1; have h2 := of_decide_eq_false g2; have h3 := of_decide_eq_false g3; have h4 := of_decide_eq_false g4
            rw [hlen] at h1 h2 h4
            omega
          clear g1 g2 g3 g4
          refine go_ ?_
          refine c_loop (fun f q m h => ∃ i : Nat, i ≤ bs.length ∧ fresh bs i ∧ f = bs.length - i ∧ q = [.top, .ptr 1 0, .v (.bool false)] ++ List.replicate 26 .top ++ [.sl .any (dsP bs), .v (.int .i64 ((dsP bs).length : Int)), .v (.int .i64 (i : Int))] ++ List.replicate 18 .top ∧ m = 2 ∧ h = [(1, .cells (polP bs need))])
            ⟨_, _, _, _, ?_, ?_, ⟨0, Nat.zero_le _, fresh_zero bs, rfl, rfl, rfl, rfl⟩⟩ ?_
          · rfl
          · skip
            exact sub_
          · rintro f q m h hlen2 ⟨i, hi, hf, rfl, rfl, rfl, rfl⟩
            clear hlen2
            by_cases h1 : i < bs.length
            · have g1 : decide ((i : Int) < ((dsP bs).length : Int)) = true := decide_eq_true (by rw [hlen]; omega)
              have htk := dsP_take bs i
              have hti : (bs.take i).length = i := by rw [List.length_take]; omega
              have hw : IntKind.i64.wrap ((i : Int) + 1) = ((i + 1 : Nat) : Int) := by rw [wrap64 (by omega) (by omega)]; omega
              refine go_ ?_
              with_reducible apply run_y
              exact want_
              · intro K hK
                refine ev_ ?_
                refine ⟨0, i, dsP (bs.take i), rfl, rfl, Nat.zero_le _, by rw [hlen]; omega, ⟨_, _, rfl, rfl, .inl rfl⟩, htk, ?_⟩
                refine ev_ ?_
                exact hK
              refine go_ ?_
              refine c_loop (fun f q m h => ∃ k : Nat, k ≤ i ∧ (∀ b, b < k → bs.getD i D.zero ≠ bs.getD b D.zero) ∧ f = i - k ∧ q = [.top, .ptr 1 0, .v (.bool false), .top, .v (.int .i64 (i : Int)), .ptr 2 0] ++ List.replicate 23 .top ++ [.sl .any (dsP bs), .v (.int .i64 ((dsP bs).length : Int)), .v (.int .i64 (i : Int))] ++ List.replicate 7 .top ++ [.sl .any (dsP (bs.take i)), .v (.int .i64 ((dsP (bs.take i)).length : Int)), .v (.int .i64 (k : Int))] ++ List.replicate 8 .top ∧ m = 3 ∧ h = [(1, .cells (polP bs need)), (2, .cells (dP (bs.getD i D.zero)))])
                ⟨_, _, _, _, ?_, ?_, ⟨0, Nat.zero_le _, fun b hb => by omega, rfl, rfl, rfl, rfl⟩⟩ ?_
              · rfl
              · skip
                exact sub_
              · rintro f q m h hlen2 ⟨k, hk, hn, rfl, rfl, rfl, rfl⟩
                clear hlen2
                by_cases h2 : k < i
                · have g2 : decide ((k : Int) < ((dsP (bs.take i)).length : Int)) = true := decide_eq_true (by rw [dsP_len, hti]; omega)
                  have hkt : k < (bs.take i).length := by omega
                  have hgk : (bs.take i).getD k D.zero = bs.getD k D.zero := by simp only [List.getD, List.getElem?_take_of_lt h2]
                  have hw2 : IntKind.i64.wrap ((k : Int) + 1) = ((k + 1 : Nat) : Int) := by rw [wrap64 (by omega) (by omega)]; omega
                  refine go_ ?_
                  rw [hgk]
                  cases g3 : decide (bs.getD i D.zero = bs.getD k D.zero)
                  case true =>
                    rw [qright_dup (need := need) (dup_yes h1 h2 (of_decide_eq_true g3))]
                    refine go_ ?_
                    refine ev_ ?_
                    exact .mk (by rfl) trivial
                  case false =>
                    have hne := of_decide_eq_false g3
                    refine go_ ?_
                    rw [hw2]
                    refine c_round ⟨_, _, _, _, ?_, ?_, ?_, ⟨k + 1, h2, fun b hb => by
                      by_cases e : b = k
                      · subst e; exact hne
                      · exact hn b (by omega), rfl, rfl, rfl, rfl⟩⟩
                    · omega
                    · rfl
                    · skip
                      exact sub_
                · have hki : k = i := by omega
                  subst hki
                  have g2 : decide ((k : Int) < ((dsP (bs.take k)).length : Int)) = false := decide_eq_false (by rw [dsP_len, hti]; omega)
                  refine go_ ?_
                  rw [hw]
                  refine c_round ⟨_, _, _, _, ?_, ?_, ?_, ⟨k + 1, h1, fresh_next hf hn, rfl, rfl, rfl, rfl⟩⟩
                  · omega
                  · rfl
                  · skip
                    exact sub_
            · have hil : i = bs.length := by omega
              subst hil
              have g1 : decide (((bs.length : Nat) : Int) < ((dsP bs).length : Int)) = false := decide_eq_false (by rw [hlen]; omega)
              rw [qright_yes hr hf]
              refine go_ ?_
              refine ev_ ?_
              exact .mk (by rfl) trivial
set_option maxRecDepth 100000 in
set_option maxHeartbeats 2000000 in
theorem s_rqright (bs : List D) (need : Int) (hl : bs.length ≤ 1000000) : Spec (Ctx.mk Tryd.prog globX (0 + 1) Places) 12 [.agg (polP bs need)] [] (.v (.bool (qrightE bs need))) [] := by
  have hlen := dsP_len bs
  refine spec_of_bodyL CX_mixed CX_gpk Tryd.func12 rfl 55 0 rfl rfl rfl rfl ?_
  refine go_ ?_
  refine c_loop (fun f q m h => ∃ i : Nat, i ≤ bs.length ∧ i ≤ 21 ∧ fresh bs i ∧ f = bs.length - i ∧ q = [.top, .ptr 1 0, .v (.bool false), .v (.int .i64 (i : Int))] ++ List.replicate 51 .top ∧ m = 2 ∧ h = [(1, .cells (polP bs need))])
    ⟨_, _, _, _, ?_, ?_, ⟨0, Nat.zero_le _, Nat.zero_le _, fresh_zero bs, rfl, rfl, rfl, rfl⟩⟩ ?_
  · rfl
  · skip
    exact sub_
  · rintro f q m h hlen2 ⟨i, hi, hi21, hf, rfl, rfl, rfl, rfl⟩
    clear hlen2
    by_cases h1 : i < bs.length ∧ i < 21
    · obtain ⟨h1, h21⟩ := h1
      have g1 : decide ((i : Int) < ((dsP bs).length : Int)) = true := decide_eq_true (by rw [hlen]; omega)
      have g2 : decide ((i : Int) < 21) = true := decide_eq_true (by omega)
      have hw : IntKind.i64.wrap ((i : Int) + 1) = ((i + 1 : Nat) : Int) := by rw [wrap64 (by omega) (by omega)]; omega
      have hcd : (bif decide ((i : Int) < ((dsP bs).length : Int)) then decide ((i : Int) < 21) else false) = true := by rw [g1, g2]; rfl
      refine go_ ?_
      refine c_loop (fun f q m h => ∃ k : Nat, k ≤ i ∧ (∀ b, b < k → bs.getD i D.zero ≠ bs.getD b D.zero) ∧ f = i - k ∧ q = [.top, .ptr 1 0, .v (.bool false), .v (.int .i64 (i : Int)), .v (.int .i64 (k : Int))] ++ List.replicate 50 .top ∧ m = 2 ∧ h = [(1, .cells (polP bs need))])
        ⟨_, _, _, _, ?_, ?_, ⟨0, Nat.zero_le _, fun b hb => by omega, rfl, rfl, rfl, rfl⟩⟩ ?_
      · rfl
      · skip
        exact sub_
      · rintro f q m h hlen2 ⟨k, hk, hn, rfl, rfl, rfl, rfl⟩
        clear hlen2
        by_cases h2 : k < i
        · have g3 : decide ((k : Int) < (i : Int)) = true := decide_eq_true (by omega)
          have hkl : k < bs.length := by omega
          have hw2 : IntKind.i64.wrap ((k : Int) + 1) = ((k + 1 : Nat) : Int) := by rw [wrap64 (by omega) (by omega)]; omega
          refine go_ ?_
          cases g4 : decide (bs.getD i D.zero = bs.getD k D.zero)
          case true =>
            rw [qright_dup (need := need) (dup_yes h1 h2 (of_decide_eq_true g4))]
            refine go_ ?_
            refine ev_ ?_
            exact .mk (by rfl) trivial
          case false =>
            have hne := of_decide_eq_false g4
            refine go_ ?_
            rw [hw2]
            refine c_round ⟨_, _, _, _, ?_, ?_, ?_, ⟨k + 1, h2, fun b hb => by
              by_cases e : b = k
              · subst e; exact hne
              · exact hn b (by omega), rfl, rfl, rfl, rfl⟩⟩
            · omega
            · rfl
            · skip
              exact sub_
        · have hki : k = i := by omega
          subst hki
          have g3 : decide ((k : Int) < (k : Int)) = false := decide_eq_false (by omega)
          refine go_ ?_
          rw [hw]
          refine c_round ⟨_, _, _, _, ?_, ?_, ?_, ⟨k + 1, h1, by omega, fresh_next hf hn, rfl, rfl, rfl, rfl⟩⟩
          · omega
          · rfl
          · skip
            exact sub_
    · have hend : (i = bs.length ∧ bs.length ≤ 21) ∨ (21 ≤ bs.length ∧ i = 21) := by omega
      have q1 : qrightE bs need = (decide (((dsP bs).length : Int) ≥ 1) && decide (((dsP bs).length : Int) ≤ 20) && decide (need ≥ 1) && decide (need ≤ ((dsP bs).length : Int))) := by
        rw [hlen]
        by_cases hr : 1 ≤ bs.length ∧ bs.length ≤ 20 ∧ 1 ≤ need ∧ need ≤ (bs.length : Int)
        · rw [qright_yes hr (by rcases hend with ⟨e, _⟩ | ⟨e, _⟩ <;> first | (subst e; exact hf) | omega)]
          rw [decide_eq_true (by omega), decide_eq_true (by omega), decide_eq_true (by omega), decide_eq_true (by omega)]; rfl
        · rw [qright_no hr]
          symm
          simp only [Bool.and_eq_false_iff, decide_eq_false_iff_not]
          omega
      rw [q1]
      have ho : ∀ (P : Prop), (decide ((i : Int) < ((dsP bs).length : Int)) = true → decide ((i : Int) < 21) = false → P) → (decide ((i : Int) < ((dsP bs).length : Int)) = false → P) → P := fun P ha hb => by
        cases hc : decide ((i : Int) < ((dsP bs).length : Int)) with
        | false => exact hb hc
        | true => exact ha hc (decide_eq_false (by have := of_decide_eq_true hc; rw [hlen] at this; omega))
      refine ho _ (fun g1 g2 => ?_) (fun g1 => ?_)
      all_goals
        have hcd : (bif decide ((i : Int) < ((dsP bs).length : Int)) then decide ((i : Int) < 21) else false) = false := by rw [g1]; first | rfl | (rw [g2]; rfl)
        refine go_ ?_
        cases c1 : decide (((dsP bs).length : Int) ≥ 1)
        · skip
          refine go_ ?_
          refine ev_ ?_
          exact .mk (vb_eq (by simp)) trivial
        refine go_ ?_
        cases c2 : decide (((dsP bs).length : Int) ≤ 20)
        · skip
          refine go_ ?_
          refine ev_ ?_
          exact .mk (vb_eq (by simp)) trivial
        refine go_ ?_
        cases c3 : decide (need ≥ 1)
        · skip
          refine go_ ?_
          refine ev_ ?_
          exact .mk (vb_eq (by simp)) trivial
        refine go_ ?_
        refine ev_ ?_
        exact .mk (vb_eq (by simp)) trivial
end Go.Proofs.YtjokaennipmmaaaDoor
/- Who agrees, the document's answer, walked over plain values. -/
namespace Go.Proofs.YtjokaennipmmaaaDoor
open Go.RowKit
set_option linter.unnecessarySimpa false
def agE (b msg : D) (s : Sd) : Bool := decide (s.1 = b) && kcheckE b msg s.2
theorem agrees_not {b msg : D} {l : List Sd} (h : ∀ i, i < l.length → agE b msg (l.getD i zeroSd) = false) : agreesE b msg l = false := by
  cases ha : agreesE b msg l with
  | false => rfl
  | true =>
    unfold agreesE at ha
    rw [List.any_eq_true] at ha
    obtain ⟨s, hs, h1⟩ := ha
    obtain ⟨i, hi, rfl⟩ := List.mem_iff_getElem.1 hs
    have h2 := h i hi
    have e : l.getD i zeroSd = l[i] := by rw [List.getD_eq_getElem?_getD, List.getElem?_eq_getElem hi]; rfl
    rw [e] at h2
    unfold agE at h2
    rw [h1] at h2; cases h2
theorem agrees_yes {b msg : D} {l : List Sd} {i : Nat} (hi : i < l.length) (h : agE b msg (l.getD i zeroSd) = true) : agreesE b msg l = true := by
  unfold agreesE
  rw [List.any_eq_true]
  have e : l.getD i zeroSd = l[i] := by rw [List.getD_eq_getElem?_getD, List.getElem?_eq_getElem hi]; rfl
  rw [e] at h
  exact ⟨l[i], List.getElem_mem hi, h⟩
theorem sd_mem {l : List Sd} {i : Nat} (hi : i < l.length) : l.getD i zeroSd ∈ l := by
  rw [List.getD_eq_getElem?_getD, List.getElem?_eq_getElem hi]; exact List.getElem_mem hi
theorem agE_eq (b msg sb : D) (sg : Sg) : agE b msg (sb, sg) = (decide (sb = b) && kcheckE b msg sg) := rfl
set_option maxRecDepth 100000 in
set_option maxHeartbeats 2000000 in
theorem s_ragrees (b msg : D) (l : List Sd) (hl : l.length ≤ 1000000) (hs : ∀ s ∈ l, s.2.2.2.length ≤ 1000000) : Spec (Ctx.mk Tryd.prog globX (0 + 1) Places) 24 [.agg (dP b), .agg (dP msg), .sl .any (sdsP l)] [] (.v (.bool (agreesE b msg l))) [] := by
  have hlen := sdsP_len l
  refine spec_of_bodyL CX_mixed CX_gpk Tryd.func24 rfl 31 0 rfl rfl rfl rfl ?_
  refine go_ ?_
  refine c_loop (fun f q m h => ∃ j : Nat, j ≤ l.length ∧ (∀ i, i < j → agE b msg (l.getD i zeroSd) = false) ∧ f = l.length - j ∧ q = [.top, .top, .sl .any (sdsP l), .ptr 1 0, .ptr 2 0, .top, .v (.bool false), .v (.int .i64 (j : Int))] ++ List.replicate 23 .top ∧ m = 3 ∧ h = [(1, .cells (dP b)), (2, .cells (dP msg))])
    ⟨_, _, _, _, ?_, ?_, ⟨0, Nat.zero_le _, fun i hi => by omega, rfl, rfl, rfl, rfl⟩⟩ ?_
  · rfl
  · skip
    exact sub_
  · rintro f q m h hlen2 ⟨j, hj, hn, rfl, rfl, rfl, rfl⟩
    clear hlen2
    by_cases h1 : j < l.length
    · have g1 : decide ((j : Int) < ((sdsP l).length : Int)) = true := decide_eq_true (by rw [hlen]; omega)
      have hw : IntKind.i64.wrap ((j : Int) + 1) = ((j + 1 : Nat) : Int) := by rw [wrap64 (by omega) (by omega)]; omega
      have hat := sdsP_at h1
      have hsl := hs _ (sd_mem h1)
      have hyes := agrees_yes (b := b) (msg := msg) h1
      have hnext : agE b msg (l.getD j zeroSd) = false → ∀ i, i < j + 1 → agE b msg (l.getD i zeroSd) = false := fun h i hi => by
        by_cases e : i = j
        · subst e; exact h
        · exact hn i (by omega)
      generalize l.getD j zeroSd = s at *
      obtain ⟨sb, si, so, sp⟩ := s
      rw [agE_eq] at hyes hnext
      have hk := s_rkcheck b msg (si, so, sp) hsl
      refine go_ ?_
      with_reducible apply run_y
      exact want_
      · intro K hK
        refine ev_ ?_
        refine ⟨j, _, rfl, hat, rfl, ?_⟩
        refine ev_ ?_
        exact hK
      refine go_ ?_
      cases e1 : decide (sb = b)
      case false =>
        replace hnext := hnext (by rw [e1]; rfl)
        refine go_ ?_
        rw [hw]
        refine c_round ⟨_, _, _, _, ?_, ?_, ?_, ⟨j + 1, h1, hnext, rfl, rfl, rfl, rfl⟩⟩
        · omega
        · rfl
        · skip
          exact sub_
      case true =>
        rw [e1, Bool.true_and] at hyes hnext
        refine go_ ?_
        with_reducible apply run_y
        exact want_
        · intro K hK
          refine ev_ ?_
          refine ⟨j, _, rfl, hat, rfl, ?_⟩
          refine ev_ ?_
          exact hK
        refine go_ ?_
        with_reducible apply run_y
        exact want_
        · intro K hK
          refine ev_ ?_
          refine vcCall_plain (hk) (by kernel_rfl) ?_
          refine ev_ ?_
          exact hK
        refine go_ ?_
        cases e2 : kcheckE b msg (si, so, sp)
        case false =>
          replace hnext := hnext e2
          refine go_ ?_
          rw [hw]
          refine c_round ⟨_, _, _, _, ?_, ?_, ?_, ⟨j + 1, h1, hnext, rfl, rfl, rfl, rfl⟩⟩
          · omega
          · rfl
          · skip
            exact sub_
        case true =>
          rw [hyes e2]
          refine go_ ?_
          refine ev_ ?_
          exact .mk (by rfl) trivial
    · have hjl : j = l.length := by omega
      subst hjl
      have g1 : decide (((l.length : Nat) : Int) < ((sdsP l).length : Int)) = false := decide_eq_false (by rw [hlen]; omega)
      rw [agrees_not hn]
      refine go_ ?_
      refine ev_ ?_
      exact .mk (by rfl) trivial
/-- Who of the first i builders agrees. -/
def whoUp (bs : List D) (msg : D) (l : List Sd) (i : Nat) : List Nat := (List.range i).filter fun i => agreesE (bs.getD i D.zero) msg l
theorem whoUp_len (bs : List D) (msg : D) (l : List Sd) (i : Nat) : (whoUp bs msg l i).length ≤ i := by
  unfold whoUp
  have := List.length_filter_le (fun i => agreesE (bs.getD i D.zero) msg l) (List.range i)
  rwa [List.length_range] at this
theorem whoUp_yes {bs : List D} {msg : D} {l : List Sd} {i : Nat} (h : agreesE (bs.getD i D.zero) msg l = true) : whoUp bs msg l (i + 1) = whoUp bs msg l i ++ [i] := by
  unfold whoUp
  rw [List.range_succ, List.filter_append, List.filter_cons, if_pos h]; rfl
theorem whoUp_no {bs : List D} {msg : D} {l : List Sd} {i : Nat} (h : agreesE (bs.getD i D.zero) msg l = false) : whoUp bs msg l (i + 1) = whoUp bs msg l i := by
  unfold whoUp
  rw [List.range_succ, List.filter_append, List.filter_cons, if_neg (by rw [h]; decide)]; simp
set_option maxRecDepth 100000 in
set_option maxHeartbeats 2000000 in
theorem s_rwho (bs : List D) (need : Int) (msg : D) (l : List Sd) (hb : bs.length ≤ 1000000) (hl : l.length ≤ 1000000) (hs : ∀ s ∈ l, s.2.2.2.length ≤ 1000000) : Spec (Ctx.mk Tryd.prog globX (0 + 1) Places) 18 [.agg (polP bs need), .agg (dP msg), .sl .any (sdsP l)] [] (.sl .any (isP (whoE bs msg l))) [] := by
  have hlen := dsP_len bs
  show Spec _ _ _ _ (.sl .any (isP (whoUp bs msg l bs.length))) _
  refine spec_of_bodyL CX_mixed CX_gpk Tryd.func18 rfl 29 0 rfl rfl rfl rfl ?_
  refine go_ ?_
  refine c_loop (fun f q m h => ∃ i : Nat, ∃ κ, i ≤ bs.length ∧ f = bs.length - i ∧ q = [.top, .top, .sl .any (sdsP l), .ptr 1 0, .ptr 2 0, .top, .sl .full [], .sl κ (isP (whoUp bs msg l i)), .v (.int .i64 (i : Int))] ++ List.replicate 20 .top ∧
      ((whoUp bs msg l i = [] ∧ κ = .full ∧ m = 3 ∧ h = [(1, .cells (polP bs need)), (2, .cells (dP msg))]) ∨ (κ = .own 3 ∧ m = 4 ∧ h = [(1, .cells (polP bs need)), (2, .cells (dP msg)), (3, .row (isP (whoUp bs msg l i)).length 3)])))
    ⟨_, _, _, _, ?_, ?_, ⟨0, .full, Nat.zero_le _, rfl, rfl, .inl ⟨rfl, rfl, rfl, rfl⟩⟩⟩ ?_
  · rfl
  · skip
    exact sub_
  · rintro f q m h hlen2 ⟨i, κ, hi, rfl, rfl, hc⟩
    clear hlen2
    by_cases h1 : i < bs.length
    · have g1 : decide ((i : Int) < ((dsP bs).length : Int)) = true := decide_eq_true (by rw [hlen]; omega)
      have hw : IntKind.i64.wrap ((i : Int) + 1) = ((i + 1 : Nat) : Int) := by rw [wrap64 (by omega) (by omega)]; omega
      have ha := s_ragrees (bs.getD i D.zero) msg l hl hs
      have hup := whoUp_len bs msg l i
      cases e1 : agreesE (bs.getD i D.zero) msg l with
      | false =>
        have hno := whoUp_no e1
        rw [e1] at ha
        rcases hc with ⟨h0, rfl, rfl, rfl⟩ | ⟨rfl, rfl, rfl⟩
        · skip
          refine go_ ?_
          with_reducible apply run_y
          exact want_
          · intro K hK
            refine ev_ ?_
            refine vcCall_plain (ha) (by kernel_rfl) ?_
            refine ev_ ?_
            exact hK
          refine go_ ?_
          rw [hw]
          refine c_round ⟨_, _, _, _, ?_, ?_, ?_, ⟨i + 1, .full, h1, rfl, by rw [hno], .inl ⟨hno.trans h0, rfl, rfl, rfl⟩⟩⟩
          · omega
          · rfl
          · skip
            exact sub_
        · skip
          refine go_ ?_
          with_reducible apply run_y
          exact want_
          · intro K hK
            refine ev_ ?_
            refine vcCall_plain (ha) (by kernel_rfl) ?_
            refine ev_ ?_
            exact hK
          refine go_ ?_
          rw [hw]
          refine c_round ⟨_, _, _, _, ?_, ?_, ?_, ⟨i + 1, .own 3, h1, rfl, by rw [hno], .inr ⟨rfl, rfl, by rw [hno]⟩⟩⟩
          · omega
          · rfl
          · skip
            exact sub_
      | true =>
        have hyes := whoUp_yes e1
        rw [e1] at ha
        rcases hc with ⟨h0, rfl, rfl, rfl⟩ | ⟨rfl, rfl, rfl⟩
        · rw [h0] at hyes ⊢
          refine go_ ?_
          with_reducible apply run_y
          exact want_
          · intro K hK
            refine ev_ ?_
            refine vcCall_plain (ha) (by kernel_rfl) ?_
            refine ev_ ?_
            exact hK
          refine go_ ?_
          with_reducible apply run_y
          exact want_
          · intro K hK
            refine ev_ ?_
            refine ⟨isP ([] ++ [i]), isP_app [] [i], appOk_is (l := []) (l' := [i]) rfl rfl rfl (by simp), ?_⟩
            conv => whnf
            refine Or.inl ?_
            refine ev_ ?_
            exact hK
          refine go_ ?_
          rw [hw]
          refine c_round ⟨_, _, _, _, ?_, ?_, ?_, ⟨i + 1, .own 3, h1, rfl, by rw [hyes], .inr ⟨rfl, rfl, by rw [hyes]⟩⟩⟩
          · omega
          · rfl
          · skip
            exact sub_
        · skip
          refine go_ ?_
          with_reducible apply run_y
          exact want_
          · intro K hK
            refine ev_ ?_
            refine vcCall_plain (ha) (by kernel_rfl) ?_
            refine ev_ ?_
            exact hK
          refine go_ ?_
          with_reducible apply run_y
          exact want_
          · intro K hK
            refine ev_ ?_
            refine ⟨isP (whoUp bs msg l i ++ [i]), isP_app _ [i], appOk_is (l' := [i]) rfl rfl rfl (by simp; omega), ?_⟩
            refine ev_ ?_
            exact hK
          refine go_ ?_
          rw [hw]
          refine c_round ⟨_, _, _, _, ?_, ?_, ?_, ⟨i + 1, .own 3, h1, rfl, by rw [hyes], .inr ⟨rfl, rfl, by rw [hyes]⟩⟩⟩
          · omega
          · rfl
          · skip
            exact sub_
    · have hil : i = bs.length := by omega
      subst hil
      have g1 : decide (((bs.length : Nat) : Int) < ((dsP bs).length : Int)) = false := decide_eq_false (by rw [hlen]; omega)
      rcases hc with ⟨h0, rfl, rfl, rfl⟩ | ⟨rfl, rfl, rfl⟩
      · skip
        refine go_ ?_
        refine ev_ ?_
        exact .mk (by rfl) trivial
      · skip
        refine go_ ?_
        refine ev_ ?_
        exact .mk (by rfl) trivial
set_option maxRecDepth 100000 in
set_option maxHeartbeats 2000000 in
theorem s_rqholds (bs : List D) (need : Int) (msg : D) (l : List Sd) (hb : bs.length ≤ 1000000) (hl : l.length ≤ 1000000) (hs : ∀ s ∈ l, s.2.2.2.length ≤ 1000000) : Spec (Ctx.mk Tryd.prog globX (0 + 1) Places) 20 [.agg (polP bs need), .agg (dP msg), .sl .any (sdsP l)] [] (.v (.bool (holdsE bs need msg l))) [] := by
  have q1 := s_rqright bs need hb
  have q2 := s_rwho bs need msg l hb hl hs
  have hq : holdsE bs need msg l = (qrightE bs need && decide (((isP (whoE bs msg l)).length : Int) ≥ need)) := by rw [isP_len]; rfl
  rw [hq]
  generalize whoE bs msg l = k at *
  refine spec_of_bodyL CX_mixed CX_gpk Tryd.func20 rfl 19 0 rfl rfl rfl rfl ?_
  refine go_ ?_
  with_reducible apply run_y
  exact want_
  · intro K hK
    refine ev_ ?_
    refine vcCall_plain (q1) (by kernel_rfl) ?_
    refine ev_ ?_
    exact hK
  refine go_ ?_
  cases e1 : qrightE bs need
  · skip
    refine go_ ?_
    refine ev_ ?_
    exact .mk (by rfl) trivial
  · skip
    refine go_ ?_
    with_reducible apply run_y
    exact want_
    · intro K hK
      refine ev_ ?_
      refine vcCall_plain (q2) (by kernel_rfl) ?_
      refine ev_ ?_
      exact hK
    refine go_ ?_
    refine ev_ ?_
    exact .mk (by rfl) trivial
end Go.Proofs.YtjokaennipmmaaaDoor
