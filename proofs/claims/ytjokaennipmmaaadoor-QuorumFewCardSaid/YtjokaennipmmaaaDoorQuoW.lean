import Derived.Test.YtjokaennipmmaaaDoorKeyT
import Derived.Test.YtjokaennipmmaaaDoorQuoP
import Derived.Test.YtjokaennipmmaaaDoorMapD
/- How many agree: policies, and the document's answer, walked over plain values. -/
namespace Go.Proofs.YtjokaennipmmaaaDoor
open Go.RowKit
set_option linter.unnecessarySimpa false
def polP (bs : List D) (need : Int) : List PV := [.sl .any (dsP bs), .v (.int .i64 need)]
def isP (l : List Nat) : List (List PV) := l.map fun (i : Nat) => [.v (.int .i64 (i : Int))]
theorem isP_len (l : List Nat) : (isP l).length = l.length := List.length_map _
theorem isP_at {l : List Nat} {j : Nat} (h : j < l.length) : (isP l)[j]? = some [.v (.int .i64 ((l.getD j 0 : Nat) : Int))] := by simp [isP, List.getD, h]
theorem isP_app (l l' : List Nat) : isP l ++ isP l' = isP (l ++ l') := by simp [isP]
theorem isP_wide (l : List Nat) (i : Nat) (h : i < (isP l).length) : ((isP l).getD i []).length = 1 := by
  rw [isP_len] at h
  simp [isP, List.getD, h]
theorem appOk_is {zs sz by_ : Nat} {l l' : List Nat} (hz : zs = 1) (hs : sz = 1) (hb : by_ = 8) (h : l.length + l'.length ≤ 1000000000) : AppOk zs sz by_ (isP l) (isP l') := by
  subst hz hs hb
  exact ⟨rfl, by omega, isP_wide l, isP_wide l', by rw [isP_len, isP_len]; simp only [maxLen]; omega, by rw [isP_len, isP_len]; omega⟩
/-- No two of the first i are the same. -/
def fresh (bs : List D) (i : Nat) : Prop := ∀ a b, a < i → b < a → bs.getD a D.zero ≠ bs.getD b D.zero
theorem fresh_zero (bs : List D) : fresh bs 0 := fun a b h _ => by omega
theorem fresh_next {bs : List D} {i : Nat} (h : fresh bs i) (k : ∀ b, b < i → bs.getD i D.zero ≠ bs.getD b D.zero) : fresh bs (i + 1) := fun a b ha hb => by
  by_cases e : a = i
  · subst e; exact k b hb
  · exact h a b (by omega) hb
theorem dup_not {bs : List D} (h : fresh bs bs.length) : dupE bs = false := by
  cases hd : dupE bs with
  | false => rfl
  | true =>
    unfold dupE at hd
    rw [List.any_eq_true] at hd
    obtain ⟨i, hi, h2⟩ := hd
    rw [List.any_eq_true] at h2
    obtain ⟨k, hk, h3⟩ := h2
    exact absurd (of_decide_eq_true h3) (h i k (List.mem_range.1 hi) (List.mem_range.1 hk))
theorem dup_yes {bs : List D} {i k : Nat} (hi : i < bs.length) (hk : k < i) (h : bs.getD i D.zero = bs.getD k D.zero) : dupE bs = true := by
  unfold dupE
  rw [List.any_eq_true]
  refine ⟨i, List.mem_range.2 hi, ?_⟩
  rw [List.any_eq_true]
  exact ⟨k, List.mem_range.2 hk, decide_eq_true h⟩
theorem qright_dup {bs : List D} {need : Int} (h : dupE bs = true) : qrightE bs need = false := by unfold qrightE; rw [h]; simp
theorem qright_no {bs : List D} {need : Int} (h : ¬ (1 ≤ bs.length ∧ bs.length ≤ 20 ∧ 1 ≤ need ∧ need ≤ (bs.length : Int))) : qrightE bs need = false := by
  cases hq : qrightE bs need with
  | false => rfl
  | true =>
    unfold qrightE at hq
    simp only [Bool.and_eq_true, decide_eq_true_eq] at hq
    exact absurd ⟨hq.1.1.1.1, hq.1.1.1.2, hq.1.1.2, hq.1.2⟩ h
theorem qright_yes {bs : List D} {need : Int} (h : 1 ≤ bs.length ∧ bs.length ≤ 20 ∧ 1 ≤ need ∧ need ≤ (bs.length : Int)) (hf : fresh bs bs.length) : qrightE bs need = true := by
  unfold qrightE
  rw [dup_not hf]
  simp only [Bool.and_eq_true, decide_eq_true_eq]
  exact ⟨⟨⟨⟨h.1, h.2.1⟩, h.2.2.1⟩, h.2.2.2⟩, rfl⟩
set_option maxRecDepth 100000 in
theorem s_bad (bs : List D) (need : Int) : Spec (Ctx.mk Tryd.prog globX (0 + 1) Places) 13 [.agg (polP bs need)] [] (.v (.int .i64 (IntKind.i64.wrap (need - 1)))) [] := by
  refine spec_of_bodyL CX_mixed CX_gpk Tryd.func13 rfl 6 0 rfl rfl rfl rfl ?_
  refine go_ ?_
  refine ev_ ?_
  exact .mk (by rfl) trivial
set_option maxRecDepth 100000 in
theorem s_rbad (bs : List D) (need : Int) : Spec (Ctx.mk Tryd.prog globX (0 + 1) Places) 14 [.agg (polP bs need)] [] (.v (.int .i64 (IntKind.i64.wrap (need - 1)))) [] := by
  refine spec_of_bodyL CX_mixed CX_gpk Tryd.func14 rfl 6 0 rfl rfl rfl rfl ?_
  refine go_ ?_
  refine ev_ ?_
  exact .mk (by rfl) trivial
set_option maxRecDepth 100000 in
set_option maxHeartbeats 2000000 in
theorem s_qright (bs : List D) (need : Int) (hl : bs.length ≤ 1000000) : Spec (Ctx.mk Tryd.prog globX (0 + 1) Places) 11 [.agg (polP bs need)] [] (.v (.bool (qrightE bs need))) [] := by
  have hlen := dsP_len bs
  refine spec_of_bodyL CX_mixed CX_gpk Tryd.func11 rfl 50 0 rfl rfl rfl rfl ?_
  refine go_ ?_
  cases g1 : decide (((dsP bs).length : Int) < 1)
  case true =>
    rw [qright_no (bs := bs) (need := need) (by have := of_decide_eq_true g1; rw [hlen] at this; omega)]
    refine go_ ?_
    refine ev_ ?_
    exact .mk (vb_eq (by simp)) trivial
  case false =>
    refine go_ ?_
    cases g2 : decide (((dsP bs).length : Int) > 20)
    case true =>
      rw [qright_no (bs := bs) (need := need) (by have := of_decide_eq_true g2; rw [hlen] at this; omega)]
      refine go_ ?_
      refine ev_ ?_
      exact .mk (vb_eq (by simp)) trivial
    case false =>
      refine go_ ?_
      cases g3 : decide (need < 1)
      case true =>
        rw [qright_no (bs := bs) (need := need) (by have := of_decide_eq_true g3; omega)]
        refine go_ ?_
        refine ev_ ?_
        exact .mk (vb_eq (by simp)) trivial
      case false =>
        refine go_ ?_
        cases g4 : decide (need > ((dsP bs).length : Int))
        case true =>
          rw [qright_no (bs := bs) (need := need) (by have := of_decide_eq_true g4; rw [hlen] at this; omega)]
          refine go_ ?_
          refine ev_ ?_
          exact .mk (vb_eq (by simp)) trivial
        case false =>
          have hr : 1 ≤ bs.length ∧ bs.length ≤ 20 ∧ 1 ≤ need ∧ need ≤ (bs.length : Int) := by
            have h1 := of_decide_eq_false g1; have h2 := of_decide_eq_false g2; have h3 := of_decide_eq_false g3; have h4 := of_decide_eq_false g4
            rw [hlen] at h1 h2 h4
            omega
          clear g1 g2 g3 g4
          refine go_ ?_
          refine c_loop (fun f q m h => ∃ i : Nat, i ≤ bs.length ∧ fresh bs i ∧ f = bs.length - i ∧ q = [.top, .ptr 1 0, .v (.bool false)] ++ List.replicate 26 .top ++ [.sl .any (dsP bs), .v (.int .i64 ((dsP bs).length : Int)), .v (.int .i64 (i : Int))] ++ List.replicate 18 .top ∧ m = 2 ∧ h = [(1, .cells (polP bs need))])
            ⟨_, _, _, _, ?_, ?_, ⟨0, Nat.zero_le _, fresh_zero bs, rfl, rfl, rfl, rfl⟩⟩ ?_
          · rfl
          · skip
            exact sub_
          · rintro f q m h hlen2 ⟨i, hi, hf, rfl, rfl, rfl, rfl⟩
            clear hlen2
            by_cases h1 : i < bs.length
            · have g1 : decide ((i : Int) < ((dsP bs).length : Int)) = true := decide_eq_true (by rw [hlen]; omega)
              have htk := dsP_take bs i
              have hti : (bs.take i).length = i := by rw [List.length_take]; omega
              have hw : IntKind.i64.wrap ((i : Int) + 1) = ((i + 1 : Nat) : Int) := by rw [wrap64 (by omega) (by omega)]; omega
              refine go_ ?_
              with_reducible apply run_y
              exact want_
              · intro K hK
                refine ev_ ?_
                refine ⟨0, i, dsP (bs.take i), rfl, rfl, Nat.zero_le _, by rw [hlen]; omega, ⟨_, _, rfl, rfl, .inl rfl⟩, htk, ?_⟩
                refine ev_ ?_
                exact hK
              refine go_ ?_
              refine c_loop (fun f q m h => ∃ k : Nat, k ≤ i ∧ (∀ b, b < k → bs.getD i D.zero ≠ bs.getD b D.zero) ∧ f = i - k ∧ q = [.top, .ptr 1 0, .v (.bool false), .top, .v (.int .i64 (i : Int)), .ptr 2 0] ++ List.replicate 23 .top ++ [.sl .any (dsP bs), .v (.int .i64 ((dsP bs).length : Int)), .v (.int .i64 (i : Int))] ++ List.replicate 7 .top ++ [.sl .any (dsP (bs.take i)), .v (.int .i64 ((dsP (bs.take i)).length : Int)), .v (.int .i64 (k : Int))] ++ List.replicate 8 .top ∧ m = 3 ∧ h = [(1, .cells (polP bs need)), (2, .cells (dP (bs.getD i D.zero)))])
                ⟨_, _, _, _, ?_, ?_, ⟨0, Nat.zero_le _, fun b hb => by omega, rfl, rfl, rfl, rfl⟩⟩ ?_
              · rfl
              · skip
                exact sub_
              · rintro f q m h hlen2 ⟨k, hk, hn, rfl, rfl, rfl, rfl⟩
                clear hlen2
                by_cases h2 : k < i
                · have g2 : decide ((k : Int) < ((dsP (bs.take i)).length : Int)) = true := decide_eq_true (by rw [dsP_len, hti]; omega)
                  have hkt : k < (bs.take i).length := by omega
                  have hgk : (bs.take i).getD k D.zero = bs.getD k D.zero := by simp only [List.getD, List.getElem?_take_of_lt h2]
                  have hw2 : IntKind.i64.wrap ((k : Int) + 1) = ((k + 1 : Nat) : Int) := by rw [wrap64 (by omega) (by omega)]; omega
                  refine go_ ?_
                  rw [hgk]
                  cases g3 : decide (bs.getD i D.zero = bs.getD k D.zero)
                  case true =>
                    rw [qright_dup (need := need) (dup_yes h1 h2 (of_decide_eq_true g3))]
                    refine go_ ?_
                    refine ev_ ?_
                    exact .mk (by rfl) trivial
                  case false =>
                    have hne := of_decide_eq_false g3
                    refine go_ ?_
                    rw [hw2]
                    refine c_round ⟨_, _, _, _, ?_, ?_, ?_, ⟨k + 1, h2, fun b hb => by
                      by_cases e : b = k
                      · subst e; exact hne
                      · exact hn b (by omega), rfl, rfl, rfl, rfl⟩⟩
                    · omega
                    · rfl
                    · skip
                      exact sub_
                · have hki : k = i := by omega
                  subst hki
                  have g2 : decide ((k : Int) < ((dsP (bs.take k)).length : Int)) = false := decide_eq_false (by rw [dsP_len, hti]; omega)
                  refine go_ ?_
                  rw [hw]
                  refine c_round ⟨_, _, _, _, ?_, ?_, ?_, ⟨k + 1, h1, fresh_next hf hn, rfl, rfl, rfl, rfl⟩⟩
                  · omega
                  · rfl
                  · skip
                    exact sub_
            · have hil : i = bs.length := by omega
              subst hil
              have g1 : decide (((bs.length : Nat) : Int) < ((dsP bs).length : Int)) = false := decide_eq_false (by rw [hlen]; omega)
              rw [qright_yes hr hf]
              refine go_ ?_
              refine ev_ ?_
              exact .mk (by rfl) trivial
set_option maxRecDepth 100000 in
set_option maxHeartbeats 2000000 in
theorem s_rqright (bs : List D) (need : Int) (hl : bs.length ≤ 1000000) : Spec (Ctx.mk Tryd.prog globX (0 + 1) Places) 12 [.agg (polP bs need)] [] (.v (.bool (qrightE bs need))) [] := by
  have hlen := dsP_len bs
  refine spec_of_bodyL CX_mixed CX_gpk Tryd.func12 rfl 55 0 rfl rfl rfl rfl ?_
  refine go_ ?_
  refine c_loop (fun f q m h => ∃ i : Nat, i ≤ bs.length ∧ i ≤ 21 ∧ fresh bs i ∧ f = bs.length - i ∧ q = [.top, .ptr 1 0, .v (.bool false), .v (.int .i64 (i : Int))] ++ List.replicate 51 .top ∧ m = 2 ∧ h = [(1, .cells (polP bs need))])
    ⟨_, _, _, _, ?_, ?_, ⟨0, Nat.zero_le _, Nat.zero_le _, fresh_zero bs, rfl, rfl, rfl, rfl⟩⟩ ?_
  · rfl
  · skip
    exact sub_
  · rintro f q m h hlen2 ⟨i, hi, hi21, hf, rfl, rfl, rfl, rfl⟩
    clear hlen2
    by_cases h1 : i < bs.length ∧ i < 21
    · obtain ⟨h1, h21⟩ := h1
      have g1 : decide ((i : Int) < ((dsP bs).length : Int)) = true := decide_eq_true (by rw [hlen]; omega)
      have g2 : decide ((i : Int) < 21) = true := decide_eq_true (by omega)
      have hw : IntKind.i64.wrap ((i : Int) + 1) = ((i + 1 : Nat) : Int) := by rw [wrap64 (by omega) (by omega)]; omega
      have hcd : (bif decide ((i : Int) < ((dsP bs).length : Int)) then decide ((i : Int) < 21) else false) = true := by rw [g1, g2]; rfl
      refine go_ ?_
      refine c_loop (fun f q m h => ∃ k : Nat, k ≤ i ∧ (∀ b, b < k → bs.getD i D.zero ≠ bs.getD b D.zero) ∧ f = i - k ∧ q = [.top, .ptr 1 0, .v (.bool false), .v (.int .i64 (i : Int)), .v (.int .i64 (k : Int))] ++ List.replicate 50 .top ∧ m = 2 ∧ h = [(1, .cells (polP bs need))])
        ⟨_, _, _, _, ?_, ?_, ⟨0, Nat.zero_le _, fun b hb => by omega, rfl, rfl, rfl, rfl⟩⟩ ?_
      · rfl
      · skip
        exact sub_
      · rintro f q m h hlen2 ⟨k, hk, hn, rfl, rfl, rfl, rfl⟩
        clear hlen2
        by_cases h2 : k < i
        · have g3 : decide ((k : Int) < (i : Int)) = true := decide_eq_true (by omega)
          have hkl : k < bs.length := by omega
          have hw2 : IntKind.i64.wrap ((k : Int) + 1) = ((k + 1 : Nat) : Int) := by rw [wrap64 (by omega) (by omega)]; omega
          refine go_ ?_
          cases g4 : decide (bs.getD i D.zero = bs.getD k D.zero)
          case true =>
            rw [qright_dup (need := need) (dup_yes h1 h2 (of_decide_eq_true g4))]
            refine go_ ?_
            refine ev_ ?_
            exact .mk (by rfl) trivial
          case false =>
            have hne := of_decide_eq_false g4
            refine go_ ?_
            rw [hw2]
            refine c_round ⟨_, _, _, _, ?_, ?_, ?_, ⟨k + 1, h2, fun b hb => by
              by_cases e : b = k
              · subst e; exact hne
              · exact hn b (by omega), rfl, rfl, rfl, rfl⟩⟩
            · omega
            · rfl
            · skip
              exact sub_
        · have hki : k = i := by omega
          subst hki
          have g3 : decide ((k : Int) < (k : Int)) = false := decide_eq_false (by omega)
          refine go_ ?_
          rw [hw]
          refine c_round ⟨_, _, _, _, ?_, ?_, ?_, ⟨k + 1, h1, by omega, fresh_next hf hn, rfl, rfl, rfl, rfl⟩⟩
          · omega
          · rfl
          · skip
            exact sub_
    · have hend : (i = bs.length ∧ bs.length ≤ 21) ∨ (21 ≤ bs.length ∧ i = 21) := by omega
      have q1 : qrightE bs need = (decide (((dsP bs).length : Int) ≥ 1) && decide (((dsP bs).length : Int) ≤ 20) && decide (need ≥ 1) && decide (need ≤ ((dsP bs).length : Int))) := by
        rw [hlen]
        by_cases hr : 1 ≤ bs.length ∧ bs.length ≤ 20 ∧ 1 ≤ need ∧ need ≤ (bs.length : Int)
        · rw [qright_yes hr (by rcases hend with ⟨e, _⟩ | ⟨e, _⟩ <;> first | (subst e; exact hf) | omega)]
          rw [decide_eq_true (by omega), decide_eq_true (by omega), decide_eq_true (by omega), decide_eq_true (by omega)]; rfl
        · rw [qright_no hr]
          symm
          simp only [Bool.and_eq_false_iff, decide_eq_false_iff_not]
          omega
      rw [q1]
      have ho : ∀ (P : Prop), (decide ((i : Int) < ((dsP bs).length : Int)) = true → decide ((i : Int) < 21) = false → P) → (decide ((i : Int) < ((dsP bs).length : Int)) = false → P) → P := fun P ha hb => by
        cases hc : decide ((i : Int) < ((dsP bs).length : Int)) with
        | false => exact hb hc
        | true => exact ha hc (decide_eq_false (by have := of_decide_eq_true hc; rw [hlen] at this; omega))
      refine ho _ (fun g1 g2 => ?_) (fun g1 => ?_)
      all_goals
        have hcd : (bif decide ((i : Int) < ((dsP bs).length : Int)) then decide ((i : Int) < 21) else false) = false := by rw [g1]; first | rfl | (rw [g2]; rfl)
        refine go_ ?_
        cases c1 : decide (((dsP bs).length : Int) ≥ 1)
        · skip
          refine go_ ?_
          refine ev_ ?_
          exact .mk (vb_eq (by simp)) trivial
        refine go_ ?_
        cases c2 : decide (((dsP bs).length : Int) ≤ 20)
        · skip
          refine go_ ?_
          refine ev_ ?_
          exact .mk (vb_eq (by simp)) trivial
        refine go_ ?_
        cases c3 : decide (need ≥ 1)
        · skip
          refine go_ ?_
          refine ev_ ?_
          exact .mk (vb_eq (by simp)) trivial
        refine go_ ?_
        refine ev_ ?_
        exact .mk (vb_eq (by simp)) trivial
end Go.Proofs.YtjokaennipmmaaaDoor
