import Derived.Test.YtjokaennipmmaaaDoorLQ1
/- The law QuorumHonest. -/
namespace Go.Proofs.YtjokaennipmmaaaDoor
open Go.RowKit
set_option linter.unnecessarySimpa false
set_option maxRecDepth 100000 in
set_option maxHeartbeats 4000000 in
theorem s_quorumHonest (bs : List D) (need : Int) (msg : D) (l : List Sd) (lies : List Bool) : Spec (Ctx.mk Tryd.prog globX (0 + 1) Places) 8 [.agg (askP bs need msg l), .sl .any (blP lies)] [] (.v (.bool true)) [] := by
  have q0 := s_small45 bs need msg l
  have hlb := blP_len lies
  refine spec_of_bodyL CX_mixed CX_gpk Tryd.func8 rfl 104 0 rfl rfl rfl rfl ?_
  refine go_ ?_
  with_reducible apply run_y
  exact want_
  · intro K hK
    refine ev_ ?_
    refine vcCall_plain (q0) (by kernel_rfl) ?_
    refine ev_ ?_
    exact hK
  refine go_ ?_
  cases hsm : smE bs l
  case false =>
    refine go_ ?_
    with_reducible apply run_y
    exact want_
    · intro K hK
      refine ev_ ?_
      refine vcCall_plain (s_awake45) (by kernel_rfl) ?_
      refine ev_ ?_
      exact hK
    refine go_ ?_
    refine ev_ ?_
    exact .mk (by rfl) trivial
  case true =>
    obtain ⟨h1, h2, h3⟩ := sm_spec hsm
    have w1 := s_who bs need msg l (by omega) (by omega) h3
    have o1 := s_qholds bs need msg l (by omega) (by omega) h3
    have b1 := s_bad bs need
    refine go_ ?_
    with_reducible apply run_y
    exact want_
    · intro K hK
      refine ev_ ?_
      refine vcCall_plain (o1) (by kernel_rfl) ?_
      refine ev_ ?_
      exact hK
    refine go_ ?_
    cases hh : holdsE bs need msg l
    case false =>
      refine go_ ?_
      with_reducible apply run_y
      exact want_
      · intro K hK
        refine ev_ ?_
        refine vcCall_plain (s_awake45) (by kernel_rfl) ?_
        refine ev_ ?_
        exact hK
      refine go_ ?_
      refine ev_ ?_
      exact .mk (by rfl) trivial
    case true =>
      obtain ⟨n1, n2, n3⟩ := holds_need hh
      have hwb : IntKind.i64.wrap (need - 1) = need - 1 := wrap64 (by omega) (by omega)
      rw [hwb] at b1
      have hmem : ∀ i ∈ whoE bs msg l, i < bs.length := fun i hi => (whoE_mem.1 hi).1
      have hlie := whoE_lies (bs := bs) (m := msg) (l := l) (p := fun i => lies.getD i false)
      have hwl := who_len bs msg l
      generalize whoE bs msg l = w at *
      refine go_ ?_
      refine c_loop (fun f q m h => ∃ i : Nat, i ≤ bs.length ∧ i ≤ lies.length ∧ f = bs.length - i ∧ q = [.top, .sl .any (blP lies), .ptr 1 0, .top, .v (.bool false), .v (.int .i64 ((liesUp lies i : Nat) : Int)), .v (.int .i64 (i : Int))] ++ List.replicate 97 .top ∧ m = 2 ∧ h = [(1, .cells (askP bs need msg l))])
        ⟨_, _, _, _, ?_, ?_, ⟨0, Nat.zero_le _, Nat.zero_le _, rfl, rfl, rfl, rfl⟩⟩ ?_
      · rfl
      · skip
        exact sub_
      · rintro f q m h hlen2 ⟨i, hi, hil, rfl, rfl, rfl, rfl⟩
        clear hlen2
        by_cases hib : i < bs.length ∧ i < lies.length
        · obtain ⟨hib, hil2⟩ := hib
          have g1 : decide ((i : Int) < ((dsP bs).length : Int)) = true := decide_eq_true (by rw [dsP_len]; omega)
          have g2 : decide ((i : Int) < ((blP lies).length : Int)) = true := decide_eq_true (by rw [hlb]; omega)
          have hcd : (bif decide ((i : Int) < ((dsP bs).length : Int)) then decide ((i : Int) < ((blP lies).length : Int)) else false) = true := by rw [g1, g2]; rfl
          have hw : IntKind.i64.wrap ((i : Int) + 1) = ((i + 1 : Nat) : Int) := by rw [wrap64 (by omega) (by omega)]; omega
          have hup := liesUp_le lies i
          have hw2 : IntKind.i64.wrap (((liesUp lies i : Nat) : Int) + 1) = ((liesUp lies i + 1 : Nat) : Int) := by rw [wrap64 (by omega) (by omega)]; omega
          have hat := blP_at hil2
          refine go_ ?_
          with_reducible apply run_y
          exact want_
          · intro K hK
            refine ev_ ?_
            refine ⟨i, _, rfl, hat, rfl, ?_⟩
            refine ev_ ?_
            exact hK
          refine go_ ?_
          cases e1 : lies.getD i false
          · have hno := liesUp_no e1
            refine go_ ?_
            rw [hw]
            refine c_round ⟨_, _, _, _, ?_, ?_, ?_, ⟨i + 1, hib, hil2, rfl, by rw [hno], rfl, rfl⟩⟩
            · omega
            · rfl
            · skip
              exact sub_
          · have hyes := liesUp_yes e1
            refine go_ ?_
            rw [hw, hw2]
            refine c_round ⟨_, _, _, _, ?_, ?_, ?_, ⟨i + 1, hib, hil2, rfl, by rw [hyes], rfl, rfl⟩⟩
            · omega
            · rfl
            · skip
              exact sub_
        · have hcd : (bif decide ((i : Int) < ((dsP bs).length : Int)) then decide ((i : Int) < ((blP lies).length : Int)) else false) = false := by
            rw [dsP_len, hlb]
            by_cases e : i < bs.length
            · rw [decide_eq_true (by omega : (i : Int) < (bs.length : Int)), decide_eq_false (by omega : ¬ (i : Int) < (lies.length : Int))]; rfl
            · rw [decide_eq_false (by omega : ¬ (i : Int) < (bs.length : Int))]; rfl
          have hN : liesUp lies i = liesUp lies bs.length := by
            by_cases e : i = bs.length
            · rw [e]
            · have e2 : i = lies.length := by omega
              have := liesUp_far lies (bs.length - lies.length)
              rw [show lies.length + (bs.length - lies.length) = bs.length by omega] at this
              rw [e2, this]
          rw [hN]
          have hup := liesUp_le lies bs.length
          replace hlie : (∀ i ∈ w, lies.getD i false = true) → w.length ≤ liesUp lies bs.length := hlie
          generalize liesUp lies bs.length = N at *
          cases g1 : decide ((i : Int) < ((dsP bs).length : Int))
          all_goals
            refine go_ ?_
            with_reducible apply run_y
            exact want_
            · intro K hK
              refine ev_ ?_
              refine vcCall_plain (w1) (by kernel_rfl) ?_
              refine ev_ ?_
              exact hK
            refine go_ ?_
            refine c_loop (fun f q m h => ∃ j : Nat, j ≤ w.length ∧ f = w.length - j ∧ q = [.top, .sl .any (blP lies), .ptr 1 0, .top, .v (.bool false), .v (.int .i64 (N : Int)), .top, .sl .any (isP w), .v (.bool (hon lies w j)), .v (.int .i64 (j : Int))] ++ List.replicate 94 .top ∧ m = 2 ∧ h = [(1, .cells (askP bs need msg l))])
              ⟨_, _, _, _, ?_, ?_, ⟨0, Nat.zero_le _, rfl, rfl, rfl, rfl⟩⟩ ?_
            · rfl
            · skip
              exact sub_
            · rintro f q m h hlen2 ⟨j, hj, rfl, rfl, rfl, rfl⟩
              clear hlen2
              by_cases hjw : j < w.length
              · have g3 : decide ((j : Int) < ((isP w).length : Int)) = true := decide_eq_true (by rw [isP_len]; omega)
                have hw : IntKind.i64.wrap ((j : Int) + 1) = ((j + 1 : Nat) : Int) := by rw [wrap64 (by omega) (by omega)]; omega
                have hat := isP_at hjw
                have hnx := hon_next lies w j
                have hwj : w.getD j 0 < bs.length := hmem _ (by rw [List.getD_eq_getElem?_getD, List.getElem?_eq_getElem hjw]; exact List.getElem_mem hjw)
                generalize w.getD j 0 = x at *
                have g4 : decide (((x : Nat) : Int) < 0) = false := decide_eq_false (by omega)
                have g5 : decide (((x : Nat) : Int) ≥ ((dsP bs).length : Int)) = false := decide_eq_false (by rw [dsP_len]; omega)
                refine go_ ?_
                with_reducible apply run_y
                exact want_
                · intro K hK
                  refine ev_ ?_
                  refine ⟨j, _, rfl, hat, rfl, ?_⟩
                  refine ev_ ?_
                  exact hK
                refine go_ ?_
                with_reducible apply run_y
                exact want_
                · intro K hK
                  refine ev_ ?_
                  refine ⟨j, _, rfl, hat, rfl, ?_⟩
                  refine ev_ ?_
                  exact hK
                refine go_ ?_
                cases e1 : hon lies w j
                · rw [e1, Bool.false_or] at hnx
                  refine go_ ?_
                  with_reducible apply run_y
                  exact want_
                  · intro K hK
                    refine ev_ ?_
                    refine ⟨j, _, rfl, hat, rfl, ?_⟩
                    refine ev_ ?_
                    exact hK
                  refine go_ ?_
                  cases e2 : decide (((x : Nat) : Int) ≥ ((blP lies).length : Int))
                  · have hx : x < lies.length := by have := of_decide_eq_false e2; rw [hlb] at this; omega
                    have hatx := blP_at hx
                    rw [decide_eq_false (by omega : ¬ lies.length ≤ x), Bool.false_or] at hnx
                    refine go_ ?_
                    with_reducible apply run_y
                    exact want_
                    · intro K hK
                      refine ev_ ?_
                      refine ⟨j, _, rfl, hat, rfl, ?_⟩
                      refine ev_ ?_
                      exact hK
                    refine go_ ?_
                    with_reducible apply run_y
                    exact want_
                    · intro K hK
                      refine ev_ ?_
                      refine ⟨x, _, rfl, hatx, rfl, ?_⟩
                      refine ev_ ?_
                      exact hK
                    refine go_ ?_
                    rw [hw]
                    refine c_round ⟨_, _, _, _, ?_, ?_, ?_, ⟨j + 1, hjw, rfl, by rw [hnx], rfl, rfl⟩⟩
                    · omega
                    · rfl
                    · skip
                      exact sub_
                  · have hx : lies.length ≤ x := by have := of_decide_eq_true e2; rw [hlb] at this; omega
                    rw [decide_eq_true hx, Bool.true_or] at hnx
                    refine go_ ?_
                    rw [hw]
                    refine c_round ⟨_, _, _, _, ?_, ?_, ?_, ⟨j + 1, hjw, rfl, by rw [hnx], rfl, rfl⟩⟩
                    · omega
                    · rfl
                    · skip
                      exact sub_
                · rw [e1, Bool.true_or] at hnx
                  refine go_ ?_
                  rw [hw]
                  refine c_round ⟨_, _, _, _, ?_, ?_, ?_, ⟨j + 1, hjw, rfl, by rw [hnx], rfl, rfl⟩⟩
                  · omega
                  · rfl
                  · skip
                    exact sub_
              · have hje : j = w.length := by omega
                subst hje
                have g3 : decide (((w.length : Nat) : Int) < ((isP w).length : Int)) = false := decide_eq_false (by rw [isP_len]; omega)
                cases e1 : hon lies w w.length
                · have h9 := hlie (hon_not e1)
                  have g6 : decide ((N : Int) > need - 1) = true := decide_eq_true (by omega)
                  refine go_ ?_
                  with_reducible apply run_y
                  exact want_
                  · intro K hK
                    refine ev_ ?_
                    refine vcCall_plain (s_awake45) (by kernel_rfl) ?_
                    refine ev_ ?_
                    exact hK
                  refine go_ ?_
                  with_reducible apply run_y
                  exact want_
                  · intro K hK
                    refine ev_ ?_
                    refine vcCall_plain (b1) (by kernel_rfl) ?_
                    refine ev_ ?_
                    exact hK
                  refine go_ ?_
                  rw [g6]
                  refine go_ ?_
                  refine ev_ ?_
                  exact .mk (vb_eq (by simp)) trivial
                · skip
                  refine go_ ?_
                  with_reducible apply run_y
                  exact want_
                  · intro K hK
                    refine ev_ ?_
                    refine vcCall_plain (s_awake45) (by kernel_rfl) ?_
                    refine ev_ ?_
                    exact hK
                  refine go_ ?_
                  with_reducible apply run_y
                  exact want_
                  · intro K hK
                    refine ev_ ?_
                    refine vcCall_plain (b1) (by kernel_rfl) ?_
                    refine ev_ ?_
                    exact hK
                  refine go_ ?_
                  cases g6 : decide ((N : Int) > need - 1)
                  · skip
                    refine go_ ?_
                    refine ev_ ?_
                    exact .mk (vb_eq (by simp)) trivial
                  · skip
                    refine go_ ?_
                    refine ev_ ?_
                    exact .mk (vb_eq (by simp)) trivial
theorem quorumHonest_walk (q0 : PV) (v0 : Value) (q1 : PV) (v1 : Value) (w : World) (hP : Places w) (i0 : IsV (.st shAsk) q0) (r0 : Rep (allOf w) q0 v0) (i1 : IsV (.sl .bool) q1) (r1 : Rep (allOf w) q1 v1) : Calls Tryd.prog 8 #[v0, v1] w fun e w' => e = .returned (.bool true) ∧ Grow w w' := by
  obtain ⟨bs, need, msg, l, -, rfl⟩ := isV_Ask i0
  obtain ⟨es, -, he, rfl⟩ := i1
  obtain ⟨lies, rfl⟩ := is_bls he
  exact walk_of (s_quorumHonest bs need msg l lies) hP (args2 r0 r1)
end Go.Proofs.YtjokaennipmmaaaDoor
