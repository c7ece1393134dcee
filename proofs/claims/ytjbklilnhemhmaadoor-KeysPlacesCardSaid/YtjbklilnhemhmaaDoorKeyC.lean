import Derived.Test.YtjbklilnhemhmaaDoorKeyL
/- The document's Clash of two ways up, walked over plain values. -/
namespace Go.Proofs.YtjbklilnhemhmaaDoor
open Go.RowKit
set_option linter.unnecessarySimpa false
set_option maxRecDepth 100000 in
set_option maxHeartbeats 20000000 in
theorem s_rclash06 (i0 : Nat) (a0 : D) (p : List D) (b0 : D) (q : List D) (hi0 : i0 ≤ 1000000) (hp : p.length ≤ 1000) (_ : q.length ≤ 1000) : Spec (Ctx.mk Tryd.prog globX (0 + 1) Places) 47 [.v (.int .i64 (i0 : Int)), .agg (dP a0), .sl .any (dsP p), .agg (dP b0), .sl .any (dsP q)] [] (.v (.bool (clashK i0 a0 p b0 q))) [] := by
  refine spec_of_bodyL CX_mixed CX_gpk Tryd.func47 rfl 73 0 rfl rfl rfl rfl ?_
  refine go_ ?_
  refine c_loop (fun k σ m h => ∃ (j i : Nat) (a b : D), j ≤ p.length ∧ i ≤ 1000000 ∧ k = p.length - j ∧ clashK i0 a0 p b0 q = clashK i a (p.drop j) b (q.drop j) ∧ σ = [.v (.int .i64 (i : Int)), .top, .sl .any (dsP p), .top, .sl .any (dsP q), .top, .ptr 1 0, .top, .ptr 2 0, .top, .v (.bool false), .v (.int .i64 (j : Int))] ++ List.replicate 61 .top ∧ m = 3 ∧ h = [(1, .cells (dP a)), (2, .cells (dP b))])
    ⟨_, _, _, _, ?_, ?_, ⟨0, i0, a0, b0, Nat.zero_le _, hi0, rfl, rfl, rfl, rfl, rfl⟩⟩ ?_
  · rfl
  · skip
    exact sub_
  · rintro k σ m h hlen ⟨j, i, a, b, hj, hi, rfl, hc, rfl, rfl, rfl⟩
    rw [hc]
    clear hlen hc
    refine go_ ?_
    cases g1 : decide ((j : Int) < ((dsP p).length : Int))
    case false =>
      have hj' : ¬ j < p.length := by have := of_decide_eq_false g1; rw [dsP_len] at this; omega
      rw [List.drop_eq_nil_of_le (by omega), clashK_nil']
      refine go_ ?_
      refine ev_ ?_
      exact .mk (by rfl) trivial
    case true =>
      have hj' : j < p.length := by have := of_decide_eq_true g1; rw [dsP_len] at this; omega
      refine go_ ?_
      cases g2 : decide ((j : Int) < ((dsP q).length : Int))
      case false =>
        have hq' : ¬ j < q.length := by have := of_decide_eq_false g2; rw [dsP_len] at this; omega
        rw [List.drop_eq_nil_of_le (by omega : q.length ≤ j), clashK_nil]
        refine go_ ?_
        refine ev_ ?_
        exact .mk (by rfl) trivial
      case true =>
        have hq' : j < q.length := by have := of_decide_eq_true g2; rw [dsP_len] at this; omega
        have hw1 : IntKind.i64.wrap ((j : Int) + 1) = ((j + 1 : Nat) : Int) := by rw [wrap64 (by omega) (by omega)]; omega
        have hw2 : IntKind.i64.wrap ((i : Int).tdiv 2) = ((i / 2 : Nat) : Int) := by
          rw [show (i : Int).tdiv 2 = ((i / 2 : Nat) : Int) from rfl, wrap64 (by omega) (by omega)]
        refine goto_ 6 ?_
        refine c_seq_cut (fun q_ m_ h_ => ∃ x0 x1 y0 y1 : D, clashK i a (p.drop j) b (q.drop j) = (if (x0, x1) ≠ (y0, y1) ∧ pairE x0 x1 = pairE y0 y1 then true else clashK (i / 2) (pairE x0 x1) (p.drop (j + 1)) (pairE y0 y1) (q.drop (j + 1))) ∧ q_ = [.v (.int .i64 (i : Int)), .top, .sl .any (dsP p), .top, .sl .any (dsP q), .top, .ptr 1 0, .top, .ptr 2 0, .top, .v (.bool false), .v (.int .i64 (j : Int)), .ptr 3 0, .ptr 4 0] ++ List.replicate 59 .top ∧ m_ = 5 ∧ h_ = [(1, .cells (dP a)), (2, .cells (dP b)), (3, .cells (pP x0 x1)), (4, .cells (pP y0 y1))]) ?_ ?_
        · skip
          refine go_ ?_
          by_cases ho : i % 2 = 1
          case pos =>
            have ht : (((i : Int).tmod 2) == 1) = true := by rw [show (i : Int).tmod 2 = ((i % 2 : Nat) : Int) from rfl, ho]; rfl
            refine go_ ?_
            refine c_cut ⟨_, _, _, ?_, ?_, p.getD j D.zero, a, q.getD j D.zero, b, by rw [drop_getD hj', drop_getD hq', clashK_odd ho], rfl, rfl, rfl⟩
            · rfl
            · exact sub_
          case neg =>
            have ht : (((i : Int).tmod 2) == 1) = false := by
              rw [show (i : Int).tmod 2 = ((i % 2 : Nat) : Int) from rfl, beq_eq_false_iff_ne]; omega
            refine go_ ?_
            refine c_cut ⟨_, _, _, ?_, ?_, a, p.getD j D.zero, b, q.getD j D.zero, by rw [drop_getD hj', drop_getD hq', clashK_even ho], rfl, rfl, rfl⟩
            · rfl
            · exact sub_
        · rintro q_ m_ h_ hlen ⟨x0, x1, y0, y1, he, rfl, rfl, rfl⟩
          clear hlen g1 g2
          refine go_ ?_
          rw [hw2]
          refine go_ ?_
          have q1 := s_rpair x0 x1
          have q2 := s_rpair y0 y1
          generalize pairE x0 x1 = t1 at *
          generalize pairE y0 y1 = t2 at *
          with_reducible apply run_y
          exact want_
          · intro K hK
            refine ev_ ?_
            refine vcCall_plain (q1) (by kernel_rfl) ?_
            refine ev_ ?_
            exact hK
          refine go_ ?_
          with_reducible apply run_y
          exact want_
          · intro K hK
            refine ev_ ?_
            refine vcCall_plain (q2) (by kernel_rfl) ?_
            refine ev_ ?_
            exact hK
          refine go_ ?_
          with_reducible apply run_y
          exact want_
          · intro K hK
            refine ev_ ?_
            refine ⟨_, _, _, pP_flat x0 x1, pP_flat y0 y1, eq_P _ _ _ _, ?_⟩
            refine ev_ ?_
            exact hK
          cases g3 : (!(decide (x0 = y0) && decide (x1 = y1)))
          case false =>
            refine go_ ?_
            rw [hw1]
            refine go_ ?_
            refine c_round ⟨_, _, _, _, ?_, ?_, ?_, ⟨j + 1, i / 2, _, _, hj', by omega, rfl, by rw [he, if_neg (fun h => by have := (pair_ne _ _ _ _).1 h.1; rw [g3] at this; cases this)], rfl, rfl, rfl⟩⟩
            · omega
            · rfl
            · skip
              exact sub_
          case true =>
            refine go_ ?_
            cases g4 : decide (t1 = t2)
            case false =>
              refine go_ ?_
              rw [hw1]
              refine go_ ?_
              refine c_round ⟨_, _, _, _, ?_, ?_, ?_, ⟨j + 1, i / 2, _, _, hj', by omega, rfl, by rw [he, if_neg (fun h => of_decide_eq_false g4 h.2)], rfl, rfl, rfl⟩⟩
              · omega
              · rfl
              · skip
                exact sub_
            case true =>
              rw [he, if_pos (unlike_t g3 (of_decide_eq_true g4))]
              refine go_ ?_
              refine ev_ ?_
              exact .mk (by rfl) trivial
end Go.Proofs.YtjbklilnhemhmaaDoor
