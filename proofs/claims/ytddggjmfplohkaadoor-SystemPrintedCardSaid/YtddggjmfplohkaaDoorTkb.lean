import Derived.Test.YtddggjmfplohkaaDoorTk
import Derived.Test.YtddggjmfplohkaaDoorTka
/- Small, the document's. -/
namespace Go.Proofs.YtddggjmfplohkaaDoor
open Go.RowKit
set_option linter.unnecessarySimpa false
set_option maxHeartbeats 4000000 in
set_option maxRecDepth 100000 in
theorem s_small (p : Pg) (hL : PgL p) (hT : 0 < fewP p 100 → BodyTold p) : Spec (Ctx.mk Tryd.prog globT 7 LaidT) 5 [.agg (pgC p), .v (.int .i64 100)] [] (.v (.bool (smP p))) [] := by
  by_cases h : 0 < fewP p 100
  · have g1 : decide (0 < fewP p 100) = true := decide_eq_true h
    refine spec_of_bodyL CX_mixed CX_gpk Tryd.func5 rfl 12 0 rfl rfl rfl rfl ?_
    refine go_ ?_
    with_reducible apply run_y
    exact want_
    · intro K hK
      refine ev_ ?_
      refine vcCall_plain (s_few p hL) (by kernel_rfl) ?_
      refine ev_ ?_
      exact hK
    refine go_ ?_
    with_reducible apply run_y
    exact want_
    · intro K hK
      refine ev_ ?_
      refine vcCall_plain (s_rRight p (fewP_sh h) (hT h)) (by kernel_rfl) ?_
      refine ev_ ?_
      exact hK
    refine go_ ?_
    refine ev_ ?_
    exact .mk (vb_eq (by (unfold smP; rw [g1]; rfl))) trivial
  · have g1 : decide (0 < fewP p 100) = false := decide_eq_false h
    have e : smP p = false := by unfold smP; rw [g1]; rfl
    refine spec_of_bodyL CX_mixed CX_gpk Tryd.func5 rfl 12 0 rfl rfl rfl rfl ?_
    refine go_ ?_
    with_reducible apply run_y
    exact want_
    · intro K hK
      refine ev_ ?_
      refine vcCall_plain (s_few p hL) (by kernel_rfl) ?_
      refine ev_ ?_
      exact hK
    refine go_ ?_
    refine ev_ ?_
    exact .mk (vb_eq (by rw [e])) trivial
end Go.Proofs.YtddggjmfplohkaaDoor
