import Derived.Test.YtjbklilnhemhmaaDoorP4
/- The laws HeadOn and HeadGoes. -/
namespace Go.Proofs.YtjbklilnhemhmaaDoor
open Go.RowKit
set_option linter.unnecessarySimpa false
set_option maxRecDepth 100000 in
theorem s_hon (k k' : Int) (d d' : D) (p : List D) (hp : p.length ≤ 1000000) : Spec (Ctx.mk Tryd.prog globX (0 + 1) Places) 22 [.agg (hP k d), .agg (hP k' d'), .sl .any (dsP p)] [] (.v (.bool (checkOnE d k d' k' p))) [] := by
  refine spec_of_bodyL CX_mixed CX_gpk Tryd.func22 rfl 17 0 rfl rfl rfl rfl ?_
  refine go_ ?_
  with_reducible apply run_y
  exact want_
  · intro K hK
    refine ev_ ?_
    refine vcCall_plain (s_checkOn d k d' k' p hp) (by kernel_rfl) ?_
    refine ev_ ?_
    exact hK
  refine go_ ?_
  refine ev_ ?_
  exact .mk (by rfl) trivial
end Go.Proofs.YtjbklilnhemhmaaDoor
