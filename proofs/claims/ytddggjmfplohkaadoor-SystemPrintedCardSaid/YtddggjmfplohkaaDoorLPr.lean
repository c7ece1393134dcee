import Derived.Test.YtddggjmfplohkaaDoorTkb
import Derived.Test.YtddggjmfplohkaaDoorTj
import Derived.Test.YtddggjmfplohkaaDoorTl
import Derived.Test.YtddggjmfplohkaaDoorTu
/- SystemPrinted: two programs that may be have one text just if they are the same. -/
namespace Go.Proofs.YtddggjmfplohkaaDoor
open Go Go.RowKit
theorem body_told {p : Pg} (h : 0 < fewP p 100) : BodyTold p := fun f hf => by
  obtain ⟨-, -, h1, -, h2⟩ := (fewP_sh h).fn f hf
  have := rSs_ok 24 (by omega) 39 f.body h1 h2
  rw [show (25 : Int) - ((24 : Nat) : Int) = 1 from rfl] at this
  exact this
set_option maxHeartbeats 4000000 in
set_option maxRecDepth 100000 in
theorem s_printed (p q : Pg) (hp : PgL p) (hq : PgL q) : Spec (Ctx.mk Tryd.prog globT 7 LaidT) 3 [.agg (pgC p), .agg (pgC q)] [] (.v (.bool true)) [] := by
  have h1 := s_small p hp body_told
  have h2 := s_small q hq body_told
  by_cases a1 : smP p = true
  · have g1 : (!smP p) = false := by rw [a1]; rfl
    by_cases a2 : smP q = true
    · have g2 : (bif !smP p then true else !smP q) = false := by rw [g1, a2]; rfl
      obtain ⟨o1, r1⟩ := small_ok a1
      obtain ⟨o2, r2⟩ := small_ok a2
      have key : (decide (prP p = prP q) == eqB p q) = true := by
        by_cases e : p = q
        · rw [eqB_t e, decide_eq_true (by rw [e])]; rfl
        · rw [eqB_f e, decide_eq_false (fun h => e (one_P r1 r2 h))]; rfl
      refine spec_of_bodyL CX_mixed CX_gpk Tryd.func3 rfl 22 0 rfl rfl rfl rfl ?_
      refine go_ ?_
      with_reducible apply run_y
      exact want_
      · intro K hK
        refine ev_ ?_
        refine vcCall_plain (h1) (by kernel_rfl) ?_
        refine ev_ ?_
        exact hK
      refine go_ ?_
      with_reducible apply run_y
      exact want_
      · intro K hK
        refine ev_ ?_
        refine vcCall_plain (h2) (by kernel_rfl) ?_
        refine ev_ ?_
        exact hK
      refine go_ ?_
      with_reducible apply run_y
      exact want_
      · intro K hK
        refine ev_ ?_
        refine vcCall_plain (s_print p o1) (by kernel_rfl) ?_
        refine ev_ ?_
        exact hK
      refine go_ ?_
      with_reducible apply run_y
      exact want_
      · intro K hK
        refine ev_ ?_
        refine vcCall_plain (s_print q o2) (by kernel_rfl) ?_
        refine ev_ ?_
        exact hK
      refine go_ ?_
      with_reducible apply run_y
      exact want_
      · intro K hK
        refine ev_ ?_
        refine vcCall_plain (s_same p q o1 o2) (by kernel_rfl) ?_
        refine ev_ ?_
        exact hK
      refine go_ ?_
      refine ev_ ?_
      exact .mk (vb_eq (by rw [key])) trivial
    · have a2 : smP q = false := by simpa using a2
      have g2 : (bif !smP p then true else !smP q) = true := by rw [g1, a2]; rfl
      refine spec_of_bodyL CX_mixed CX_gpk Tryd.func3 rfl 22 0 rfl rfl rfl rfl ?_
      refine go_ ?_
      with_reducible apply run_y
      exact want_
      · intro K hK
        refine ev_ ?_
        refine vcCall_plain (h1) (by kernel_rfl) ?_
        refine ev_ ?_
        exact hK
      refine go_ ?_
      with_reducible apply run_y
      exact want_
      · intro K hK
        refine ev_ ?_
        refine vcCall_plain (h2) (by kernel_rfl) ?_
        refine ev_ ?_
        exact hK
      refine go_ ?_
      refine ev_ ?_
      exact .mk (vb_eq (by rfl)) trivial
  · have a1 : smP p = false := by simpa using a1
    have g1 : (!smP p) = true := by rw [a1]; rfl
    refine spec_of_bodyL CX_mixed CX_gpk Tryd.func3 rfl 22 0 rfl rfl rfl rfl ?_
    refine go_ ?_
    with_reducible apply run_y
    exact want_
    · intro K hK
      refine ev_ ?_
      refine vcCall_plain (h1) (by kernel_rfl) ?_
      refine ev_ ?_
      exact hK
    refine go_ ?_
    refine ev_ ?_
    exact .mk (vb_eq (by rfl)) trivial
/-- The law, walked. -/
theorem lprinted_walk (p q : Pg) (v0 v1 : Value) (w : World) (hP : LaidT w) (hp : PgL p) (r0 : Rep (allOf w) (.agg (pgC p)) v0) (hq : PgL q) (r1 : Rep (allOf w) (.agg (pgC q)) v1) :
    Calls Tryd.prog 3 #[v0, v1] w fun e w' => e = .returned (.bool true) ∧ Grow w w' :=
  walk_of (s_printed p q hp hq) hP (args2 r0 r1)
end Go.Proofs.YtddggjmfplohkaaDoor
