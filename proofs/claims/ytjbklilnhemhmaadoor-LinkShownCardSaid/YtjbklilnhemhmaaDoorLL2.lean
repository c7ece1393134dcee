import Derived.Test.YtjbklilnhemhmaaDoorLL1
/- The law LinkShown. -/
namespace Go.Proofs.YtjbklilnhemhmaaDoor
open Go.RowKit
set_option linter.unnecessarySimpa false
set_option maxRecDepth 100000 in
set_option maxHeartbeats 8000000 in
theorem s_LLinkShown (seed : D) (a b : Lk) : Spec (Ctx.mk Tryd.prog globX (0 + 1) Places) 15 [.agg (dP seed), .agg (lkP a), .agg (lkP b)] [] (.v (.bool true)) [] := by
  have hh : 0 ≤ (1 : Int) ∧ (1 : Int) ≤ 4 := by decide
  have q0 := s_knew_ok (seed := seed) hh
  have q1 := s_kpublic_ok (seed := seed) hh
  have q2 := s_kuse_ok (seed := seed) (msg := linkE a) (i := 0) hh (by decide)
  have q3 := s_kuse_ok (seed := seed) (msg := linkE b) (i := 1) hh (by decide)
  have o1 := s_linkOf a
  have o2 := s_linkOf b
  have h1 : lcheckE a (kpubE seed 1, ksignE seed 1 0 (linkE a)) = true := kcheck_sign seed _ (by decide) (by decide)
  have h2 : lcheckE b (kpubE seed 1, ksignE seed 1 1 (linkE b)) = true := kcheck_sign seed _ (by decide) (by decide)
  have l1 : (ksignE seed 1 0 (linkE a)).2.2.length = 1 := ksign_path seed _ (by decide)
  have l2 : (ksignE seed 1 1 (linkE b)).2.2.length = 1 := ksign_path seed _ (by decide)
  replace q1 : Spec (Ctx.mk Tryd.prog globX (0 + 1) Places) 43 [.agg (dP seed), .v (.int .i64 1)] [] (.tup [.agg (dP (kpubE seed 1)), .v (.int .i64 0)]) [] := q1
  replace q2 : Spec (Ctx.mk Tryd.prog globX (0 + 1) Places) 51 [.agg (srP (seed, 1, 0)), .agg (dP (linkE a))] [] (.tup [.agg (srP (seed, 1, 1)), .agg (sgP (ksignE seed 1 0 (linkE a))), .v (.int .i64 0)]) [] := q2
  replace q3 : Spec (Ctx.mk Tryd.prog globX (0 + 1) Places) 51 [.agg (srP (seed, 1, 1)), .agg (dP (linkE b))] [] (.tup [.agg (srP (seed, 1, 2)), .agg (sgP (ksignE seed 1 1 (linkE b))), .v (.int .i64 0)]) [] := q3
  generalize kpubE seed 1 = pub at *
  generalize ksignE seed 1 0 (linkE a) = x at *
  generalize ksignE seed 1 1 (linkE b) = y at *
  have c1 := s_linkCheck a (pub, x) (by show x.2.2.length ≤ _; omega)
  have c2 := s_linkCheck b (pub, y) (by show y.2.2.length ≤ _; omega)
  have c3 := s_linkTwice a (pub, x) b (pub, y) (by show x.2.2.length ≤ _; omega) (by show y.2.2.length ≤ _; omega)
  have hx : ltwiceE a (pub, x) b (pub, y) = (decide (a.1 = b.1) && !decide (a.2 = b.2)) := by
    unfold ltwiceE; rw [h1, h2]; simp
  rw [hx] at c3
  rw [h1] at c1
  rw [h2] at c2
  clear hx h1 h2 l1 l2
  generalize linkE a = la at *
  generalize linkE b = lb at *
  obtain ⟨xi, xo, xp⟩ := x
  obtain ⟨yi, yo, yp⟩ := y
  obtain ⟨a1, a2⟩ := a
  obtain ⟨b1, b2⟩ := b
  replace c3 : Spec (Ctx.mk Tryd.prog globX (0 + 1) Places) 36 [.agg (lkP (a1, a2)), .agg (sdP (pub, xi, xo, xp)), .agg (lkP (b1, b2)), .agg (sdP (pub, yi, yo, yp))] [] (.v (.bool (decide (a1 = b1) && !decide (a2 = b2)))) [] := c3
  refine spec_of_bodyL CX_mixed CX_gpk Tryd.func15 rfl 94 0 rfl rfl rfl rfl ?_
  refine go_ ?_
  with_reducible apply run_y
  exact want_
  · intro K hK
    refine ev_ ?_
    refine vcCall_plain (s_awake44) (by kernel_rfl) ?_
    refine ev_ ?_
    exact hK
  refine go_ ?_
  with_reducible apply run_y
  exact want_
  · intro K hK
    refine ev_ ?_
    refine vcCall_plain (q0) (by kernel_rfl) ?_
    refine ev_ ?_
    exact hK
  refine go_ ?_
  with_reducible apply run_y
  exact want_
  · intro K hK
    refine ev_ ?_
    refine vcCall_plain (q1) (by kernel_rfl) ?_
    refine ev_ ?_
    exact hK
  refine goto_ 5 ?_
  refine c_seq_cut (fun q_ m_ h_ => q_ = [.top, .top, .top, .ptr 1 0, .ptr 2 0, .ptr 3 0, .v (.bool false), .ptr 4 0, .v (.int .i64 0), .ptr 5 0, .v (.int .i64 0), .ptr 6 0, .v (.int .i64 0)] ++ List.replicate 81 .top ∧ m_ = 9 ∧ h_ = [(1, .cells (dP seed)), (2, .cells (lkP (a1, a2))), (3, .cells (lkP (b1, b2))), (4, .cells (srP (seed, 1, 1))), (5, .cells (dP pub)), (6, .cells (sgP (xi, xo, xp))), (7, .free), (8, .free)]) ?_ ?_
  · skip
    refine go_ ?_
    with_reducible apply run_y
    exact want_
    · intro K hK
      refine ev_ ?_
      refine vcCall_plain (o1) (by kernel_rfl) ?_
      refine ev_ ?_
      exact hK
    refine go_ ?_
    with_reducible apply run_y
    exact want_
    · intro K hK
      refine ev_ ?_
      refine vcCall_plain (q2) (by kernel_rfl) ?_
      refine ev_ ?_
      exact hK
    refine go_ ?_
    refine c_cut ⟨_, _, _, ?_, ?_, rfl, rfl, rfl⟩
    · rfl
    · exact sub_
  rintro q_ m_ h_ hlen ⟨rfl, rfl, rfl⟩
  clear hlen
  refine go_ ?_
  with_reducible apply run_y
  exact want_
  · intro K hK
    refine ev_ ?_
    refine vcCall_plain (o2) (by kernel_rfl) ?_
    refine ev_ ?_
    exact hK
  refine go_ ?_
  with_reducible apply run_y
  exact want_
  · intro K hK
    refine ev_ ?_
    refine vcCall_plain q3 (by kernel_rfl) ?_
    refine ev_ ?_
    exact hK
  with_reducible apply run_y
  exact want_
  exact step_
  with_reducible apply run_y
  exact want_
  exact step_
  with_reducible apply run_y
  exact want_
  exact step_
  with_reducible apply run_y
  exact want_
  exact step_
  with_reducible apply run_y
  exact want_
  · intro K hK
    conv => whnf
    refine And.intro (by kernel_rfl) (Or.inr ⟨7, by decide, by kernel_rfl, ?_⟩)
    refine ev_ ?_
    exact hK
  with_reducible apply run_y
  exact want_
  · intro K hK
    conv => whnf
    refine And.intro (by kernel_rfl) (Or.inr ⟨8, by decide, by kernel_rfl, ?_⟩)
    refine ev_ ?_
    exact hK
  refine go_ ?_
  with_reducible apply run_y
  exact want_
  · intro K hK
    refine ev_ ?_
    refine vcCall_plain (c1) (by kernel_rfl) ?_
    refine ev_ ?_
    exact hK
  refine go_ ?_
  with_reducible apply run_y
  exact want_
  · intro K hK
    refine ev_ ?_
    refine vcCall_plain (c2) (by kernel_rfl) ?_
    refine ev_ ?_
    exact hK
  refine go_ ?_
  cases e3 : decide (a1 = b1)
  · rw [e3, Bool.false_and] at c3
    with_reducible apply run_y
    exact want_
    · intro K hK
      refine ev_ ?_
      refine vcCall_plain (c3) (by kernel_rfl) ?_
      refine ev_ ?_
      exact hK
    refine go_ ?_
    refine ev_ ?_
    exact .mk (vb_eq (by simp)) trivial
  · rw [e3, Bool.true_and] at c3
    with_reducible apply run_y
    exact want_
    · intro K hK
      refine ev_ ?_
      refine vcCall_plain (c3) (by kernel_rfl) ?_
      refine ev_ ?_
      exact hK
    refine go_ ?_
    refine ev_ ?_
    exact .mk (vb_eq (by simp [of_decide_eq_true e3])) trivial
theorem linkShown_walk (q0 : PV) (v0 : Value) (q1 : PV) (v1 : Value) (q2 : PV) (v2 : Value) (w : World) (hP : Places w) (i0 : IsV shD q0) (r0 : Rep (allOf w) q0 v0) (i1 : IsV (.st shLk) q1) (r1 : Rep (allOf w) q1 v1) (i2 : IsV (.st shLk) q2) (r2 : Rep (allOf w) q2 v2) : Calls Tryd.prog 15 #[v0, v1, v2] w fun e w' => e = .returned (.bool true) ∧ Grow w w' := by
  obtain ⟨seed, rfl⟩ := isV_D i0
  obtain ⟨a, rfl⟩ := isV_Lk i1
  obtain ⟨b, rfl⟩ := isV_Lk i2
  exact walk_of (s_LLinkShown seed a b) hP (args3 r0 r1 r2)
end Go.Proofs.YtjbklilnhemhmaaDoor
