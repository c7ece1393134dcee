import Derived.Test.YtjbklilnhemhmaaDoorLinkW
/- Laws of links: their digests, two sayings of one builder, other builders, a signer that says two things. -/
namespace Go.Proofs.YtjbklilnhemhmaaDoor
open Go.RowKit
set_option linter.unnecessarySimpa false
def lkA : Lk := (⟨[1, 0, 0, 0], rfl⟩, ⟨[2, 0, 0, 0], rfl⟩)
set_option maxRecDepth 100000 in
set_option maxHeartbeats 8000000 in
theorem s_awake44 : Spec (Ctx.mk Tryd.prog globX (0 + 1) Places) 30 [] [] (.v (.bool true)) [] := by
  have q1 := s_rsay seedC 0 0 lkA (by decide) (by decide)
  have hc : kcheckE (kpubE seedC 0) (linkE lkA) (ksignE seedC 0 0 (linkE lkA)) = true := kcheck_sign seedC _ (by decide) (by decide)
  have hn : kcheckE seedC (linkE lkA) (ksignE seedC 0 0 (linkE lkA)) = false := by rw [kcheck_zero]; exact pubC_ne
  have hl : (ksignE seedC 0 0 (linkE lkA)).2.2.length = 0 := ksign_path seedC _ (by decide)
  unfold sayE at q1
  have o1 := s_linkOf lkA
  have o2 := s_rlinkOf lkA
  generalize kpubE seedC 0 = pub at *
  generalize ksignE seedC 0 0 (linkE lkA) = sg at *
  have c1 := s_linkCheck lkA (pub, sg) (by show sg.2.2.length ≤ _; omega)
  have c2 := s_linkCheck lkA (seedC, sg) (by show sg.2.2.length ≤ _; omega)
  have c3 := s_linkTwice lkA (pub, sg) lkA (pub, sg) (by show sg.2.2.length ≤ _; omega) (by show sg.2.2.length ≤ _; omega)
  rw [show lcheckE lkA (pub, sg) = true from hc] at c1
  rw [show lcheckE lkA (seedC, sg) = false from hn] at c2
  rw [show ltwiceE lkA (pub, sg) lkA (pub, sg) = false by unfold ltwiceE; simp] at c3
  clear hc hn
  generalize linkE lkA = msg at *
  obtain ⟨i, one, path⟩ := sg
  refine spec_of_bodyL CX_mixed CX_gpk Tryd.func30 rfl 37 0 rfl rfl rfl rfl ?_
  refine go_ ?_
  with_reducible apply run_y
  exact want_
  · intro K hK
    refine ev_ ?_
    refine vcCall_plain (q1) (by kernel_rfl) ?_
    refine ev_ ?_
    exact hK
  refine go_ ?_
  with_reducible apply run_y
  exact want_
  · intro K hK
    refine ev_ ?_
    refine vcCall_plain (o1) (by kernel_rfl) ?_
    refine ev_ ?_
    exact hK
  refine go_ ?_
  with_reducible apply run_y
  exact want_
  · intro K hK
    refine ev_ ?_
    refine vcCall_plain (o2) (by kernel_rfl) ?_
    refine ev_ ?_
    exact hK
  refine go_ ?_
  with_reducible apply run_y
  exact want_
  · intro K hK
    refine ev_ ?_
    refine vcCall_plain (c1) (by kernel_rfl) ?_
    refine ev_ ?_
    exact hK
  refine go_ ?_
  with_reducible apply run_y
  exact want_
  · intro K hK
    refine ev_ ?_
    refine vcCall_plain (c2) (by kernel_rfl) ?_
    refine ev_ ?_
    exact hK
  refine go_ ?_
  with_reducible apply run_y
  exact want_
  · intro K hK
    refine ev_ ?_
    refine vcCall_plain (c3) (by kernel_rfl) ?_
    refine ev_ ?_
    exact hK
  refine go_ ?_
  refine ev_ ?_
  exact .mk (vb_eq (by simp)) trivial
set_option maxRecDepth 100000 in
set_option maxHeartbeats 8000000 in
theorem s_LLinkOf (l : Lk) (s : Sd) : Spec (Ctx.mk Tryd.prog globX (0 + 1) Places) 5 [.agg (lkP l), .agg (sdP s)] [] (.v (.bool true)) [] := by
  have q1 := s_short s
  by_cases h : s.2.2.1.length ≤ 40 ∧ s.2.2.2.length ≤ 6
  · rw [decide_eq_true h] at q1
    have c1 := s_linkCheck l s (Nat.le_trans h.2 (by decide))
    have c2 := s_rlinkCheck l s (Nat.le_trans h.2 (by decide))
    have o1 := s_linkOf l
    have o2 := s_rlinkOf l
    generalize lcheckE l s = x at *
    generalize linkE l = y at *
    clear h
    obtain ⟨b, i, one, path⟩ := s
    obtain ⟨l1, l2⟩ := l
    refine spec_of_bodyL CX_mixed CX_gpk Tryd.func5 rfl 24 0 rfl rfl rfl rfl ?_
    refine go_ ?_
    with_reducible apply run_y
    exact want_
    · intro K hK
      refine ev_ ?_
      refine vcCall_plain (s_awake44) (by kernel_rfl) ?_
      refine ev_ ?_
      exact hK
    refine go_ ?_
    with_reducible apply run_y
    exact want_
    · intro K hK
      refine ev_ ?_
      refine vcCall_plain (q1) (by kernel_rfl) ?_
      refine ev_ ?_
      exact hK
    refine go_ ?_
    with_reducible apply run_y
    exact want_
    · intro K hK
      refine ev_ ?_
      refine vcCall_plain (o1) (by kernel_rfl) ?_
      refine ev_ ?_
      exact hK
    refine go_ ?_
    with_reducible apply run_y
    exact want_
    · intro K hK
      refine ev_ ?_
      refine vcCall_plain (o2) (by kernel_rfl) ?_
      refine ev_ ?_
      exact hK
    refine go_ ?_
    with_reducible apply run_y
    exact want_
    · intro K hK
      refine ev_ ?_
      refine vcCall_plain (c1) (by kernel_rfl) ?_
      refine ev_ ?_
      exact hK
    refine go_ ?_
    with_reducible apply run_y
    exact want_
    · intro K hK
      refine ev_ ?_
      refine vcCall_plain (c2) (by kernel_rfl) ?_
      refine ev_ ?_
      exact hK
    refine go_ ?_
    refine ev_ ?_
    exact .mk (vb_eq (by simp)) trivial
  · rw [decide_eq_false h] at q1
    clear h
    obtain ⟨b, i, one, path⟩ := s
    obtain ⟨l1, l2⟩ := l
    refine spec_of_bodyL CX_mixed CX_gpk Tryd.func5 rfl 24 0 rfl rfl rfl rfl ?_
    refine go_ ?_
    with_reducible apply run_y
    exact want_
    · intro K hK
      refine ev_ ?_
      refine vcCall_plain (s_awake44) (by kernel_rfl) ?_
      refine ev_ ?_
      exact hK
    refine go_ ?_
    with_reducible apply run_y
    exact want_
    · intro K hK
      refine ev_ ?_
      refine vcCall_plain (q1) (by kernel_rfl) ?_
      refine ev_ ?_
      exact hK
    refine go_ ?_
    refine ev_ ?_
    exact .mk (vb_eq (by simp)) trivial
theorem linkOf_walk (q0 : PV) (v0 : Value) (q1 : PV) (v1 : Value) (w : World) (hP : Places w) (i0 : IsV (.st shLk) q0) (r0 : Rep (allOf w) q0 v0) (i1 : IsV (.st shSd) q1) (r1 : Rep (allOf w) q1 v1) : Calls Tryd.prog 5 #[v0, v1] w fun e w' => e = .returned (.bool true) ∧ Grow w w' := by
  obtain ⟨l, rfl⟩ := isV_Lk i0
  obtain ⟨s, rfl⟩ := isV_Sd i1
  exact walk_of (s_LLinkOf l s) hP (args2 r0 r1)
/-- Two links, with who said them. -/
def clP (a b : Lk) (s t : Sd) : List PV := [.v (u (a.1.1.getD 0 0)), .v (u (a.1.1.getD 1 0)), .v (u (a.1.1.getD 2 0)), .v (u (a.1.1.getD 3 0)), .v (u (a.2.1.getD 0 0)), .v (u (a.2.1.getD 1 0)), .v (u (a.2.1.getD 2 0)), .v (u (a.2.1.getD 3 0)), .v (u (b.1.1.getD 0 0)), .v (u (b.1.1.getD 1 0)), .v (u (b.1.1.getD 2 0)), .v (u (b.1.1.getD 3 0)), .v (u (b.2.1.getD 0 0)), .v (u (b.2.1.getD 1 0)), .v (u (b.2.1.getD 2 0)), .v (u (b.2.1.getD 3 0)), .v (u (s.1.1.getD 0 0)), .v (u (s.1.1.getD 1 0)), .v (u (s.1.1.getD 2 0)), .v (u (s.1.1.getD 3 0)), .v (.int .i64 s.2.1), .sl .any (dsP s.2.2.1), .sl .any (dsP s.2.2.2), .v (u (t.1.1.getD 0 0)), .v (u (t.1.1.getD 1 0)), .v (u (t.1.1.getD 2 0)), .v (u (t.1.1.getD 3 0)), .v (.int .i64 t.2.1), .sl .any (dsP t.2.2.1), .sl .any (dsP t.2.2.2)]
theorem ltwice_swap (a : Lk) (s : Sd) (b : Lk) (t : Sd) : ltwiceE b t a s = ltwiceE a s b t := by
  unfold ltwiceE
  rw [Bool.eq_iff_iff]
  simp only [Bool.and_eq_true, decide_eq_true_eq, Bool.not_eq_true', decide_eq_false_iff_not]
  constructor
  · rintro ⟨h1, h2, h3, h4, h5⟩; exact ⟨h1.symm, h2.symm, fun h => h3 h.symm, h5, h4⟩
  · rintro ⟨h1, h2, h3, h4, h5⟩; exact ⟨h1.symm, h2.symm, fun h => h3 h.symm, h5, h4⟩
theorem ltwice_same (a : Lk) (s t : Sd) : ltwiceE a s a t = false := by unfold ltwiceE; simp
set_option maxRecDepth 100000 in
set_option maxHeartbeats 8000000 in
theorem s_LLinkTwice (a b : Lk) (s t : Sd) : Spec (Ctx.mk Tryd.prog globX (0 + 1) Places) 6 [.agg (clP a b s t)] [] (.v (.bool true)) [] := by
  have q1 := s_short s
  have q2 := s_short t
  by_cases h : s.2.2.1.length ≤ 40 ∧ s.2.2.2.length ≤ 6
  · rw [decide_eq_true h] at q1
    by_cases h' : t.2.2.1.length ≤ 40 ∧ t.2.2.2.length ≤ 6
    · rw [decide_eq_true h'] at q2
      have hs : s.2.2.2.length ≤ 1000000 := Nat.le_trans h.2 (by decide)
      have ht : t.2.2.2.length ≤ 1000000 := Nat.le_trans h'.2 (by decide)
      have c1 := s_linkTwice a s b t hs ht
      have c2 := s_rlinkTwice a s b t hs ht
      have c3 := s_linkTwice b t a s ht hs
      have c4 := s_linkTwice a s a t hs ht
      rw [ltwice_swap] at c3
      rw [ltwice_same] at c4
      generalize ltwiceE a s b t = x at *
      clear h h' hs ht
      obtain ⟨sb, si, so, sp⟩ := s
      obtain ⟨tb, ti, tq, tp⟩ := t
      obtain ⟨a1, a2⟩ := a
      obtain ⟨b1, b2⟩ := b
      refine spec_of_bodyL CX_mixed CX_gpk Tryd.func6 rfl 61 0 rfl rfl rfl rfl ?_
      refine go_ ?_
      with_reducible apply run_y
      exact want_
      · intro K hK
        refine ev_ ?_
        refine vcCall_plain (s_awake44) (by kernel_rfl) ?_
        refine ev_ ?_
        exact hK
      refine go_ ?_
      with_reducible apply run_y
      exact want_
      · intro K hK
        refine ev_ ?_
        refine vcCall_plain (q1) (by kernel_rfl) ?_
        refine ev_ ?_
        exact hK
      refine go_ ?_
      with_reducible apply run_y
      exact want_
      · intro K hK
        refine ev_ ?_
        refine vcCall_plain (q2) (by kernel_rfl) ?_
        refine ev_ ?_
        exact hK
      refine go_ ?_
      cases x
      · skip
        with_reducible apply run_y
        exact want_
        · intro K hK
          refine ev_ ?_
          refine vcCall_plain (c1) (by kernel_rfl) ?_
          refine ev_ ?_
          exact hK
        refine go_ ?_
        with_reducible apply run_y
        exact want_
        · intro K hK
          refine ev_ ?_
          refine vcCall_plain (c2) (by kernel_rfl) ?_
          refine ev_ ?_
          exact hK
        refine go_ ?_
        with_reducible apply run_y
        exact want_
        · intro K hK
          refine ev_ ?_
          refine vcCall_plain (c3) (by kernel_rfl) ?_
          refine ev_ ?_
          exact hK
        refine go_ ?_
        with_reducible apply run_y
        exact want_
        · intro K hK
          refine ev_ ?_
          refine vcCall_plain (c4) (by kernel_rfl) ?_
          refine ev_ ?_
          exact hK
        refine go_ ?_
        refine ev_ ?_
        exact .mk (vb_eq (by simp)) trivial
      · skip
        with_reducible apply run_y
        exact want_
        · intro K hK
          refine ev_ ?_
          refine vcCall_plain (c1) (by kernel_rfl) ?_
          refine ev_ ?_
          exact hK
        refine go_ ?_
        with_reducible apply run_y
        exact want_
        · intro K hK
          refine ev_ ?_
          refine vcCall_plain (c2) (by kernel_rfl) ?_
          refine ev_ ?_
          exact hK
        refine go_ ?_
        with_reducible apply run_y
        exact want_
        · intro K hK
          refine ev_ ?_
          refine vcCall_plain (c3) (by kernel_rfl) ?_
          refine ev_ ?_
          exact hK
        refine go_ ?_
        with_reducible apply run_y
        exact want_
        · intro K hK
          refine ev_ ?_
          refine vcCall_plain (c4) (by kernel_rfl) ?_
          refine ev_ ?_
          exact hK
        refine go_ ?_
        refine ev_ ?_
        exact .mk (vb_eq (by simp)) trivial
    · rw [decide_eq_false h'] at q2
      clear h h'
      obtain ⟨sb, si, so, sp⟩ := s
      obtain ⟨tb, ti, tq, tp⟩ := t
      refine spec_of_bodyL CX_mixed CX_gpk Tryd.func6 rfl 61 0 rfl rfl rfl rfl ?_
      refine go_ ?_
      with_reducible apply run_y
      exact want_
      · intro K hK
        refine ev_ ?_
        refine vcCall_plain (s_awake44) (by kernel_rfl) ?_
        refine ev_ ?_
        exact hK
      refine go_ ?_
      with_reducible apply run_y
      exact want_
      · intro K hK
        refine ev_ ?_
        refine vcCall_plain (q1) (by kernel_rfl) ?_
        refine ev_ ?_
        exact hK
      refine go_ ?_
      with_reducible apply run_y
      exact want_
      · intro K hK
        refine ev_ ?_
        refine vcCall_plain (q2) (by kernel_rfl) ?_
        refine ev_ ?_
        exact hK
      refine go_ ?_
      refine ev_ ?_
      exact .mk (vb_eq (by simp)) trivial
  · rw [decide_eq_false h] at q1
    clear h q2
    obtain ⟨sb, si, so, sp⟩ := s
    obtain ⟨tb, ti, tq, tp⟩ := t
    refine spec_of_bodyL CX_mixed CX_gpk Tryd.func6 rfl 61 0 rfl rfl rfl rfl ?_
    refine go_ ?_
    with_reducible apply run_y
    exact want_
    · intro K hK
      refine ev_ ?_
      refine vcCall_plain (s_awake44) (by kernel_rfl) ?_
      refine ev_ ?_
      exact hK
    refine go_ ?_
    with_reducible apply run_y
    exact want_
    · intro K hK
      refine ev_ ?_
      refine vcCall_plain (q1) (by kernel_rfl) ?_
      refine ev_ ?_
      exact hK
    refine go_ ?_
    refine ev_ ?_
    exact .mk (vb_eq (by simp)) trivial
theorem isV_Claim {p : PV} (h : IsV (.st (.cons (.st shLk) (.cons (.st shLk) (.cons (.st shSd) (.cons (.st shSd) .nil))))) p) : ∃ (a b : Lk) (s t : Sd), p = .agg (clP a b s t) := by
  obtain ⟨ps, ⟨x, y, hx, ⟨x2, y2, hx2, ⟨x3, y3, hx3, ⟨x4, y4, hx4, h5, rfl⟩, rfl⟩, rfl⟩, rfl⟩, rfl⟩ := h
  obtain rfl : y4 = [] := h5
  obtain ⟨a, rfl⟩ := is_Lk hx
  obtain ⟨b, rfl⟩ := is_Lk hx2
  obtain ⟨s, rfl⟩ := is_Sd hx3
  obtain ⟨t, rfl⟩ := is_Sd hx4
  exact ⟨a, b, s, t, rfl⟩
theorem linkTwice_walk (q0 : PV) (v0 : Value) (w : World) (hP : Places w) (i0 : IsV (.st (.cons (.st shLk) (.cons (.st shLk) (.cons (.st shSd) (.cons (.st shSd) .nil))))) q0) (r0 : Rep (allOf w) q0 v0) : Calls Tryd.prog 6 #[v0] w fun e w' => e = .returned (.bool true) ∧ Grow w w' := by
  obtain ⟨a, b, s, t, rfl⟩ := isV_Claim i0
  exact walk_of (s_LLinkTwice a b s t) hP (args1 r0)
/-- Two links. -/
def lk2P (a b : Lk) : List PV := [.v (u (a.1.1.getD 0 0)), .v (u (a.1.1.getD 1 0)), .v (u (a.1.1.getD 2 0)), .v (u (a.1.1.getD 3 0)), .v (u (a.2.1.getD 0 0)), .v (u (a.2.1.getD 1 0)), .v (u (a.2.1.getD 2 0)), .v (u (a.2.1.getD 3 0)), .v (u (b.1.1.getD 0 0)), .v (u (b.1.1.getD 1 0)), .v (u (b.1.1.getD 2 0)), .v (u (b.1.1.getD 3 0)), .v (u (b.2.1.getD 0 0)), .v (u (b.2.1.getD 1 0)), .v (u (b.2.1.getD 2 0)), .v (u (b.2.1.getD 3 0))]
theorem lcheck_say (seed : D) {h i : Nat} (l : Lk) (hh : h ≤ 4) (hi : i < 2 ^ h) : lcheckE l (sayE seed h i l) = true := kcheck_sign seed _ hh hi
set_option maxRecDepth 100000 in
set_option maxHeartbeats 8000000 in
theorem s_LLinkOthers (p q : D) (a b : Lk) : Spec (Ctx.mk Tryd.prog globX (0 + 1) Places) 7 [.agg (dP p), .agg (dP q), .agg (lk2P a b)] [] (.v (.bool true)) [] := by
  have q1 := s_rsay p 0 0 a (by decide) (by decide)
  have q2 := s_rsay q 0 0 b (by decide) (by decide)
  have h1 := lcheck_say p (h := 0) (i := 0) a (by decide) (by decide)
  have h2 := lcheck_say q (h := 0) (i := 0) b (by decide) (by decide)
  have l1 : (sayE p 0 0 a).2.2.2.length = 0 := ksign_path p _ (by decide)
  have l2 : (sayE q 0 0 b).2.2.2.length = 0 := ksign_path q _ (by decide)
  generalize sayE p 0 0 a = s at *
  generalize sayE q 0 0 b = t at *
  have c1 := s_linkTwice a s b t (by omega) (by omega)
  have hx : ltwiceE a s b t = (decide (s.1 = t.1) && (decide (a.1 = b.1) && !decide (a.2 = b.2))) := by
    unfold ltwiceE; rw [h1, h2]; simp
  rw [hx] at c1
  clear hx h1 h2 l1 l2
  obtain ⟨sb, si, so, sp⟩ := s
  obtain ⟨tb, ti, tq, tp⟩ := t
  obtain ⟨a1, a2⟩ := a
  obtain ⟨b1, b2⟩ := b
  replace c1 : Spec (Ctx.mk Tryd.prog globX (0 + 1) Places) 36 [.agg (lkP (a1, a2)), .agg (sdP (sb, si, so, sp)), .agg (lkP (b1, b2)), .agg (sdP (tb, ti, tq, tp))] [] (.v (.bool (decide (sb = tb) && (decide (a1 = b1) && !decide (a2 = b2))))) [] := c1
  refine spec_of_bodyL CX_mixed CX_gpk Tryd.func7 rfl 52 0 rfl rfl rfl rfl ?_
  refine go_ ?_
  with_reducible apply run_y
  exact want_
  · intro K hK
    refine ev_ ?_
    refine vcCall_plain (s_awake44) (by kernel_rfl) ?_
    refine ev_ ?_
    exact hK
  refine go_ ?_
  with_reducible apply run_y
  exact want_
  · intro K hK
    refine ev_ ?_
    refine vcCall_plain (q1) (by kernel_rfl) ?_
    refine ev_ ?_
    exact hK
  refine go_ ?_
  with_reducible apply run_y
  exact want_
  · intro K hK
    refine ev_ ?_
    refine vcCall_plain (q2) (by kernel_rfl) ?_
    refine ev_ ?_
    exact hK
  refine go_ ?_
  cases e1 : decide (sb = tb)
  · rw [e1, Bool.false_and] at c1
    have e2 : (!decide (sb = tb)) = true := by rw [e1]; rfl
    with_reducible apply run_y
    exact want_
    · intro K hK
      refine ev_ ?_
      refine vcCall_plain (c1) (by kernel_rfl) ?_
      refine ev_ ?_
      exact hK
    refine go_ ?_
    refine ev_ ?_
    exact .mk (vb_eq (by simp)) trivial
  · rw [e1, Bool.true_and] at c1
    have e2 : (!decide (sb = tb)) = false := by rw [e1]; rfl
    cases e3 : decide (a1 = b1)
    · rw [e3, Bool.false_and] at c1
      with_reducible apply run_y
      exact want_
      · intro K hK
        refine ev_ ?_
        refine vcCall_plain (c1) (by kernel_rfl) ?_
        refine ev_ ?_
        exact hK
      refine go_ ?_
      refine ev_ ?_
      exact .mk (vb_eq (by simp)) trivial
    · rw [e3, Bool.true_and] at c1
      with_reducible apply run_y
      exact want_
      · intro K hK
        refine ev_ ?_
        refine vcCall_plain (c1) (by kernel_rfl) ?_
        refine ev_ ?_
        exact hK
      refine go_ ?_
      refine ev_ ?_
      exact .mk (vb_eq (by simp [of_decide_eq_true e3])) trivial
theorem isV_Lk2 {p : PV} (h : IsV (.arr 2 (.st shLk)) p) : ∃ a b : Lk, p = .agg (lk2P a b) := by
  obtain ⟨ps, ⟨es, hl, he, rfl⟩, rfl⟩ := h
  match es, hl with
  | [x, y], _ =>
    obtain ⟨a, rfl⟩ := is_Lk (he x (by simp))
    obtain ⟨b, rfl⟩ := is_Lk (he y (by simp))
    exact ⟨a, b, rfl⟩
theorem linkOthers_walk (q0 : PV) (v0 : Value) (q1 : PV) (v1 : Value) (q2 : PV) (v2 : Value) (w : World) (hP : Places w) (i0 : IsV shD q0) (r0 : Rep (allOf w) q0 v0) (i1 : IsV shD q1) (r1 : Rep (allOf w) q1 v1) (i2 : IsV (.arr 2 (.st shLk)) q2) (r2 : Rep (allOf w) q2 v2) : Calls Tryd.prog 7 #[v0, v1, v2] w fun e w' => e = .returned (.bool true) ∧ Grow w w' := by
  obtain ⟨p, rfl⟩ := isV_D i0
  obtain ⟨q, rfl⟩ := isV_D i1
  obtain ⟨a, b, rfl⟩ := isV_Lk2 i2
  exact walk_of (s_LLinkOthers p q a b) hP (args3 r0 r1 r2)
end Go.Proofs.YtjbklilnhemhmaaDoor
