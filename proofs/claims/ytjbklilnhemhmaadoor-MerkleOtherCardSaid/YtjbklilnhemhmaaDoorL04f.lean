import Derived.Test.YtjbklilnhemhmaaDoorClash
import Derived.Test.YtjbklilnhemhmaaDoorMk
/- Who is fooled, the document's Fooled. -/
namespace Go.Proofs.YtjbklilnhemhmaaDoor
open Go.RowKit
set_option linter.unnecessarySimpa false
theorem pne (a b c d : D) : decide ((a, b) ≠ (c, d)) = !(decide (a = c) && decide (b = d)) := by
  by_cases q1 : a = c <;> by_cases q2 : b = d <;> simp [q1, q2]
set_option maxRecDepth 100000 in
set_option maxHeartbeats 20000000 in
theorem s_rfooled (n : Nat) : ∀ (l : List D) (i : Nat) (leaf : D) (p : List D), l.length = n → n ≤ 1000 → i < n → p.length ≤ 1000 → Spec (Ctx.mk Tryd.prog globX (0 + 1) Places) 29 [.sl .any (dsP l), .v (.int .i64 (i : Int)), .agg (dP leaf), .sl .any (dsP p)] [] (.v (.bool (fooledE noneE l i leaf p))) [] := by
  induction n using Nat.strongRecOn with
  | ind n ih =>
    intro l i leaf p hl hn hi hp
    refine spec_of_bodyL CX_mixed CX_gpk Tryd.func29 rfl 132 0 rfl rfl rfl rfl ?_
    refine go_ ?_
    rw [dsP_len l]
    cases g1 : decide ((l.length : Int) < 2)
    case true =>
      have : l.length < 2 := by have := of_decide_eq_true g1; omega
      refine go_ ?_
      refine ev_ ?_
      exact .mk (vb_eq (by rw [fooledE_one noneE i leaf p this])) trivial
    case false =>
      have h2 : 2 ≤ l.length := by have := of_decide_eq_false g1; omega
      refine go_ ?_
      rw [dsP_len p]
      cases g2 : ((p.length : Int) == 0)
      case true =>
        have : p = [] := List.eq_nil_of_length_eq_zero (by simpa using g2)
        subst this
        refine go_ ?_
        refine ev_ ?_
        exact .mk (vb_eq (by rw [fooledE_nil noneE i leaf])) trivial
      case false =>
        have hne : p ≠ [] := by rintro rfl; simp at g2
        have hp0 : 0 < p.length := List.length_pos_iff.2 hne
        have hk := halfE_lt h2
        have hk0 := halfE_pos l.length
        refine go_ ?_
        have hdl : p.dropLast.length = p.length - 1 := List.length_dropLast
        subst hl
        rw [dsP_len l]
        have hfL := fun (hi' : i < halfE l.length) => fooledE_left noneE (l := l) (i := i) (p := p) leaf h2 hne hi'
        have hfR := fun (hi' : ¬ i < halfE l.length) => fooledE_right noneE (l := l) (i := i) (p := p) leaf h2 hne hi'
        simp only [last_at, pne] at hfL hfR
        have s0 := s_rhalf l.length h2 (by omega)
        have s1 := s_rroot (l.take (halfE l.length)) (by rw [List.length_take]; omega)
        have s2 := s_rroot (l.drop (halfE l.length)) (by rw [List.length_drop]; omega)
        have sL := fun (hi' : i < halfE l.length) => s_up (halfE l.length) i leaf p.dropLast (by omega) (by omega) hi' (by omega)
        have sR := fun (hi' : ¬ i < halfE l.length) => s_up (l.length - halfE l.length) (i - halfE l.length) leaf p.dropLast (by omega) (by omega) (by omega) (by omega)
        have iL := fun (hi' : i < halfE l.length) => ih (halfE l.length) (by omega) (l.take (halfE l.length)) i leaf p.dropLast (by rw [List.length_take]; omega) (by omega) hi' (by omega)
        have iR := fun (hi' : ¬ i < halfE l.length) => ih (l.length - halfE l.length) (by omega) (l.drop (halfE l.length)) (i - halfE l.length) leaf p.dropLast (by rw [List.length_drop]) (by omega) (by omega) (by omega)
        generalize rootE noneE (l.take (halfE l.length)) = r1 at s1 hfL hfR
        generalize rootE noneE (l.drop (halfE l.length)) = r2 at s2 hfL hfR
        generalize (upE (halfE l.length) i leaf p.dropLast) = ul at sL hfL
        generalize (upE (l.length - halfE l.length) (i - halfE l.length) leaf p.dropLast) = ur at sR hfR
        generalize fooledE noneE (l.take (halfE l.length)) i leaf p.dropLast = fl at iL hfL
        generalize fooledE noneE (l.drop (halfE l.length)) (i - halfE l.length) leaf p.dropLast = fr at iR hfR
        generalize halfE l.length = k at *
        with_reducible apply run_y
        exact want_
        · intro K hK
          refine ev_ ?_
          refine vcCall_plain (s0) (by kernel_rfl) ?_
          refine ev_ ?_
          exact hK
        refine go_ ?_
        rw [wrap_len hne (by omega)]
        refine go_ ?_
        rw [wrap_len hne (by omega)]
        generalize p.getD (p.length - 1) D.zero = z at *
        with_reducible apply run_y
        exact want_
        · intro K hK
          refine ev_ ?_
          refine ⟨0, p.length - 1, dsP p.dropLast, rfl, rfl, Nat.zero_le _, by rw [dsP_len]; omega, ⟨_, _, rfl, rfl, .inl rfl⟩, dsP_init p, ?_⟩
          refine ev_ ?_
          exact hK
        generalize p.dropLast = p' at *
        refine go_ ?_
        with_reducible apply run_y
        exact want_
        · intro K hK
          refine ev_ ?_
          refine ⟨0, k, dsP (l.take k), rfl, rfl, Nat.zero_le _, by rw [dsP_len]; omega, ⟨_, _, rfl, rfl, .inl rfl⟩, dsP_take l _, ?_⟩
          refine ev_ ?_
          exact hK
        refine go_ ?_
        with_reducible apply run_y
        exact want_
        · intro K hK
          refine ev_ ?_
          refine vcCall_plain (s1) (by kernel_rfl) ?_
          refine ev_ ?_
          exact hK
        refine go_ ?_
        with_reducible apply run_y
        exact want_
        · intro K hK
          refine ev_ ?_
          refine ⟨k, (dsP l).length, dsP (l.drop k), rfl, rfl, by rw [dsP_len]; omega, Nat.le_refl _, ⟨_, _, rfl, rfl, .inr (dsP_wide l)⟩, dsP_rest l _, ?_⟩
          refine ev_ ?_
          exact hK
        refine go_ ?_
        with_reducible apply run_y
        exact want_
        · intro K hK
          refine ev_ ?_
          refine vcCall_plain (s2) (by kernel_rfl) ?_
          refine ev_ ?_
          exact hK
        refine go_ ?_
        cases h5 : decide ((i : Int) < (k : Int))
        case true =>
          have hi' : i < k := by have := of_decide_eq_true h5; omega
          rw [hfL hi']
          replace sL := sL hi'
          replace iL := iL hi'
          clear hfL hfR sR iR
          obtain ⟨ul, ul2⟩ := ul
          refine go_ ?_
          with_reducible apply run_y
          exact want_
          · intro K hK
            refine ev_ ?_
            refine vcCall_plain (sL) (by kernel_rfl) ?_
            refine ev_ ?_
            exact hK
          refine go_ ?_
          with_reducible apply run_y
          exact want_
          · intro K hK
            refine ev_ ?_
            refine ⟨_, _, _, pP_flat r1 r2, pP_flat ul z, eq_P _ _ _ _, ?_⟩
            refine ev_ ?_
            exact hK
          cases e1 : (!(decide (r1 = ul) && decide (r2 = z)))
          case false =>
            refine go_ ?_
            with_reducible apply run_y
            exact want_
            · intro K hK
              refine ev_ ?_
              refine ⟨0, k, dsP (l.take k), rfl, rfl, Nat.zero_le _, by rw [dsP_len]; omega, ⟨_, _, rfl, rfl, .inl rfl⟩, dsP_take l _, ?_⟩
              refine ev_ ?_
              exact hK
            refine go_ ?_
            skip
            with_reducible apply run_y
            exact want_
            · intro K hK
              refine ev_ ?_
              refine vcCall_plain (iL) (by kernel_rfl) ?_
              refine ev_ ?_
              exact hK
            refine go_ ?_
            refine ev_ ?_
            exact .mk (vb_eq (by simp)) trivial
          case true =>
            refine go_ ?_
            have q1 := s_rpair r1 r2
            have q2 := s_rpair ul z
            generalize pairE r1 r2 = t1 at *
            generalize pairE ul z = t2 at *
            with_reducible apply run_y
            exact want_
            · intro K hK
              refine ev_ ?_
              refine vcCall_plain (q1) (by kernel_rfl) ?_
              refine ev_ ?_
              exact hK
            refine go_ ?_
            with_reducible apply run_y
            exact want_
            · intro K hK
              refine ev_ ?_
              refine vcCall_plain (q2) (by kernel_rfl) ?_
              refine ev_ ?_
              exact hK
            refine go_ ?_
            cases e2 : decide (t1 = t2)
            case false =>
              refine go_ ?_
              with_reducible apply run_y
              exact want_
              · intro K hK
                refine ev_ ?_
                refine ⟨0, k, dsP (l.take k), rfl, rfl, Nat.zero_le _, by rw [dsP_len]; omega, ⟨_, _, rfl, rfl, .inl rfl⟩, dsP_take l _, ?_⟩
                refine ev_ ?_
                exact hK
              refine go_ ?_
              skip
              with_reducible apply run_y
              exact want_
              · intro K hK
                refine ev_ ?_
                refine vcCall_plain (iL) (by kernel_rfl) ?_
                refine ev_ ?_
                exact hK
              refine go_ ?_
              refine ev_ ?_
              exact .mk (vb_eq (by simp)) trivial
            case true =>
              refine go_ ?_
              refine ev_ ?_
              exact .mk (vb_eq (by simp)) trivial
        case false =>
          have hi' : ¬ i < k := by have := of_decide_eq_false h5; omega
          rw [hfR hi']
          replace sR := sR hi'
          replace iR := iR hi'
          clear hfL hfR sL iL
          obtain ⟨ur, ur2⟩ := ur
          refine go_ ?_
          rw [dsP_len l, wrap_sub (a := l.length) (b := k) (by omega) (by omega), wrap_sub (a := i) (b := k) (by omega) (by omega)]
          with_reducible apply run_y
          exact want_
          · intro K hK
            refine ev_ ?_
            refine vcCall_plain (sR) (by kernel_rfl) ?_
            refine ev_ ?_
            exact hK
          refine go_ ?_
          with_reducible apply run_y
          exact want_
          · intro K hK
            refine ev_ ?_
            refine ⟨_, _, _, pP_flat r1 r2, pP_flat z ur, eq_P _ _ _ _, ?_⟩
            refine ev_ ?_
            exact hK
          cases e1 : (!(decide (r1 = z) && decide (r2 = ur)))
          case false =>
            refine go_ ?_
            with_reducible apply run_y
            exact want_
            · intro K hK
              refine ev_ ?_
              refine ⟨k, (dsP l).length, dsP (l.drop k), rfl, rfl, by rw [dsP_len]; omega, Nat.le_refl _, ⟨_, _, rfl, rfl, .inr (dsP_wide l)⟩, dsP_rest l _, ?_⟩
              refine ev_ ?_
              exact hK
            refine go_ ?_
            rw [wrap_sub (a := i) (b := k) (by omega) (by omega)]
            with_reducible apply run_y
            exact want_
            · intro K hK
              refine ev_ ?_
              refine vcCall_plain (iR) (by kernel_rfl) ?_
              refine ev_ ?_
              exact hK
            refine go_ ?_
            refine ev_ ?_
            exact .mk (vb_eq (by simp)) trivial
          case true =>
            refine go_ ?_
            have q1 := s_rpair r1 r2
            have q2 := s_rpair z ur
            generalize pairE r1 r2 = t1 at *
            generalize pairE z ur = t2 at *
            with_reducible apply run_y
            exact want_
            · intro K hK
              refine ev_ ?_
              refine vcCall_plain (q1) (by kernel_rfl) ?_
              refine ev_ ?_
              exact hK
            refine go_ ?_
            with_reducible apply run_y
            exact want_
            · intro K hK
              refine ev_ ?_
              refine vcCall_plain (q2) (by kernel_rfl) ?_
              refine ev_ ?_
              exact hK
            refine go_ ?_
            cases e2 : decide (t1 = t2)
            case false =>
              refine go_ ?_
              with_reducible apply run_y
              exact want_
              · intro K hK
                refine ev_ ?_
                refine ⟨k, (dsP l).length, dsP (l.drop k), rfl, rfl, by rw [dsP_len]; omega, Nat.le_refl _, ⟨_, _, rfl, rfl, .inr (dsP_wide l)⟩, dsP_rest l _, ?_⟩
                refine ev_ ?_
                exact hK
              refine go_ ?_
              rw [wrap_sub (a := i) (b := k) (by omega) (by omega)]
              with_reducible apply run_y
              exact want_
              · intro K hK
                refine ev_ ?_
                refine vcCall_plain (iR) (by kernel_rfl) ?_
                refine ev_ ?_
                exact hK
              refine go_ ?_
              refine ev_ ?_
              exact .mk (vb_eq (by simp)) trivial
            case true =>
              refine go_ ?_
              refine ev_ ?_
              exact .mk (vb_eq (by simp)) trivial
end Go.Proofs.YtjbklilnhemhmaaDoor
