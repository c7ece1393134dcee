import Derived.Test.YtjbklilnhemhmaaDoorKeyS
/- Laws of keys: public keys, signatures, checks, uses. -/
namespace Go.Proofs.YtjbklilnhemhmaaDoor
open Go.RowKit
set_option linter.unnecessarySimpa false
set_option maxRecDepth 100000 in
set_option maxHeartbeats 8000000 in
theorem s_keysPublic (seed : D) (h : Int) : Spec (Ctx.mk Tryd.prog globX (0 + 1) Places) 12 [.agg (dP seed), .v (.int .i64 h)] [] (.v (.bool true)) [] := by
  refine spec_of_bodyL CX_mixed CX_gpk Tryd.func12 rfl 70 0 rfl rfl rfl rfl ?_
  refine go_ ?_
  with_reducible apply run_y
  exact want_
  · intro K hK
    refine ev_ ?_
    refine vcCall_plain (s_awake06) (by kernel_rfl) ?_
    refine ev_ ?_
    exact hK
  refine go_ ?_
  cases e1 : (h == 3)
  case true =>
    refine go_ ?_
    refine ev_ ?_
    exact .mk (vb_eq (by simp)) trivial
  case false =>
    refine go_ ?_
    cases e2 : (h == 4)
    case true =>
      refine go_ ?_
      refine ev_ ?_
      exact .mk (vb_eq (by simp)) trivial
    case false =>
      refine go_ ?_
      by_cases hh : 0 ≤ h ∧ h ≤ 4
      · skip
        with_reducible apply run_y
        exact want_
        · intro K hK
          refine ev_ ?_
          refine vcCall_plain (s_kpublic_ok hh) (by kernel_rfl) ?_
          refine ev_ ?_
          exact hK
        refine go_ ?_
        with_reducible apply run_y
        exact want_
        · intro K hK
          refine ev_ ?_
          refine vcCall_plain (s_rkpublic_ok hh) (by kernel_rfl) ?_
          refine ev_ ?_
          exact hK
        refine go_ ?_
        with_reducible apply run_y
        exact want_
        · intro K hK
          refine ev_ ?_
          refine vcCall_plain (s_knew_ok hh) (by kernel_rfl) ?_
          refine ev_ ?_
          exact hK
        refine go_ ?_
        with_reducible apply run_y
        exact want_
        · intro K hK
          refine ev_ ?_
          refine ⟨_, _, _, srP_flat (seed, h, 0), srP_flat (seed, h, 0), eq_Sr _ _, ?_⟩
          refine ev_ ?_
          exact hK
        refine go_ ?_
        refine ev_ ?_
        exact .mk (vb_eq (by simp)) trivial
      · skip
        with_reducible apply run_y
        exact want_
        · intro K hK
          refine ev_ ?_
          refine vcCall_plain (s_kpublic_no hh) (by kernel_rfl) ?_
          refine ev_ ?_
          exact hK
        refine go_ ?_
        with_reducible apply run_y
        exact want_
        · intro K hK
          refine ev_ ?_
          refine vcCall_plain (s_rkpublic_no hh) (by kernel_rfl) ?_
          refine ev_ ?_
          exact hK
        refine go_ ?_
        with_reducible apply run_y
        exact want_
        · intro K hK
          refine ev_ ?_
          refine vcCall_plain (s_knew_no hh) (by kernel_rfl) ?_
          refine ev_ ?_
          exact hK
        refine go_ ?_
        with_reducible apply run_y
        exact want_
        · intro K hK
          refine ev_ ?_
          refine ⟨_, _, _, srP_flat zeroSr, srP_flat zeroSr, eq_Sr _ _, ?_⟩
          refine ev_ ?_
          exact hK
        refine go_ ?_
        refine ev_ ?_
        exact .mk (vb_eq (by simp)) trivial
theorem keysPublic_walk (q0 : PV) (v0 : Value) (q1 : PV) (v1 : Value) (w : World) (hP : Places w) (i0 : IsV shD q0) (r0 : Rep (allOf w) q0 v0) (i1 : IsV (.int .i64) q1) (r1 : Rep (allOf w) q1 v1) : Calls Tryd.prog 12 #[v0, v1] w fun e w' => e = .returned (.bool true) ∧ Grow w w' := by
  obtain ⟨seed, rfl⟩ := isV_D i0
  obtain ⟨h, -, rfl⟩ := isV_int i1
  exact walk_of (s_keysPublic seed h) hP (args2 r0 r1)
theorem ksign_one (seed msg : D) (h i : Nat) : (ksignE seed h i msg).2.1.length = 35 := signE_length _ msg
set_option maxRecDepth 100000 in
set_option maxHeartbeats 8000000 in
theorem s_keysSigns (seed : D) (h i : Int) (msg : D) : Spec (Ctx.mk Tryd.prog globX (0 + 1) Places) 8 [.agg (dP seed), .agg [.v (.int .i64 h), .v (.int .i64 i)], .agg (dP msg)] [] (.v (.bool true)) [] := by
  refine spec_of_bodyL CX_mixed CX_gpk Tryd.func8 rfl 69 0 rfl rfl rfl rfl ?_
  refine go_ ?_
  with_reducible apply run_y
  exact want_
  · intro K hK
    refine ev_ ?_
    refine vcCall_plain (s_awake06) (by kernel_rfl) ?_
    refine ev_ ?_
    exact hK
  refine go_ ?_
  cases e1 : (h == 3)
  case true =>
    refine go_ ?_
    refine ev_ ?_
    exact .mk (vb_eq (by simp)) trivial
  case false =>
    refine go_ ?_
    cases e2 : (h == 4)
    case true =>
      refine go_ ?_
      refine ev_ ?_
      exact .mk (vb_eq (by simp)) trivial
    case false =>
      refine go_ ?_
      by_cases hh : 0 ≤ h ∧ h ≤ 4
      · by_cases hi : 0 ≤ i ∧ i < ((2 ^ h.toNat : Nat) : Int)
        · have hlt : i.toNat < 2 ^ h.toNat := by
            obtain ⟨n, rfl⟩ := Int.eq_ofNat_of_zero_le hi.1
            rw [Int.toNat_natCast]; exact Int.ofNat_lt.1 hi.2
          have hc := kcheck_sign seed msg (h := h.toNat) (by omega) hlt
          have h1 := ksign_one seed msg h.toNat i.toNat
          have h2 := ksign_path seed msg hlt
          have q1 := s_ksign_ok (msg := msg) hh hi (seed := seed)
          have q2 := s_rksign_ok (msg := msg) hh hi (seed := seed)
          have q3 := s_kpublic_ok hh (seed := seed)
          generalize ksignE seed h.toNat i.toNat msg = sg at *
          generalize kpubE seed h.toNat = pub at *
          have q4 := s_rsame06 sg sg (by omega) (by omega)
          have q5 := s_kcheck pub msg sg (by omega)
          rw [decide_eq_true rfl] at q4
          rw [hc] at q5
          clear hc h1 h2 hlt
          obtain ⟨j, one, path⟩ := sg
          with_reducible apply run_y
          exact want_
          · intro K hK
            refine ev_ ?_
            refine vcCall_plain (q1) (by kernel_rfl) ?_
            refine ev_ ?_
            exact hK
          refine go_ ?_
          with_reducible apply run_y
          exact want_
          · intro K hK
            refine ev_ ?_
            refine vcCall_plain (q2) (by kernel_rfl) ?_
            refine ev_ ?_
            exact hK
          refine go_ ?_
          with_reducible apply run_y
          exact want_
          · intro K hK
            refine ev_ ?_
            refine vcCall_plain (q4) (by kernel_rfl) ?_
            refine ev_ ?_
            exact hK
          refine go_ ?_
          with_reducible apply run_y
          exact want_
          · intro K hK
            refine ev_ ?_
            refine vcCall_plain (q3) (by kernel_rfl) ?_
            refine ev_ ?_
            exact hK
          refine go_ ?_
          with_reducible apply run_y
          exact want_
          · intro K hK
            refine ev_ ?_
            refine vcCall_plain (q5) (by kernel_rfl) ?_
            refine ev_ ?_
            exact hK
          refine go_ ?_
          refine ev_ ?_
          exact .mk (vb_eq (by simp)) trivial
        · have q1 := s_ksign_arg (msg := msg) hh hi (seed := seed)
          have q2 := s_rksign_arg (msg := msg) hh hi (seed := seed)
          have q4 := s_rsame06 zeroSg zeroSg (by decide) (by decide)
          rw [decide_eq_true rfl] at q4
          with_reducible apply run_y
          exact want_
          · intro K hK
            refine ev_ ?_
            refine vcCall_plain (q1) (by kernel_rfl) ?_
            refine ev_ ?_
            exact hK
          refine go_ ?_
          with_reducible apply run_y
          exact want_
          · intro K hK
            refine ev_ ?_
            refine vcCall_plain (q2) (by kernel_rfl) ?_
            refine ev_ ?_
            exact hK
          refine go_ ?_
          with_reducible apply run_y
          exact want_
          · intro K hK
            refine ev_ ?_
            refine vcCall_plain (q4) (by kernel_rfl) ?_
            refine ev_ ?_
            exact hK
          refine go_ ?_
          refine ev_ ?_
          exact .mk (vb_eq (by simp)) trivial
      · have q1 := s_ksign_no (i := i) (msg := msg) hh (seed := seed)
        have q2 := s_rksign_no (i := i) (msg := msg) hh (seed := seed)
        have q4 := s_rsame06 zeroSg zeroSg (by decide) (by decide)
        rw [decide_eq_true rfl] at q4
        with_reducible apply run_y
        exact want_
        · intro K hK
          refine ev_ ?_
          refine vcCall_plain (q1) (by kernel_rfl) ?_
          refine ev_ ?_
          exact hK
        refine go_ ?_
        with_reducible apply run_y
        exact want_
        · intro K hK
          refine ev_ ?_
          refine vcCall_plain (q2) (by kernel_rfl) ?_
          refine ev_ ?_
          exact hK
        refine go_ ?_
        with_reducible apply run_y
        exact want_
        · intro K hK
          refine ev_ ?_
          refine vcCall_plain (q4) (by kernel_rfl) ?_
          refine ev_ ?_
          exact hK
        refine go_ ?_
        refine ev_ ?_
        exact .mk (vb_eq (by simp)) trivial
theorem keysSigns_walk (q0 : PV) (v0 : Value) (q1 : PV) (v1 : Value) (q2 : PV) (v2 : Value) (w : World) (hP : Places w) (i0 : IsV shD q0) (r0 : Rep (allOf w) q0 v0) (i1 : IsV (.arr 2 (.int .i64)) q1) (r1 : Rep (allOf w) q1 v1) (i2 : IsV shD q2) (r2 : Rep (allOf w) q2 v2) : Calls Tryd.prog 8 #[v0, v1, v2] w fun e w' => e = .returned (.bool true) ∧ Grow w w' := by
  obtain ⟨seed, rfl⟩ := isV_D i0
  obtain ⟨h, i, -, -, rfl⟩ := isV_two i1
  obtain ⟨msg, rfl⟩ := isV_D i2
  exact walk_of (s_keysSigns seed h i msg) hP (args3 r0 r1 r2)
set_option maxRecDepth 100000 in
set_option maxHeartbeats 8000000 in
theorem s_keysCheck (pub msg : D) (s : Sg) : Spec (Ctx.mk Tryd.prog globX (0 + 1) Places) 9 [.agg (dP pub), .agg (dP msg), .agg (sgP s)] [] (.v (.bool true)) [] := by
  obtain ⟨i, one, path⟩ := s
  refine spec_of_bodyL CX_mixed CX_gpk Tryd.func9 rfl 28 0 rfl rfl rfl rfl ?_
  refine go_ ?_
  with_reducible apply run_y
  exact want_
  · intro K hK
    refine ev_ ?_
    refine vcCall_plain (s_awake06) (by kernel_rfl) ?_
    refine ev_ ?_
    exact hK
  refine go_ ?_
  cases e1 : decide (((dsP one).length : Int) > 40)
  case true =>
    refine go_ ?_
    refine ev_ ?_
    exact .mk (vb_eq (by simp)) trivial
  case false =>
    refine go_ ?_
    cases e2 : decide (((dsP path).length : Int) > 6)
    case true =>
      refine go_ ?_
      refine ev_ ?_
      exact .mk (vb_eq (by simp)) trivial
    case false =>
      have hp : path.length ≤ 6 := by have := of_decide_eq_false e2; rw [dsP_len] at this; omega
      refine go_ ?_
      with_reducible apply run_y
      exact want_
      · intro K hK
        refine ev_ ?_
        refine vcCall_plain (s_kcheck pub msg (i, one, path) (Nat.le_trans hp (by decide))) (by kernel_rfl) ?_
        refine ev_ ?_
        exact hK
      refine go_ ?_
      with_reducible apply run_y
      exact want_
      · intro K hK
        refine ev_ ?_
        refine vcCall_plain (s_rkcheck pub msg (i, one, path) (Nat.le_trans hp (by decide))) (by kernel_rfl) ?_
        refine ev_ ?_
        exact hK
      refine go_ ?_
      refine ev_ ?_
      exact .mk (vb_eq (by simp)) trivial
theorem keysCheck_walk (q0 : PV) (v0 : Value) (q1 : PV) (v1 : Value) (q2 : PV) (v2 : Value) (w : World) (hP : Places w) (i0 : IsV shD q0) (r0 : Rep (allOf w) q0 v0) (i1 : IsV shD q1) (r1 : Rep (allOf w) q1 v1) (i2 : IsV (.st shSg) q2) (r2 : Rep (allOf w) q2 v2) : Calls Tryd.prog 9 #[v0, v1, v2] w fun e w' => e = .returned (.bool true) ∧ Grow w w' := by
  obtain ⟨pub, rfl⟩ := isV_D i0
  obtain ⟨msg, rfl⟩ := isV_D i1
  obtain ⟨s, -, -, -, rfl⟩ := isV_Sg i2
  exact walk_of (s_keysCheck pub msg s) hP (args3 r0 r1 r2)
set_option maxRecDepth 100000 in
set_option maxHeartbeats 8000000 in
theorem s_keysUses (s : Sr) (msg : D) : Spec (Ctx.mk Tryd.prog globX (0 + 1) Places) 13 [.agg (srP s), .agg (dP msg)] [] (.v (.bool true)) [] := by
  obtain ⟨seed, h, i⟩ := s
  refine spec_of_bodyL CX_mixed CX_gpk Tryd.func13 rfl 80 0 rfl rfl rfl rfl ?_
  refine go_ ?_
  with_reducible apply run_y
  exact want_
  · intro K hK
    refine ev_ ?_
    refine vcCall_plain (s_awake06) (by kernel_rfl) ?_
    refine ev_ ?_
    exact hK
  refine go_ ?_
  cases e1 : (h == 3)
  case true =>
    refine go_ ?_
    refine ev_ ?_
    exact .mk (vb_eq (by simp)) trivial
  case false =>
    refine go_ ?_
    cases e2 : (h == 4)
    case true =>
      refine go_ ?_
      refine ev_ ?_
      exact .mk (vb_eq (by simp)) trivial
    case false =>
      refine go_ ?_
      by_cases hh : 0 ≤ h ∧ h ≤ 4
      · by_cases hi : 0 ≤ i ∧ i < ((2 ^ h.toNat : Nat) : Int)
        · obtain ⟨n, rfl⟩ := Int.eq_ofNat_of_zero_le hi.1
          have hlt : n < 2 ^ h.toNat := Int.ofNat_lt.1 hi.2
          have hp4 := pow4 (show h.toNat ≤ 4 by omega)
          have hw1 : IntKind.i64.wrap ((n : Int) + 1) = (n : Int) + 1 := by rw [wrap64 (by omega) (by omega)]
          have hc := kcheck_sign seed msg (h := h.toNat) (by omega) hlt
          have h1 := ksign_one seed msg h.toNat n
          have h2 := ksign_path seed msg hlt
          have q1 := s_kuse_ok (msg := msg) hh hi (seed := seed)
          have q2 := s_rkuse_ok (msg := msg) hh hi (seed := seed)
          have q3 := s_kpublic_ok hh (seed := seed)
          rw [Int.toNat_natCast] at q1 q2
          have h3 : (ksignE seed h.toNat n msg).1 = (n : Int) := rfl
          generalize ksignE seed h.toNat n msg = sg at *
          generalize kpubE seed h.toNat = pub at *
          have q4 := s_rsame06 sg sg (by omega) (by omega)
          have q5 := s_kcheck pub msg sg (by omega)
          rw [decide_eq_true rfl] at q4
          rw [hc] at q5
          clear hc h1 h2 hlt hp4
          obtain ⟨j, one, path⟩ := sg
          replace h3 : j = (n : Int) := h3
          subst h3
          with_reducible apply run_y
          exact want_
          · intro K hK
            refine ev_ ?_
            refine vcCall_plain (q1) (by kernel_rfl) ?_
            refine ev_ ?_
            exact hK
          refine go_ ?_
          with_reducible apply run_y
          exact want_
          · intro K hK
            refine ev_ ?_
            refine vcCall_plain (q2) (by kernel_rfl) ?_
            refine ev_ ?_
            exact hK
          refine go_ ?_
          with_reducible apply run_y
          exact want_
          · intro K hK
            refine ev_ ?_
            refine ⟨_, _, _, srP_flat (seed, h, (n : Int) + 1), srP_flat (seed, h, (n : Int) + 1), eq_Sr _ _, ?_⟩
            refine ev_ ?_
            exact hK
          refine go_ ?_
          with_reducible apply run_y
          exact want_
          · intro K hK
            refine ev_ ?_
            refine vcCall_plain (q4) (by kernel_rfl) ?_
            refine ev_ ?_
            exact hK
          refine go_ ?_
          with_reducible apply run_y
          exact want_
          · intro K hK
            refine ev_ ?_
            refine vcCall_plain (q3) (by kernel_rfl) ?_
            refine ev_ ?_
            exact hK
          refine go_ ?_
          rw [hw1]
          refine go_ ?_
          with_reducible apply run_y
          exact want_
          · intro K hK
            refine ev_ ?_
            refine vcCall_plain (q5) (by kernel_rfl) ?_
            refine ev_ ?_
            exact hK
          refine go_ ?_
          refine ev_ ?_
          exact .mk (vb_eq (by simp)) trivial
        · have q1 := s_kuse_used (msg := msg) hh hi (seed := seed)
          have q2 := s_rkuse_used (msg := msg) hh hi (seed := seed)
          have q4 := s_rsame06 zeroSg zeroSg (by decide) (by decide)
          rw [decide_eq_true rfl] at q4
          with_reducible apply run_y
          exact want_
          · intro K hK
            refine ev_ ?_
            refine vcCall_plain (q1) (by kernel_rfl) ?_
            refine ev_ ?_
            exact hK
          refine go_ ?_
          with_reducible apply run_y
          exact want_
          · intro K hK
            refine ev_ ?_
            refine vcCall_plain (q2) (by kernel_rfl) ?_
            refine ev_ ?_
            exact hK
          refine go_ ?_
          with_reducible apply run_y
          exact want_
          · intro K hK
            refine ev_ ?_
            refine ⟨_, _, _, srP_flat zeroSr, srP_flat zeroSr, eq_Sr _ _, ?_⟩
            refine ev_ ?_
            exact hK
          refine go_ ?_
          with_reducible apply run_y
          exact want_
          · intro K hK
            refine ev_ ?_
            refine vcCall_plain (q4) (by kernel_rfl) ?_
            refine ev_ ?_
            exact hK
          refine go_ ?_
          refine ev_ ?_
          exact .mk (vb_eq (by simp)) trivial
      · have q1 := s_kuse_no (i := i) (msg := msg) hh (seed := seed)
        have q2 := s_rkuse_no (i := i) (msg := msg) hh (seed := seed)
        have q4 := s_rsame06 zeroSg zeroSg (by decide) (by decide)
        rw [decide_eq_true rfl] at q4
        with_reducible apply run_y
        exact want_
        · intro K hK
          refine ev_ ?_
          refine vcCall_plain (q1) (by kernel_rfl) ?_
          refine ev_ ?_
          exact hK
        refine go_ ?_
        with_reducible apply run_y
        exact want_
        · intro K hK
          refine ev_ ?_
          refine vcCall_plain (q2) (by kernel_rfl) ?_
          refine ev_ ?_
          exact hK
        refine go_ ?_
        with_reducible apply run_y
        exact want_
        · intro K hK
          refine ev_ ?_
          refine ⟨_, _, _, srP_flat zeroSr, srP_flat zeroSr, eq_Sr _ _, ?_⟩
          refine ev_ ?_
          exact hK
        refine go_ ?_
        with_reducible apply run_y
        exact want_
        · intro K hK
          refine ev_ ?_
          refine vcCall_plain (q4) (by kernel_rfl) ?_
          refine ev_ ?_
          exact hK
        refine go_ ?_
        refine ev_ ?_
        exact .mk (vb_eq (by simp)) trivial
theorem keysUses_walk (q0 : PV) (v0 : Value) (q1 : PV) (v1 : Value) (w : World) (hP : Places w) (i0 : IsV (.st (.cons shD (.cons (.int .i64) (.cons (.int .i64) .nil)))) q0) (r0 : Rep (allOf w) q0 v0) (i1 : IsV shD q1) (r1 : Rep (allOf w) q1 v1) : Calls Tryd.prog 13 #[v0, v1] w fun e w' => e = .returned (.bool true) ∧ Grow w w' := by
  obtain ⟨s, -, -, rfl⟩ := isV_Sr i0
  obtain ⟨msg, rfl⟩ := isV_D i1
  exact walk_of (s_keysUses s msg) hP (args2 r0 r1)
end Go.Proofs.YtjbklilnhemhmaaDoor
