import Derived.Test.YtolkeknbhfnefaaDoorKeyT
/- Heads that are signed: the laws HeadChecks and HeadSigns. -/
namespace Go.Proofs.YtolkeknbhfnefaaDoor
open Go.RowKit
set_option linter.unnecessarySimpa false
theorem s_hof (k : Int) (d : D) (h1 : -9223372036854775808 ≤ k) (h2 : k ≤ 9223372036854775807) : Spec (Ctx.mk Tryd.prog globX (0 + 1) Places) 36 [.agg (hP k d)] [] (.agg (dP (hdE k d))) [] :=
  spec_val rfl (fun E => rep_D E _) fun E vs hp hF ha => by
    obtain ⟨x, rfl, r⟩ := repC1 ha
    rw [rep_hP r]
    exact hof_c k d E.w h1 h2 hp
theorem s_rhof (k : Int) (d : D) (h1 : -9223372036854775808 ≤ k) (h2 : k ≤ 9223372036854775807) : Spec (Ctx.mk Tryd.prog globX (0 + 1) Places) 54 [.agg (hP k d)] [] (.agg (dP (hdE k d))) [] :=
  spec_val rfl (fun E => rep_D E _) fun E vs hp hF ha => by
    obtain ⟨x, rfl, r⟩ := repC1 ha
    rw [rep_hP r]
    exact rhof_c k d E.w h1 h2 hp
set_option maxRecDepth 100000 in
theorem s_hcheck (k : Int) (d : D) (h1 : -9223372036854775808 ≤ k) (h2 : k ≤ 9223372036854775807) (s : Sd) (hs : s.2.2.2.length ≤ 1000000) : Spec (Ctx.mk Tryd.prog globX (0 + 1) Places) 33 [.agg (hP k d), .agg (sdP s)] [] (.v (.bool (kcheckE s.1 (hdE k d) s.2))) [] := by
  have q1 := s_hof k d h1 h2
  generalize hdE k d = z at *
  obtain ⟨b, i, one, path⟩ := s
  refine spec_of_bodyL CX_mixed CX_gpk Tryd.func33 rfl 12 0 rfl rfl rfl rfl ?_
  refine go_ ?_
  with_reducible apply run_y
  exact want_
  · intro K hK
    refine ev_ ?_
    refine vcCall_plain (q1) (by kernel_rfl) ?_
    refine ev_ ?_
    exact hK
  refine go_ ?_
  with_reducible apply run_y
  exact want_
  · intro K hK
    refine ev_ ?_
    refine vcCall_plain (s_kcheck b z (i, one, path) hs) (by kernel_rfl) ?_
    refine ev_ ?_
    exact hK
  refine go_ ?_
  refine ev_ ?_
  exact .mk (by rfl) trivial
set_option maxRecDepth 100000 in
theorem s_rhcheck (k : Int) (d : D) (h1 : -9223372036854775808 ≤ k) (h2 : k ≤ 9223372036854775807) (s : Sd) (hs : s.2.2.2.length ≤ 1000000) : Spec (Ctx.mk Tryd.prog globX (0 + 1) Places) 34 [.agg (hP k d), .agg (sdP s)] [] (.v (.bool (kcheckE s.1 (hdE k d) s.2))) [] := by
  have q1 := s_rhof k d h1 h2
  generalize hdE k d = z at *
  obtain ⟨b, i, one, path⟩ := s
  refine spec_of_bodyL CX_mixed CX_gpk Tryd.func34 rfl 12 0 rfl rfl rfl rfl ?_
  refine go_ ?_
  with_reducible apply run_y
  exact want_
  · intro K hK
    refine ev_ ?_
    refine vcCall_plain (q1) (by kernel_rfl) ?_
    refine ev_ ?_
    exact hK
  refine go_ ?_
  with_reducible apply run_y
  exact want_
  · intro K hK
    refine ev_ ?_
    refine vcCall_plain (s_rkcheck b z (i, one, path) hs) (by kernel_rfl) ?_
    refine ev_ ?_
    exact hK
  refine go_ ?_
  refine ev_ ?_
  exact .mk (by rfl) trivial
set_option maxRecDepth 100000 in
theorem s_short43 (s : Sd) : Spec (Ctx.mk Tryd.prog globX (0 + 1) Places) 32 [.agg (sdP s)] [] (.v (.bool (decide (s.2.2.1.length ≤ 40 ∧ s.2.2.2.length ≤ 6)))) [] := by
  obtain ⟨b, i, one, path⟩ := s
  have hd : decide (one.length ≤ 40 ∧ path.length ≤ 6) = (decide (((dsP one).length : Int) ≤ 40) && decide (((dsP path).length : Int) ≤ 6)) := by
    rw [dsP_len, dsP_len, Bool.eq_iff_iff]; simp; omega
  show Spec _ _ _ _ (.v (.bool (decide (one.length ≤ 40 ∧ path.length ≤ 6)))) _
  rw [hd]
  refine spec_of_bodyL CX_mixed CX_gpk Tryd.func32 rfl 15 0 rfl rfl rfl rfl ?_
  refine go_ ?_
  cases e1 : decide (((dsP one).length : Int) ≤ 40)
  · skip
    refine go_ ?_
    refine ev_ ?_
    exact .mk (vb_eq (by simp)) trivial
  refine go_ ?_
  refine ev_ ?_
  exact .mk (vb_eq (by simp)) trivial
set_option maxRecDepth 100000 in
set_option maxHeartbeats 4000000 in
theorem s_headChecks (k : Int) (d : D) (h1 : -9223372036854775808 ≤ k) (h2 : k ≤ 9223372036854775807) (s : Sd) : Spec (Ctx.mk Tryd.prog globX (0 + 1) Places) 11 [.agg (hP k d), .agg (sdP s)] [] (.v (.bool true)) [] := by
  have q1 := s_short43 s
  by_cases h : s.2.2.1.length ≤ 40 ∧ s.2.2.2.length ≤ 6
  · rw [decide_eq_true h] at q1
    have c1 := s_hcheck k d h1 h2 s (Nat.le_trans h.2 (by decide))
    have c2 := s_rhcheck k d h1 h2 s (Nat.le_trans h.2 (by decide))
    generalize kcheckE s.1 (hdE k d) s.2 = x at *
    clear h
    obtain ⟨b, i, one, path⟩ := s
    refine spec_of_bodyL CX_mixed CX_gpk Tryd.func11 rfl 17 0 rfl rfl rfl rfl ?_
    refine go_ ?_
    with_reducible apply run_y
    exact want_
    · intro K hK
      refine ev_ ?_
      refine vcCall_plain (s_alive43) (by kernel_rfl) ?_
      refine ev_ ?_
      exact hK
    refine go_ ?_
    with_reducible apply run_y
    exact want_
    · intro K hK
      refine ev_ ?_
      refine vcCall_plain (q1) (by kernel_rfl) ?_
      refine ev_ ?_
      exact hK
    refine go_ ?_
    with_reducible apply run_y
    exact want_
    · intro K hK
      refine ev_ ?_
      refine vcCall_plain (c1) (by kernel_rfl) ?_
      refine ev_ ?_
      exact hK
    refine go_ ?_
    with_reducible apply run_y
    exact want_
    · intro K hK
      refine ev_ ?_
      refine vcCall_plain (c2) (by kernel_rfl) ?_
      refine ev_ ?_
      exact hK
    refine go_ ?_
    refine ev_ ?_
    exact .mk (vb_eq (by simp)) trivial
  · rw [decide_eq_false h] at q1
    clear h
    obtain ⟨b, i, one, path⟩ := s
    refine spec_of_bodyL CX_mixed CX_gpk Tryd.func11 rfl 17 0 rfl rfl rfl rfl ?_
    refine go_ ?_
    with_reducible apply run_y
    exact want_
    · intro K hK
      refine ev_ ?_
      refine vcCall_plain (s_alive43) (by kernel_rfl) ?_
      refine ev_ ?_
      exact hK
    refine go_ ?_
    with_reducible apply run_y
    exact want_
    · intro K hK
      refine ev_ ?_
      refine vcCall_plain (q1) (by kernel_rfl) ?_
      refine ev_ ?_
      exact hK
    refine go_ ?_
    refine ev_ ?_
    exact .mk (vb_eq (by simp)) trivial
def shHd : Sh := .cons (.int .i64) (.cons shD .nil)
theorem isV_Hd {p : PV} (h : IsV (.st shHd) p) : ∃ (k : Int) (d : D), (Lit.int .i64 k).wf = true ∧ p = .agg (hP k d) := by
  obtain ⟨ps, ⟨x, y, ⟨n, hn, rfl⟩, ⟨x2, y2, hx2, h3, rfl⟩, rfl⟩, rfl⟩ := h
  obtain rfl : y2 = [] := h3
  obtain ⟨d, rfl⟩ := is_D hx2
  exact ⟨n, d, hn, rfl⟩
theorem headChecks_walk (q0 : PV) (v0 : Value) (q1 : PV) (v1 : Value) (w : World) (hP : Places w) (i0 : IsV (.st shHd) q0) (r0 : Rep (allOf w) q0 v0) (i1 : IsV (.st shSd) q1) (r1 : Rep (allOf w) q1 v1) : Calls Tryd.prog 11 #[v0, v1] w fun e w' => e = .returned (.bool true) ∧ Grow w w' := by
  obtain ⟨k, d, hk, rfl⟩ := isV_Hd i0
  obtain ⟨s, rfl⟩ := isV_Sd i1
  have hb := bounds_i64 hk
  exact walk_of (s_headChecks k d hb.1 hb.2 s) hP (args2 r0 r1)
set_option maxRecDepth 100000 in
set_option maxHeartbeats 4000000 in
theorem s_headSigns (k : Int) (d : D) (h1 : -9223372036854775808 ≤ k) (h2 : k ≤ 9223372036854775807) (seed : D) (x : Nat) (_ : x ≤ 255) : Spec (Ctx.mk Tryd.prog globX (0 + 1) Places) 12 [.agg (hP k d), .agg (dP seed), .v (.int .u8 (x : Int))] [] (.v (.bool true)) [] := by
  have hh : 0 ≤ (1 : Int) ∧ (1 : Int) ≤ 4 := by decide
  have hn : x % 2 < 2 := Nat.mod_lt _ (by decide)
  have hw : IntKind.i64.wrap ((x : Int).tmod 2) = ((x % 2 : Nat) : Int) := by
    rw [show (x : Int).tmod 2 = ((x % 2 : Nat) : Int) from rfl, wrap64 (by omega) (by omega)]
  generalize x % 2 = n at *
  have q0 := s_knew_ok (seed := seed) hh
  have q1 := s_kpublic_ok (seed := seed) hh
  have q2 := s_kuse_ok (seed := seed) (msg := hdE k d) (i := (n : Int)) hh ⟨by omega, by show (n : Int) < ((2 ^ 1 : Nat) : Int); omega⟩
  have o1 := s_hof k d h1 h2
  have c1 : kcheckE (kpubE seed 1) (hdE k d) (ksignE seed 1 n (hdE k d)) = true := kcheck_sign seed _ (by decide) hn
  have l1 : (ksignE seed 1 n (hdE k d)).2.2.length = 1 := ksign_path seed _ hn
  replace q1 : Spec (Ctx.mk Tryd.prog globX (0 + 1) Places) 35 [.agg (dP seed), .v (.int .i64 1)] [] (.tup [.agg (dP (kpubE seed 1)), .v (.int .i64 0)]) [] := q1
  replace q2 : Spec (Ctx.mk Tryd.prog globX (0 + 1) Places) 17 [.agg (srP (seed, 1, (n : Int))), .agg (dP (hdE k d))] [] (.tup [.agg (srP (seed, 1, (n : Int) + 1)), .agg (sgP (ksignE seed 1 n (hdE k d))), .v (.int .i64 0)]) [] := q2
  generalize kpubE seed 1 = pub at *
  generalize ksignE seed 1 n (hdE k d) = sg at *
  have q3 := s_hcheck k d h1 h2 (pub, sg) (by show sg.2.2.length ≤ _; omega)
  replace q3 : Spec (Ctx.mk Tryd.prog globX (0 + 1) Places) 33 [.agg (hP k d), .agg (sdP (pub, sg))] [] (.v (.bool (kcheckE pub (hdE k d) sg))) [] := q3
  rw [c1] at q3
  clear c1 l1
  generalize hdE k d = z at *
  obtain ⟨si, so, sp⟩ := sg
  refine spec_of_bodyL CX_mixed CX_gpk Tryd.func12 rfl 55 0 rfl rfl rfl rfl ?_
  refine go_ ?_
  with_reducible apply run_y
  exact want_
  · intro K hK
    refine ev_ ?_
    refine vcCall_plain (s_alive43) (by kernel_rfl) ?_
    refine ev_ ?_
    exact hK
  refine go_ ?_
  rw [hw]
  refine go_ ?_
  with_reducible apply run_y
  exact want_
  · intro K hK
    refine ev_ ?_
    refine vcCall_plain (q0) (by kernel_rfl) ?_
    refine ev_ ?_
    exact hK
  refine goto_ 8 ?_
  refine c_seq_cut (fun q_ m_ h_ => q_ = [.top, .top, .top, .ptr 1 0, .ptr 2 0, .top, .v (.bool false), .top, .ptr 3 0, .top, .ptr 4 0, .v (.int .i64 0)] ++ List.replicate 43 .top ∧ m_ = 7 ∧ h_ = [(1, .cells (hP k d)), (2, .cells (dP seed)), (3, .cells (srP (seed, 1, (n : Int)))), (4, .cells (dP pub)), (5, .free), (6, .free)]) ?_ ?_
  · skip
    refine go_ ?_
    with_reducible apply run_y
    exact want_
    · intro K hK
      refine ev_ ?_
      refine vcCall_plain (q1) (by kernel_rfl) ?_
      refine ev_ ?_
      exact hK
    refine go_ ?_
    refine c_cut ⟨_, _, _, ?_, ?_, rfl, rfl, rfl⟩
    · rfl
    · exact sub_
  rintro q_ m_ h_ hlen ⟨rfl, rfl, rfl⟩
  clear hlen
  refine go_ ?_
  with_reducible apply run_y
  exact want_
  · intro K hK
    refine ev_ ?_
    refine vcCall_plain (o1) (by kernel_rfl) ?_
    refine ev_ ?_
    exact hK
  refine go_ ?_
  with_reducible apply run_y
  exact want_
  · intro K hK
    refine ev_ ?_
    refine vcCall_plain q2 (by kernel_rfl) ?_
    refine ev_ ?_
    exact hK
  with_reducible apply run_y
  exact want_
  exact step_
  with_reducible apply run_y
  exact want_
  exact step_
  with_reducible apply run_y
  exact want_
  exact step_
  with_reducible apply run_y
  exact want_
  exact step_
  with_reducible apply run_y
  exact want_
  · intro K hK
    conv => whnf
    refine And.intro (by kernel_rfl) (Or.inr ⟨5, by decide, by kernel_rfl, ?_⟩)
    refine ev_ ?_
    exact hK
  with_reducible apply run_y
  exact want_
  · intro K hK
    conv => whnf
    refine And.intro (by kernel_rfl) (Or.inr ⟨6, by decide, by kernel_rfl, ?_⟩)
    refine ev_ ?_
    exact hK
  refine go_ ?_
  with_reducible apply run_y
  exact want_
  · intro K hK
    refine ev_ ?_
    refine vcCall_plain (q3) (by kernel_rfl) ?_
    refine ev_ ?_
    exact hK
  refine go_ ?_
  refine ev_ ?_
  exact .mk (vb_eq (by simp)) trivial
theorem headSigns_walk (q0 : PV) (v0 : Value) (q1 : PV) (v1 : Value) (q2 : PV) (v2 : Value) (w : World) (hP : Places w) (i0 : IsV (.st shHd) q0) (r0 : Rep (allOf w) q0 v0) (i1 : IsV shD q1) (r1 : Rep (allOf w) q1 v1) (i2 : IsV (.int .u8) q2) (r2 : Rep (allOf w) q2 v2) : Calls Tryd.prog 12 #[v0, v1, v2] w fun e w' => e = .returned (.bool true) ∧ Grow w w' := by
  obtain ⟨k, d, hk, rfl⟩ := isV_Hd i0
  obtain ⟨seed, rfl⟩ := isV_D i1
  obtain ⟨x, hx, rfl⟩ := i2
  have hb := bounds_i64 hk
  have bx := bounds_u8 hx
  obtain ⟨x, rfl⟩ := Int.eq_ofNat_of_zero_le bx.1
  exact walk_of (s_headSigns k d hb.1 hb.2 seed x (by omega)) hP (args3 r0 r1 r2)
end Go.Proofs.YtolkeknbhfnefaaDoor
