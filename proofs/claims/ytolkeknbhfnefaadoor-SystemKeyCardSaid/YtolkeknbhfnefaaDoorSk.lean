import Derived.Test.YtolkeknbhfnefaaDoorKeyT
import Derived.Test.YtolkeknbhfnefaaDoorGvPure
import Derived.Test.YtolkeknbhfnefaaDoorAhead
/- The law SystemKey. -/
namespace Go.Proofs.YtolkeknbhfnefaaDoor
open Go.RowKit
set_option linter.unnecessarySimpa false
theorem repC4 {E : Env} {p q r s : PV} {vs : Array Value} (h : RepC E [p, q, r, s] vs) : ∃ x y z v, vs = #[x, y, z, v] ∧ Rep E p x ∧ Rep E q y ∧ Rep E r z ∧ Rep E s v := by
  obtain ⟨hl, h⟩ := h
  refine ⟨vs.getD 0 undef, vs.getD 1 undef, vs.getD 2 undef, vs.getD 3 undef, ?_, h 0 (by simp), h 1 (by simp), h 2 (by simp), h 3 (by simp)⟩
  apply Array.ext
  · exact hl.symm
  · intro i hi _
    simp at hl
    have : i = 0 ∨ i = 1 ∨ i = 2 ∨ i = 3 := by omega
    rcases this with rfl | rfl | rfl | rfl <;> simp [Array.getD, hi]
theorem firstFrom_none {p : Nat → Bool} (h : ∀ j, p j = false) : ∀ (n k : Nat), firstFrom p k n = none
  | 0, _ => rfl
  | n + 1, k => by unfold firstFrom; rw [h k]; exact firstFrom_none h n (k + 1)
theorem ahead_unlike (seed a b : D) : (aheadE a (signE seed a) b (signE seed b)).2.2 = !decide (a = b) := by
  by_cases h : a = b
  · subst h
    rw [decide_eq_true rfl]
    unfold aheadE
    rw [if_pos ⟨signE_length seed a, signE_length seed a⟩, firstFrom_none]
    · rfl
    · intro j
      unfold shows
      rw [decide_eq_false (Nat.lt_irrefl _), Bool.false_and]
  · obtain ⟨i, _, h2, _⟩ := ahead_sign seed a b h
    rw [h2, decide_eq_false h]; rfl
theorem ock_sign (seed msg : D) : ockE (publicE seed) msg (signE seed msg) = true := by
  rw [checkE_eq, reachP_sign]; simp
theorem rep_tup_idb (E : Env) (i : Int) (d : D) (b : Bool) : Rep E (.tup [.v (.int .i64 i), .agg (dP d), .v (.bool b)]) (.tuple #[.int .i64 i, .agg (us d.1), .bool b]) := .tup _ _ rfl fun j hj => by
  have hj : j < 3 := hj
  match j, hj with
  | 0, _ => exact .v _
  | 1, _ => exact rep_D E d
  | 2, _ => exact .v _
theorem s_ahead (msg other : D) (s t : List D) (hs : s.length = 35) (ht : t.length = 35) : Spec (Ctx.mk Tryd.prog globX (0 + 1) Places) 15 [.agg (dP msg), .sl .any (dsP s), .agg (dP other), .sl .any (dsP t)] [] (.tup [.v (.int .i64 ((aheadE msg s other t).1 : Int)), .agg (dP (aheadE msg s other t).2.1), .v (.bool (aheadE msg s other t).2.2)]) [] :=
  spec_val rfl (fun E => rep_tup_idb E _ _ _) fun E vs hp hF ha => by
    obtain ⟨x, y, z, v, rfl, r, r', r'', r3⟩ := repC4 ha
    obtain ⟨A, c, rfl, h⟩ := rep_ds hF r'
    obtain ⟨B, c', rfl, h'⟩ := rep_ds hF r3
    rw [rep_dP r, rep_dP r'']
    rw [hs] at h ⊢
    rw [ht] at h' ⊢
    exact ahead_c msg other A B c c' s t E.w hp h h'
theorem s_ocheck (pub msg : D) (s : List D) : Spec (Ctx.mk Tryd.prog globX (0 + 1) Places) 18 [.agg (dP pub), .agg (dP msg), .sl .any (dsP s)] [] (.v (.bool (ockE pub msg s))) [] :=
  spec_val rfl (fun E => .v _) fun E vs hp hF ha => by
    obtain ⟨x, y, z, rfl, r, r', r''⟩ := repC3 ha
    obtain ⟨A, c, rfl, h⟩ := rep_ds hF r''
    rw [rep_dP r, rep_dP r']
    exact check_c pub msg A _ c s E.w hp h
set_option maxRecDepth 100000 in
set_option maxHeartbeats 8000000 in
theorem s_systemKey (seed a b : D) : Spec (Ctx.mk Tryd.prog globX (0 + 1) Places) 3 [.agg (dP seed), .agg (dP a), .agg (dP b)] [] (.v (.bool true)) [] := by
  have hh : 0 ≤ (1 : Int) ∧ (1 : Int) ≤ 4 := by decide
  have q1 := s_osign seed a
  have q2 := s_osign seed b
  have q3 := s_public seed
  have q4 := s_ahead a b (signE seed a) (signE seed b) (signE_length seed a) (signE_length seed b)
  have q5 := s_ahead b a (signE seed b) (signE seed a) (signE_length seed b) (signE_length seed a)
  rw [ahead_unlike] at q4 q5
  have q6 := s_knew_ok (seed := seed) hh
  have q7 := s_kuse_ok (seed := seed) (msg := a) (i := 0) hh (by decide)
  have q8 := s_kuse_ok (seed := seed) (msg := b) (i := 1) hh (by decide)
  have q9 := s_kuse_used (seed := seed) (msg := a) (i := 2) hh (by decide)
  have q10 := s_ocheck (publicE seed) a (signE seed a)
  have q11 := s_ocheck (publicE seed) b (signE seed b)
  rw [ock_sign] at q10 q11
  have x1 : (ksignE seed 1 0 a).1 = 0 := rfl
  have x2 : (ksignE seed 1 1 b).1 = 1 := rfl
  replace q7 : Spec (Ctx.mk Tryd.prog globX (0 + 1) Places) 17 [.agg (srP (seed, 1, 0)), .agg (dP a)] [] (.tup [.agg (srP (seed, 1, 1)), .agg (sgP (ksignE seed 1 0 a)), .v (.int .i64 0)]) [] := q7
  replace q8 : Spec (Ctx.mk Tryd.prog globX (0 + 1) Places) 17 [.agg (srP (seed, 1, 1)), .agg (dP b)] [] (.tup [.agg (srP (seed, 1, 2)), .agg (sgP (ksignE seed 1 1 b)), .v (.int .i64 0)]) [] := q8
  generalize ksignE seed 1 0 a = sx at *
  generalize ksignE seed 1 1 b = sy at *
  obtain ⟨i1, s1, p1⟩ := sx
  obtain ⟨i2, s2, p2⟩ := sy
  replace x1 : i1 = 0 := x1
  replace x2 : i2 = 1 := x2
  subst x1 x2
  generalize (aheadE a (signE seed a) b (signE seed b)).1 = k1 at *
  generalize (aheadE a (signE seed a) b (signE seed b)).2.1 = d1 at *
  generalize (aheadE b (signE seed b) a (signE seed a)).1 = k2 at *
  generalize (aheadE b (signE seed b) a (signE seed a)).2.1 = d2 at *
  generalize signE seed a = sa at *
  generalize signE seed b = sb at *
  generalize publicE seed = pub at *
  have e1 : (decide (b = a)) = (decide (a = b)) := by rw [Bool.eq_iff_iff]; simp [eq_comm]
  rw [e1] at q5
  generalize hc : decide (a = b) = c at *
  refine spec_of_bodyL CX_mixed CX_gpk Tryd.func3 rfl 124 0 rfl rfl rfl rfl ?_
  refine go_ ?_
  with_reducible apply run_y
  exact want_
  · intro K hK
    refine ev_ ?_
    refine vcCall_plain (q1) (by kernel_rfl) ?_
    refine ev_ ?_
    exact hK
  refine go_ ?_
  with_reducible apply run_y
  exact want_
  · intro K hK
    refine ev_ ?_
    refine vcCall_plain (q2) (by kernel_rfl) ?_
    refine ev_ ?_
    exact hK
  refine go_ ?_
  with_reducible apply run_y
  exact want_
  · intro K hK
    refine ev_ ?_
    refine vcCall_plain (q3) (by kernel_rfl) ?_
    refine ev_ ?_
    exact hK
  refine go_ ?_
  with_reducible apply run_y
  exact want_
  · intro K hK
    refine ev_ ?_
    refine vcCall_plain (q4) (by kernel_rfl) ?_
    refine ev_ ?_
    exact hK
  refine go_ ?_
  with_reducible apply run_y
  exact want_
  · intro K hK
    refine ev_ ?_
    refine vcCall_plain (q5) (by kernel_rfl) ?_
    refine ev_ ?_
    exact hK
  refine go_ ?_
  with_reducible apply run_y
  exact want_
  · intro K hK
    refine ev_ ?_
    refine vcCall_plain (q6) (by kernel_rfl) ?_
    refine ev_ ?_
    exact hK
  refine go_ ?_
  with_reducible apply run_y
  exact want_
  · intro K hK
    refine ev_ ?_
    refine vcCall_plain (q7) (by kernel_rfl) ?_
    refine ev_ ?_
    exact hK
  refine go_ ?_
  with_reducible apply run_y
  exact want_
  · intro K hK
    refine ev_ ?_
    refine vcCall_plain (q8) (by kernel_rfl) ?_
    refine ev_ ?_
    exact hK
  refine go_ ?_
  with_reducible apply run_y
  exact want_
  · intro K hK
    refine ev_ ?_
    refine vcCall_plain (q9) (by kernel_rfl) ?_
    refine ev_ ?_
    exact hK
  refine go_ ?_
  with_reducible apply run_y
  exact want_
  · intro K hK
    refine ev_ ?_
    refine vcCall_plain (q10) (by kernel_rfl) ?_
    refine ev_ ?_
    exact hK
  refine go_ ?_
  with_reducible apply run_y
  exact want_
  · intro K hK
    refine ev_ ?_
    refine vcCall_plain (q11) (by kernel_rfl) ?_
    refine ev_ ?_
    exact hK
  refine go_ ?_
  rw [hc]
  cases c
  · skip
    refine go_ ?_
    rw [hc]
    refine go_ ?_
    refine ev_ ?_
    exact .mk (vb_eq (by simp)) trivial
  · skip
    refine go_ ?_
    rw [hc]
    refine go_ ?_
    refine ev_ ?_
    exact .mk (vb_eq (by simp)) trivial
theorem systemKey_walk (q0 : PV) (v0 : Value) (q1 : PV) (v1 : Value) (q2 : PV) (v2 : Value) (w : World) (hP : Places w) (i0 : IsV shD q0) (r0 : Rep (allOf w) q0 v0) (i1 : IsV shD q1) (r1 : Rep (allOf w) q1 v1) (i2 : IsV shD q2) (r2 : Rep (allOf w) q2 v2) : Calls Tryd.prog 3 #[v0, v1, v2] w fun e w' => e = .returned (.bool true) ∧ Grow w w' := by
  obtain ⟨seed, rfl⟩ := isV_D i0
  obtain ⟨a, rfl⟩ := isV_D i1
  obtain ⟨b, rfl⟩ := isV_D i2
  exact walk_of (s_systemKey seed a b) hP (args3 r0 r1 r2)
end Go.Proofs.YtolkeknbhfnefaaDoor
