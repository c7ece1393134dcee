import Derived.Test.YtjbklilnhemhmaaDoorKeyS
import Derived.Test.YtjbklilnhemhmaaDoorKeyC
/- The law KeysClash. -/
namespace Go.Proofs.YtjbklilnhemhmaaDoor
open Go.RowKit
set_option linter.unnecessarySimpa false
def cpP (pub m n : D) (s t : Sg) : List PV := [.v (u (pub.1.getD 0 0)), .v (u (pub.1.getD 1 0)), .v (u (pub.1.getD 2 0)), .v (u (pub.1.getD 3 0)), .v (u (m.1.getD 0 0)), .v (u (m.1.getD 1 0)), .v (u (m.1.getD 2 0)), .v (u (m.1.getD 3 0)), .v (u (n.1.getD 0 0)), .v (u (n.1.getD 1 0)), .v (u (n.1.getD 2 0)), .v (u (n.1.getD 3 0)), .v (.int .i64 s.1), .sl .any (dsP s.2.1), .sl .any (dsP s.2.2), .v (.int .i64 t.1), .sl .any (dsP t.2.1), .sl .any (dsP t.2.2)]
set_option maxRecDepth 100000 in
set_option maxHeartbeats 4000000 in
theorem s_keysClash (pub m n : D) (s t : Sg) : Spec (Ctx.mk Tryd.prog globX (0 + 1) Places) 10 [.agg (cpP pub m n s t)] [] (.v (.bool true)) [] := by
  obtain ⟨i, o1, p1⟩ := s
  obtain ⟨k, o2, p2⟩ := t
  refine spec_of_bodyL CX_mixed CX_gpk Tryd.func10 rfl 109 0 rfl rfl rfl rfl ?_
  refine go_ ?_
  with_reducible apply run_y
  exact want_
  · intro K hK
    refine ev_ ?_
    refine vcCall_plain (s_awake06) (by kernel_rfl) ?_
    refine ev_ ?_
    exact hK
  refine go_ ?_
  cases e1 : decide (((dsP o1).length : Int) > 40)
  rotate_left
  · skip
    refine go_ ?_
    refine ev_ ?_
    exact .mk (vb_eq (by simp)) trivial
  refine go_ ?_
  cases e2 : decide (((dsP o2).length : Int) > 40)
  rotate_left
  · skip
    refine go_ ?_
    refine ev_ ?_
    exact .mk (vb_eq (by simp)) trivial
  refine go_ ?_
  cases e3 : decide (((dsP p1).length : Int) > 6)
  rotate_left
  · skip
    refine go_ ?_
    refine ev_ ?_
    exact .mk (vb_eq (by simp)) trivial
  refine go_ ?_
  cases e4 : (i != k)
  rotate_left
  · skip
    refine go_ ?_
    refine ev_ ?_
    exact .mk (vb_eq (by simp)) trivial
  refine go_ ?_
  cases e5 : (((dsP p1).length : Int) != ((dsP p2).length : Int))
  rotate_left
  · skip
    refine go_ ?_
    refine ev_ ?_
    exact .mk (vb_eq (by simp)) trivial
  have e6 : i = k := by simpa using e4
  subst e6
  have e7 : p1.length = p2.length := by
    have : ((dsP p1).length : Int) = ((dsP p2).length : Int) := by simpa using e5
    rw [dsP_len, dsP_len] at this; omega
  have e8 : p1.length ≤ 6 := by have := of_decide_eq_false e3; rw [dsP_len] at this; omega
  have q1 := s_kcheck pub m (i, o1, p1) (Nat.le_trans e8 (by decide))
  have q2 := s_kcheck pub n (i, o2, p2) (by rw [← e7]; exact Nat.le_trans e8 (by decide))
  refine go_ ?_
  cases c1 : kcheckE pub m (i, o1, p1)
  · rw [c1] at q1
    with_reducible apply run_y
    exact want_
    · intro K hK
      refine ev_ ?_
      refine vcCall_plain (q1) (by kernel_rfl) ?_
      refine ev_ ?_
      exact hK
    refine go_ ?_
    refine ev_ ?_
    exact .mk (vb_eq (by simp)) trivial
  rw [c1] at q1
  with_reducible apply run_y
  exact want_
  · intro K hK
    refine ev_ ?_
    refine vcCall_plain (q1) (by kernel_rfl) ?_
    refine ev_ ?_
    exact hK
  refine go_ ?_
  cases c2 : kcheckE pub n (i, o2, p2)
  · rw [c2] at q2
    with_reducible apply run_y
    exact want_
    · intro K hK
      refine ev_ ?_
      refine vcCall_plain (q2) (by kernel_rfl) ?_
      refine ev_ ?_
      exact hK
    refine go_ ?_
    refine ev_ ?_
    exact .mk (vb_eq (by simp)) trivial
  rw [c2] at q2
  have hcl := kcheck_clash c1 c2 rfl e7
  obtain ⟨x, hx, r1, -, l1, b1⟩ := kcheck_rise c1
  obtain ⟨-, -, r2, -⟩ := kcheck_rise c2
  replace hx : i = (x : Int) := hx
  subst hx
  replace r1 : (reachP m o1).2 = true := r1
  replace r2 : (reachP n o2).2 = true := r2
  replace hcl : (reachP m o1).1 = (reachP n o2).1 ∨ clashK x (reachP m o1).1 p1 (reachP n o2).1 p2 = true := hcl
  have hx4 : x ≤ 1000000 := by
    have := pow4 l1
    replace b1 : x < 2 ^ p1.length := b1
    replace this : 2 ^ p1.length ≤ 16 := this
    omega
  clear b1 l1 c1 c2 q1 e1 e2 e3 e4 e5
  have q3 := s_roreach m o1
  have q4 := s_roreach n o2
  generalize reachP m o1 = ra at *
  generalize reachP n o2 = rb at *
  obtain ⟨a, oka⟩ := ra
  obtain ⟨b, okb⟩ := rb
  replace r1 : oka = true := r1
  replace r2 : okb = true := r2
  subst r1
  subst r2
  with_reducible apply run_y
  exact want_
  · intro K hK
    refine ev_ ?_
    refine vcCall_plain (q2) (by kernel_rfl) ?_
    refine ev_ ?_
    exact hK
  refine go_ ?_
  with_reducible apply run_y
  exact want_
  · intro K hK
    refine ev_ ?_
    refine vcCall_plain (q3) (by kernel_rfl) ?_
    refine ev_ ?_
    exact hK
  refine go_ ?_
  with_reducible apply run_y
  exact want_
  · intro K hK
    refine ev_ ?_
    refine vcCall_plain (q4) (by kernel_rfl) ?_
    refine ev_ ?_
    exact hK
  refine go_ ?_
  cases e9 : decide (a = b)
  rotate_left
  · skip
    refine go_ ?_
    refine ev_ ?_
    exact .mk (vb_eq (by simp)) trivial
  have q5 := s_rclash06 x a p1 b p2 hx4 (by omega) (by omega)
  rw [hcl.resolve_left (of_decide_eq_false e9)] at q5
  refine go_ ?_
  with_reducible apply run_y
  exact want_
  · intro K hK
    refine ev_ ?_
    refine vcCall_plain (q5) (by kernel_rfl) ?_
    refine ev_ ?_
    exact hK
  refine go_ ?_
  refine ev_ ?_
  exact .mk (vb_eq (by simp)) trivial
theorem keysClash_walk (q0 : PV) (v0 : Value) (w : World) (hP : Places w) (i0 : IsV (.st (.cons shD (.cons shD (.cons shD (.cons (.st shSg) (.cons (.st shSg) .nil)))))) q0) (r0 : Rep (allOf w) q0 v0) : Calls Tryd.prog 10 #[v0] w fun e w' => e = .returned (.bool true) ∧ Grow w w' := by
  obtain ⟨pub, m, n, s, t, rfl⟩ := isV_Pair i0
  exact walk_of (s_keysClash pub m n s t) hP (args1 r0)
end Go.Proofs.YtjbklilnhemhmaaDoor
