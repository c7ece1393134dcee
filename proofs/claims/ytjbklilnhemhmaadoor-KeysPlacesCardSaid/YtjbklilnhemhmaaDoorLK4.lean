import Derived.Test.YtjbklilnhemhmaaDoorKeyS
import Derived.Test.YtjbklilnhemhmaaDoorKeyC
/- The law KeysPlaces. -/
namespace Go.Proofs.YtjbklilnhemhmaaDoor
open Go.RowKit
set_option linter.unnecessarySimpa false
theorem tmod_nat (a b : Nat) (h : b ≤ 1000) (h0 : 0 < b) : IntKind.i64.wrap ((a : Int).tmod (b : Int)) = ((a % b : Nat) : Int) := by
  have h1 : (a : Int).tmod (b : Int) = ((a % b : Nat) : Int) := rfl
  have := Nat.mod_lt a h0
  rw [h1, wrap64 (by omega) (by omega)]
theorem key_places (seed msg : D) {n i k : Nat} (hn : n ≤ 4) (hi : i < 2 ^ n) (hk : k < 2 ^ n) (h : kcheckE (kpubE seed n) msg ((k : Int), (ksignE seed n i msg).2.1, (ksignE seed n i msg).2.2) = true) :
    publicE (kseedE seed k) = publicE (kseedE seed i) ∨ clashK k (publicE (kseedE seed i)) (ksignE seed n i msg).2.2 (publicE (kseedE seed k)) (ksignE seed n k msg).2.2 = true := by
  have h2 := kcheck_sign seed msg hn hk
  have := kcheck_clash (s := ((k : Int), (ksignE seed n i msg).2.1, (ksignE seed n i msg).2.2)) (t := ksignE seed n k msg) h h2 rfl (by show (wayE _ _ _).length = (wayE _ _ _).length; rw [way_pow seed hi, way_pow seed hk])
  have e1 : reachP msg (ksignE seed n i msg).2.1 = (publicE (kseedE seed i), true) := reachP_sign _ msg
  have e2 : reachP msg (ksignE seed n k msg).2.1 = (publicE (kseedE seed k), true) := reachP_sign _ msg
  simp only [e1, e2, Int.toNat_natCast] at this
  exact this.imp_left Eq.symm
set_option maxRecDepth 100000 in
set_option maxHeartbeats 4000000 in
theorem s_keysPlaces (seed : D) (a b c : Nat) (ha : a < 256) (hb : b < 256) (hc : c < 256) (msg : D) : Spec (Ctx.mk Tryd.prog globX (0 + 1) Places) 11 [.agg (dP seed), .agg [.v (.int .u8 (a : Int)), .v (.int .u8 (b : Int)), .v (.int .u8 (c : Int))], .agg (dP msg)] [] (.v (.bool true)) [] := by
  have wa : IntKind.i64.wrap (a : Int) = (a : Int) := wrap64 (by omega) (by omega)
  have wb : IntKind.i64.wrap (b : Int) = (b : Int) := wrap64 (by omega) (by omega)
  have wc : IntKind.i64.wrap (c : Int) = (c : Int) := wrap64 (by omega) (by omega)
  have ta : (a : Int).tmod 2 = ((a % 2 : Nat) : Int) := rfl
  have h1 : IntKind.i64.wrap (1 + ((a % 2 : Nat) : Int)) = ((a % 2 + 1 : Nat) : Int) := by rw [wrap64 (by omega) (by omega)]; omega
  have hn1 : 1 ≤ a % 2 + 1 := by omega
  have hn2 : a % 2 + 1 ≤ 2 := by omega
  refine spec_of_bodyL CX_mixed CX_gpk Tryd.func11 rfl 113 0 rfl rfl rfl rfl ?_
  refine go_ ?_
  with_reducible apply run_y
  exact want_
  · intro K hK
    refine ev_ ?_
    refine vcCall_plain (s_awake06) (by kernel_rfl) ?_
    refine ev_ ?_
    exact hK
  refine go_ ?_
  rw [wa, ta, h1]
  generalize a % 2 + 1 = n at *
  have h2 : IntKind.i64.wrap (2 * (n : Int)) = ((2 * n : Nat) : Int) := by rw [wrap64 (by omega) (by omega)]; omega
  have hpow : 2 * n = 2 ^ n := by
    have : n = 1 ∨ n = 2 := by omega
    rcases this with rfl | rfl <;> rfl
  have tb : (b : Int).tmod ((2 * n : Nat) : Int) = ((b % (2 * n) : Nat) : Int) := rfl
  have tc : (c : Int).tmod ((2 * n : Nat) : Int) = ((c % (2 * n) : Nat) : Int) := rfl
  have hi : b % (2 * n) < 2 ^ n := by rw [← hpow]; exact Nat.mod_lt _ (by omega)
  have hk : c % (2 * n) < 2 ^ n := by rw [← hpow]; exact Nat.mod_lt _ (by omega)
  have hne : ((2 * n : Nat) : Int) ≠ 0 := by omega
  rw [h2]
  refine go_ ?_
  rw [wb, wc, tb, tc]
  clear tb tc
  generalize b % (2 * n) = i at *
  generalize c % (2 * n) = k at *
  have hh : 0 ≤ (n : Int) ∧ (n : Int) ≤ 4 := by omega
  have hki := key_places seed msg (n := n) (by omega) hi hk
  have q1 := s_ksign_ok (seed := seed) (msg := msg) (i := (i : Int)) hh ⟨by omega, by rw [Int.toNat_natCast]; exact Int.ofNat_lt.2 hi⟩
  have q2 := s_ksign_ok (seed := seed) (msg := msg) (i := (k : Int)) hh ⟨by omega, by rw [Int.toNat_natCast]; exact Int.ofNat_lt.2 hk⟩
  have q3 := s_kpublic_ok (seed := seed) hh
  rw [Int.toNat_natCast] at q3
  rw [Int.toNat_natCast, Int.toNat_natCast] at q1 q2
  have c1 := kcheck_sign seed msg (h := n) (by omega) hi
  have l1 := ksign_path seed msg hi
  have l2 := ksign_path seed msg hk
  have q4 := s_rkeys seed n (by omega)
  have kl := keysE_len seed (2 ^ n)
  have k1 := keysE_at seed hi
  have k2 := keysE_at seed hk
  generalize ksignE seed n i msg = s at *
  generalize ksignE seed n k msg = t at *
  generalize kpubE seed n = pub at *
  generalize publicE (kseedE seed i) = pi at *
  generalize publicE (kseedE seed k) = pk at *
  generalize keysE seed (2 ^ n) = ks at *
  have q5 := s_kcheck pub msg s (by omega)
  have q6 := s_kcheck pub msg ((k : Int), s.2.1, s.2.2) (by show s.2.2.length ≤ _; omega)
  rw [c1] at q5
  have hp4 : 2 ^ n ≤ 16 := pow4 (by omega)
  have hi' : i < (dsP ks).length := by rw [dsP_len, kl]; exact hi
  have hk' : k < (dsP ks).length := by rw [dsP_len, kl]; exact hk
  have hi'' : i < ks.length := by rw [kl]; exact hi
  have hk'' : k < ks.length := by rw [kl]; exact hk
  obtain ⟨si, so, sp⟩ := s
  obtain ⟨ti, tq, tp⟩ := t
  refine go_ ?_
  with_reducible apply run_y
  exact want_
  · intro K hK
    refine ev_ ?_
    refine vcCall_plain (q1) (by kernel_rfl) ?_
    refine ev_ ?_
    exact hK
  refine go_ ?_
  with_reducible apply run_y
  exact want_
  · intro K hK
    refine ev_ ?_
    refine vcCall_plain (q3) (by kernel_rfl) ?_
    refine ev_ ?_
    exact hK
  refine go_ ?_
  with_reducible apply run_y
  exact want_
  · intro K hK
    refine ev_ ?_
    refine vcCall_plain (q5) (by kernel_rfl) ?_
    refine ev_ ?_
    exact hK
  refine go_ ?_
  cases e1 : kcheckE pub msg ((k : Int), so, sp)
  · replace q6 : Spec (Ctx.mk Tryd.prog globX (0 + 1) Places) 44 [.agg (dP pub), .agg (dP msg), .agg (sgP ((k : Int), so, sp))] [] (.v (.bool false)) [] := by rw [← e1]; exact q6
    with_reducible apply run_y
    exact want_
    · intro K hK
      refine ev_ ?_
      refine vcCall_plain (q6) (by kernel_rfl) ?_
      refine ev_ ?_
      exact hK
    refine go_ ?_
    refine ev_ ?_
    exact .mk (vb_eq (by simp)) trivial
  replace q6 : Spec (Ctx.mk Tryd.prog globX (0 + 1) Places) 44 [.agg (dP pub), .agg (dP msg), .agg (sgP ((k : Int), so, sp))] [] (.v (.bool true)) [] := by rw [← e1]; exact q6
  replace hki : pk = pi ∨ clashK k pi sp pk tp = true := hki e1
  clear e1
  with_reducible apply run_y
  exact want_
  · intro K hK
    refine ev_ ?_
    refine vcCall_plain (q6) (by kernel_rfl) ?_
    refine ev_ ?_
    exact hK
  refine go_ ?_
  with_reducible apply run_y
  exact want_
  · intro K hK
    refine ev_ ?_
    refine vcCall_plain (q2) (by kernel_rfl) ?_
    refine ev_ ?_
    exact hK
  refine go_ ?_
  with_reducible apply run_y
  exact want_
  · intro K hK
    refine ev_ ?_
    refine vcCall_plain (q4) (by kernel_rfl) ?_
    refine ev_ ?_
    exact hK
  refine go_ ?_
  rw [k1, k2]
  cases e2 : decide (pk = pi)
  rotate_left
  · skip
    refine go_ ?_
    refine ev_ ?_
    exact .mk (vb_eq (by simp)) trivial
  have q7 := s_rclash06 k pi sp pk tp (by omega) (by rw [show sp.length = n from l1]; omega) (by rw [show tp.length = n from l2]; omega)
  rw [hki.resolve_left (of_decide_eq_false e2)] at q7
  refine go_ ?_
  rw [k1, k2]
  with_reducible apply run_y
  exact want_
  · intro K hK
    refine ev_ ?_
    refine vcCall_plain (q7) (by kernel_rfl) ?_
    refine ev_ ?_
    exact hK
  refine go_ ?_
  refine ev_ ?_
  exact .mk (vb_eq (by simp)) trivial
theorem u8_nat {n : Int} (h : (Lit.int .u8 n).wf = true) : ∃ m : Nat, m < 256 ∧ n = (m : Int) := by
  have hb := bounds_u8 h
  exact ⟨n.toNat, by omega, by omega⟩
theorem keysPlaces_walk (q0 : PV) (v0 : Value) (q1 : PV) (v1 : Value) (q2 : PV) (v2 : Value) (w : World) (hP : Places w) (i0 : IsV shD q0) (r0 : Rep (allOf w) q0 v0) (i1 : IsV (.arr 3 (.int .u8)) q1) (r1 : Rep (allOf w) q1 v1) (i2 : IsV shD q2) (r2 : Rep (allOf w) q2 v2) : Calls Tryd.prog 11 #[v0, v1, v2] w fun e w' => e = .returned (.bool true) ∧ Grow w w' := by
  obtain ⟨seed, rfl⟩ := isV_D i0
  obtain ⟨a, b, c, ha, hb, hc, rfl⟩ := isV_thr i1
  obtain ⟨msg, rfl⟩ := isV_D i2
  obtain ⟨a, ha', rfl⟩ := u8_nat ha
  obtain ⟨b, hb', rfl⟩ := u8_nat hb
  obtain ⟨c, hc', rfl⟩ := u8_nat hc
  exact walk_of (s_keysPlaces seed a b c ha' hb' hc' msg) hP (args3 r0 r1 r2)
end Go.Proofs.YtjbklilnhemhmaaDoor
