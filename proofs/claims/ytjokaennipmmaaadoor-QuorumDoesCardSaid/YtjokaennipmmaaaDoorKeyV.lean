import Derived.Test.YtjokaennipmmaaaDoorKeyW
import Derived.Test.YtjokaennipmmaaaDoorClash
/- Signatures of a tree's keys: of the document, checks, signers, clashes; walked over plain values. -/
namespace Go.Proofs.YtjokaennipmmaaaDoor
open Go.RowKit
set_option linter.unnecessarySimpa false
set_option maxRecDepth 100000 in
theorem s_rksign (seed : D) (h i : Int) (msg : D) : Spec (Ctx.mk Tryd.prog globX (0 + 1) Places) 26 [.agg (dP seed), .v (.int .i64 h), .v (.int .i64 i), .agg (dP msg)] [] (.tup [.agg (sgP (ksignI seed h i msg).1), .v (.int .i64 (ksignI seed h i msg).2)]) [] := by
  refine spec_of_bodyL CX_mixed CX_gpk Tryd.func26 rfl 46 0 rfl rfl rfl rfl ?_
  refine go_ ?_
  by_cases hh : 0 ≤ h ∧ h ≤ 4
  · obtain ⟨n, rfl⟩ := Int.eq_ofNat_of_zero_le hh.1
    have e1 : decide ((n : Int) < 0) = false := by simp
    have e2 : decide ((n : Int) > 4) = false := by simp; omega
    have hn := keysE_le seed (n := n) (by omega)
    refine go_ ?_
    with_reducible apply run_y
    exact want_
    · intro K hK
      refine ev_ ?_
      refine vcCall_plain (s_rkeys seed n (by omega)) (by kernel_rfl) ?_
      refine ev_ ?_
      exact hK
    refine go_ ?_
    have hkl : ((dsP (keysE seed (2 ^ n))).length : Int) = ((2 ^ n : Nat) : Int) := by rw [dsP_len, keysE_len]
    cases e3 : decide (i < 0)
    · have e3' := of_decide_eq_false e3
      obtain ⟨k, rfl⟩ := Int.eq_ofNat_of_zero_le (show 0 ≤ i by omega)
      by_cases hk : k < 2 ^ n
      · have e4 : decide ((k : Int) ≥ ((dsP (keysE seed (2 ^ n))).length : Int)) = false := by rw [hkl]; exact ge_f hk
        have hp4 := pow4 (show n ≤ 4 by omega)
        have e : ksignI seed (n : Int) (k : Int) msg = (ksignE seed n k msg, 0) := by unfold ksignI; rw [if_pos hh, if_pos ⟨by omega, by rw [Int.toNat_natCast]; exact Int.ofNat_lt.2 hk⟩]; rfl
        rw [e]
        refine go_ ?_
        with_reducible apply run_y
        exact want_
        · intro K hK
          refine ev_ ?_
          refine vcCall_plain (s_rprove (keysE seed (2 ^ n)) k (by rw [keysE_len]; exact hk) (by omega)) (by kernel_rfl) ?_
          refine ev_ ?_
          exact hK
        refine go_ ?_
        with_reducible apply run_y
        exact want_
        · intro K hK
          refine ev_ ?_
          refine vcCall_plain (s_rseed seed k (by omega)) (by kernel_rfl) ?_
          refine ev_ ?_
          exact hK
        refine go_ ?_
        with_reducible apply run_y
        exact want_
        · intro K hK
          refine ev_ ?_
          refine vcCall_plain (s_rosign (kseedE seed k) msg) (by kernel_rfl) ?_
          refine ev_ ?_
          exact hK
        refine go_ ?_
        refine ev_ ?_
        exact .mk (by rfl) trivial
      · have e4 : decide ((k : Int) ≥ ((dsP (keysE seed (2 ^ n))).length : Int)) = true := by rw [hkl]; exact ge_t hk
        have e : ksignI seed (n : Int) (k : Int) msg = (zeroSg, 1) := by unfold ksignI; rw [if_pos hh, if_neg (fun h => hk (by have := h.2; rw [Int.toNat_natCast] at this; exact Int.ofNat_lt.1 this))]
        rw [e]
        refine go_ ?_
        refine ev_ ?_
        exact .mk (by rfl) trivial
    · have e3' := of_decide_eq_true e3
      have e : ksignI seed (n : Int) i msg = (zeroSg, 1) := by unfold ksignI; rw [if_pos hh, if_neg (by omega)]
      rw [e]
      refine go_ ?_
      refine ev_ ?_
      exact .mk (by rfl) trivial
  · have e : ksignI seed h i msg = (zeroSg, 2) := if_neg hh
    rw [e]
    cases e1 : decide (h < 0)
    · have e1 := of_decide_eq_false e1
      have e2 : decide (h > 4) = true := by simp; omega
      refine go_ ?_
      refine ev_ ?_
      exact .mk (by rfl) trivial
    · skip
      refine go_ ?_
      refine ev_ ?_
      exact .mk (by rfl) trivial
set_option maxRecDepth 100000 in
theorem s_kcheck (pub msg : D) (s : Sg) (hs : s.2.2.length ≤ 1000000) : Spec (Ctx.mk Tryd.prog globX (0 + 1) Places) 23 [.agg (dP pub), .agg (dP msg), .agg (sgP s)] [] (.v (.bool (kcheckE pub msg s))) [] := by
  obtain ⟨i, one, path⟩ := s
  refine spec_of_bodyL CX_mixed CX_gpk Tryd.func23 rfl 34 0 rfl rfl rfl rfl ?_
  refine go_ ?_
  cases e1 : decide (((dsP path).length : Int) > 4)
  · have e1' : path.length ≤ 4 := by have := of_decide_eq_false e1; rw [dsP_len] at this; omega
    have h0 : (0 : Int) ≤ ((dsP path).length : Int) := by omega
    have hk : kcheckE pub msg (i, one, path) = ((reachP msg one).2 && checkE pub ((2 ^ path.length : Nat) : Int) i (reachP msg one).1 path) := by unfold kcheckE; rw [decide_eq_true e1', Bool.true_and]
    rw [hk]
    refine go_ ?_
    with_reducible apply run_y
    exact want_
    · intro K hK
      refine ev_ ?_
      refine vcCall_plain (s_oreach msg one) (by kernel_rfl) ?_
      refine ev_ ?_
      exact hK
    refine go_ ?_
    cases e2 : (reachP msg one).2
    · skip
      refine go_ ?_
      refine ev_ ?_
      exact .mk (by rfl) trivial
    · skip
      refine go_ ?_
      have hw := shl_pow path.length e1'
      rw [dsP_len, hw]
      refine go_ ?_
      with_reducible apply run_y
      exact want_
      · intro K hK
        refine ev_ ?_
        refine vcCall_plain (s_check pub ((2 ^ path.length : Nat) : Int) i (reachP msg one).1 path hs) (by kernel_rfl) ?_
        refine ev_ ?_
        exact hK
      refine go_ ?_
      refine ev_ ?_
      exact .mk (by rfl) trivial
  · have e1' : ¬ path.length ≤ 4 := by have := of_decide_eq_true e1; rw [dsP_len] at this; omega
    have hk : kcheckE pub msg (i, one, path) = false := by unfold kcheckE; rw [decide_eq_false e1', Bool.false_and]
    rw [hk]
    refine go_ ?_
    refine ev_ ?_
    exact .mk (by rfl) trivial
set_option maxRecDepth 100000 in
theorem s_rkcheck (pub msg : D) (s : Sg) (hs : s.2.2.length ≤ 1000000) : Spec (Ctx.mk Tryd.prog globX (0 + 1) Places) 29 [.agg (dP pub), .agg (dP msg), .agg (sgP s)] [] (.v (.bool (kcheckE pub msg s))) [] := by
  obtain ⟨i, one, path⟩ := s
  refine spec_of_bodyL CX_mixed CX_gpk Tryd.func29 rfl 42 0 rfl rfl rfl rfl ?_
  refine go_ ?_
  cases e1 : decide (((dsP path).length : Int) > 4)
  · have e1' : path.length ≤ 4 := by have := of_decide_eq_false e1; rw [dsP_len] at this; omega
    have hk : kcheckE pub msg (i, one, path) = ((reachP msg one).2 && checkE pub ((2 ^ path.length : Nat) : Int) i (reachP msg one).1 path) := by unfold kcheckE; rw [decide_eq_true e1', Bool.true_and]
    rw [hk]
    clear e1 hk
    refine go_ ?_
    with_reducible apply run_y
    exact want_
    · intro K hK
      refine ev_ ?_
      refine vcCall_plain (s_roreach msg one) (by kernel_rfl) ?_
      refine ev_ ?_
      exact hK
    refine go_ ?_
    generalize reachP msg one = rr
    obtain ⟨key, ok⟩ := rr
    refine c_loop (fun k q m h => ∃ j : Nat, j ≤ path.length ∧ k = path.length - j ∧ q = [.top, .top, .top, .ptr 1 0, .ptr 2 0, .ptr 3 0, .top, .ptr 4 0, .v (.bool ok), .v (.int .i64 ((2 ^ j : Nat) : Int)), .v (.int .i64 (j : Int))] ++ List.replicate 31 .top ∧ m = 5 ∧ h = [(1, .cells (dP pub)), (2, .cells (dP msg)), (3, .cells (sgP (i, one, path))), (4, .cells (dP key))])
      ⟨_, _, _, _, ?_, ?_, ⟨0, by omega, rfl, rfl, rfl, rfl⟩⟩ ?_
    · rfl
    · skip
      exact sub_
    · rintro k q m h hlen ⟨j, hj, rfl, rfl, rfl, rfl⟩
      clear hlen
      refine go_ ?_
      rw [dsP_len path]
      first | refine run_b rfl rfl rfl (fun h => ?_) (fun h => ?_) | refine c_cond rfl (fun h => ?_) (fun h => ?_)
      · have hj' : j < path.length := by have := of_decide_eq_true h; omega
        have hp := pow4 (show j + 1 ≤ 4 by omega)
        have hw1 : IntKind.i64.wrap ((j : Int) + 1) = ((j + 1 : Nat) : Int) := by rw [wrap64 (by omega) (by omega)]; omega
        have hw2 : IntKind.i64.wrap (((2 ^ j : Nat) : Int) * 2) = ((2 ^ (j + 1) : Nat) : Int) := by rw [Nat.pow_succ] at hp ⊢; rw [wrap64 (by omega) (by omega)]; omega
        refine go_ ?_
        rw [hw2]
        refine go_ ?_
        rw [hw1]
        refine go_ ?_
        refine c_round ⟨_, _, _, _, ?_, ?_, ?_, ⟨j + 1, by omega, rfl, rfl, rfl, rfl⟩⟩
        · omega
        · rfl
        · skip
          exact sub_
      · have hj' : j = path.length := by have := of_decide_eq_false h; omega
        subst hj'
        cases ok
        · skip
          refine go_ ?_
          refine ev_ ?_
          exact .mk (by rfl) trivial
        · skip
          refine go_ ?_
          with_reducible apply run_y
          exact want_
          · intro K hK
            refine ev_ ?_
            refine vcCall_plain (s_rcheck pub ((2 ^ path.length : Nat) : Int) i key path) (by kernel_rfl) ?_
            refine ev_ ?_
            exact hK
          refine go_ ?_
          refine ev_ ?_
          exact .mk (by rfl) trivial
  · have e1' : ¬ path.length ≤ 4 := by have := of_decide_eq_true e1; rw [dsP_len] at this; omega
    have hk : kcheckE pub msg (i, one, path) = false := by unfold kcheckE; rw [decide_eq_false e1', Bool.false_and]
    rw [hk]
    refine go_ ?_
    refine ev_ ?_
    exact .mk (by rfl) trivial
theorem ksignI_ok {seed : D} {h i : Int} {msg : D} (hh : 0 ≤ h ∧ h ≤ 4) (hi : 0 ≤ i ∧ i < ((2 ^ h.toNat : Nat) : Int)) : ksignI seed h i msg = (ksignE seed h.toNat i.toNat msg, 0) := by unfold ksignI; rw [if_pos hh, if_pos hi]
theorem ksignI_arg {seed : D} {h i : Int} {msg : D} (hh : 0 ≤ h ∧ h ≤ 4) (hi : ¬ (0 ≤ i ∧ i < ((2 ^ h.toNat : Nat) : Int))) : ksignI seed h i msg = (zeroSg, 1) := by unfold ksignI; rw [if_pos hh, if_neg hi]
theorem kuseI_ok {s : Sr} {msg : D} (hh : 0 ≤ s.2.1 ∧ s.2.1 ≤ 4) (hi : 0 ≤ s.2.2 ∧ s.2.2 < ((2 ^ s.2.1.toNat : Nat) : Int)) : kuseI s msg = ((s.1, s.2.1, s.2.2 + 1), ksignE s.1 s.2.1.toNat s.2.2.toNat msg, 0) := by unfold kuseI; rw [if_pos hh, if_pos hi]
theorem kuseI_used {s : Sr} {msg : D} (hh : 0 ≤ s.2.1 ∧ s.2.1 ≤ 4) (hi : ¬ (0 ≤ s.2.2 ∧ s.2.2 < ((2 ^ s.2.1.toNat : Nat) : Int))) : kuseI s msg = (zeroSr, zeroSg, 9) := by unfold kuseI; rw [if_pos hh, if_neg hi]
theorem kuseI_high {s : Sr} {msg : D} (hh : ¬ (0 ≤ s.2.1 ∧ s.2.1 ≤ 4)) : kuseI s msg = (zeroSr, zeroSg, 2) := by unfold kuseI; rw [if_neg hh]
end Go.Proofs.YtjokaennipmmaaaDoor
