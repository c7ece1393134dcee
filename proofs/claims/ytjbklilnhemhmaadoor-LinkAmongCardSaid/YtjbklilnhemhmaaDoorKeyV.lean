import Derived.Test.YtjbklilnhemhmaaDoorKeyW
import Derived.Test.YtjbklilnhemhmaaDoorClash
/- Signatures of a tree's keys: of the document, checks, signers, clashes; walked over plain values. -/
namespace Go.Proofs.YtjbklilnhemhmaaDoor
open Go.RowKit
set_option linter.unnecessarySimpa false
set_option maxRecDepth 100000 in
theorem s_rksign (seed : D) (h i : Int) (msg : D) : Spec (Ctx.mk Tryd.prog globX (0 + 1) Places) 41 [.agg (dP seed), .v (.int .i64 h), .v (.int .i64 i), .agg (dP msg)] [] (.tup [.agg (sgP (ksignI seed h i msg).1), .v (.int .i64 (ksignI seed h i msg).2)]) [] := by
  refine spec_of_bodyL CX_mixed CX_gpk Tryd.func41 rfl 46 0 rfl rfl rfl rfl ?_
  refine go_ ?_
  by_cases hh : 0 ≤ h ∧ h ≤ 4
  · obtain ⟨n, rfl⟩ := Int.eq_ofNat_of_zero_le hh.1
    have e1 : decide ((n : Int) < 0) = false := by simp
    have e2 : decide ((n : Int) > 4) = false := by simp; omega
    have hn := keysE_le seed (n := n) (by omega)
    refine go_ ?_
    with_reducible apply run_y
    exact want_
    · intro K hK
      refine ev_ ?_
      refine vcCall_plain (s_rkeys seed n (by omega)) (by kernel_rfl) ?_
      refine ev_ ?_
      exact hK
    refine go_ ?_
    have hkl : ((dsP (keysE seed (2 ^ n))).length : Int) = ((2 ^ n : Nat) : Int) := by rw [dsP_len, keysE_len]
    cases e3 : decide (i < 0)
    · have e3' := of_decide_eq_false e3
      obtain ⟨k, rfl⟩ := Int.eq_ofNat_of_zero_le (show 0 ≤ i by omega)
      by_cases hk : k < 2 ^ n
      · have e4 : decide ((k : Int) ≥ ((dsP (keysE seed (2 ^ n))).length : Int)) = false := by rw [hkl]; exact ge_f hk
        have hp4 := pow4 (show n ≤ 4 by omega)
        have e : ksignI seed (n : Int) (k : Int) msg = (ksignE seed n k msg, 0) := by unfold ksignI; rw [if_pos hh, if_pos ⟨by omega, by rw [Int.toNat_natCast]; exact Int.ofNat_lt.2 hk⟩]; rfl
        rw [e]
        refine go_ ?_
        with_reducible apply run_y
        exact want_
        · intro K hK
          refine ev_ ?_
          refine vcCall_plain (s_rprove (keysE seed (2 ^ n)) k (by rw [keysE_len]; exact hk) (by omega)) (by kernel_rfl) ?_
          refine ev_ ?_
          exact hK
        refine go_ ?_
        with_reducible apply run_y
        exact want_
        · intro K hK
          refine ev_ ?_
          refine vcCall_plain (s_rseed seed k (by omega)) (by kernel_rfl) ?_
          refine ev_ ?_
          exact hK
        refine go_ ?_
        with_reducible apply run_y
        exact want_
        · intro K hK
          refine ev_ ?_
          refine vcCall_plain (s_rosign (kseedE seed k) msg) (by kernel_rfl) ?_
          refine ev_ ?_
          exact hK
        refine go_ ?_
        refine ev_ ?_
        exact .mk (by rfl) trivial
      · have e4 : decide ((k : Int) ≥ ((dsP (keysE seed (2 ^ n))).length : Int)) = true := by rw [hkl]; exact ge_t hk
        have e : ksignI seed (n : Int) (k : Int) msg = (zeroSg, 1) := by unfold ksignI; rw [if_pos hh, if_neg (fun h => hk (by have := h.2; rw [Int.toNat_natCast] at this; exact Int.ofNat_lt.1 this))]
        rw [e]
        refine go_ ?_
        refine ev_ ?_
        exact .mk (by rfl) trivial
    · have e3' := of_decide_eq_true e3
      have e : ksignI seed (n : Int) i msg = (zeroSg, 1) := by unfold ksignI; rw [if_pos hh, if_neg (by omega)]
      rw [e]
      refine go_ ?_
      refine ev_ ?_
      exact .mk (by rfl) trivial
  · have e : ksignI seed h i msg = (zeroSg, 2) := if_neg hh
    rw [e]
    cases e1 : decide (h < 0)
    · have e1 := of_decide_eq_false e1
      have e2 : decide (h > 4) = true := by simp; omega
      refine go_ ?_
      refine ev_ ?_
      exact .mk (by rfl) trivial
    · skip
      refine go_ ?_
      refine ev_ ?_
      exact .mk (by rfl) trivial
set_option maxRecDepth 100000 in
theorem s_kcheck (pub msg : D) (s : Sg) (hs : s.2.2.length ≤ 1000000) : Spec (Ctx.mk Tryd.prog globX (0 + 1) Places) 44 [.agg (dP pub), .agg (dP msg), .agg (sgP s)] [] (.v (.bool (kcheckE pub msg s))) [] := by
  obtain ⟨i, one, path⟩ := s
  refine spec_of_bodyL CX_mixed CX_gpk Tryd.func44 rfl 34 0 rfl rfl rfl rfl ?_
  refine go_ ?_
  cases e1 : decide (((dsP path).length : Int) > 4)
  · have e1' : path.length ≤ 4 := by have := of_decide_eq_false e1; rw [dsP_len] at this; omega
    have h0 : (0 : Int) ≤ ((dsP path).length : Int) := by omega
    have hk : kcheckE pub msg (i, one, path) = ((reachP msg one).2 && checkE pub ((2 ^ path.length : Nat) : Int) i (reachP msg one).1 path) := by unfold kcheckE; rw [decide_eq_true e1', Bool.true_and]
    rw [hk]
    refine go_ ?_
    with_reducible apply run_y
    exact want_
    · intro K hK
      refine ev_ ?_
      refine vcCall_plain (s_oreach msg one) (by kernel_rfl) ?_
      refine ev_ ?_
      exact hK
    refine go_ ?_
    cases e2 : (reachP msg one).2
    · skip
      refine go_ ?_
      refine ev_ ?_
      exact .mk (by rfl) trivial
    · skip
      refine go_ ?_
      have hw := shl_pow path.length e1'
      rw [dsP_len, hw]
      refine go_ ?_
      with_reducible apply run_y
      exact want_
      · intro K hK
        refine ev_ ?_
        refine vcCall_plain (s_check pub ((2 ^ path.length : Nat) : Int) i (reachP msg one).1 path hs) (by kernel_rfl) ?_
        refine ev_ ?_
        exact hK
      refine go_ ?_
      refine ev_ ?_
      exact .mk (by rfl) trivial
  · have e1' : ¬ path.length ≤ 4 := by have := of_decide_eq_true e1; rw [dsP_len] at this; omega
    have hk : kcheckE pub msg (i, one, path) = false := by unfold kcheckE; rw [decide_eq_false e1', Bool.false_and]
    rw [hk]
    refine go_ ?_
    refine ev_ ?_
    exact .mk (by rfl) trivial
set_option maxRecDepth 100000 in
theorem s_rkcheck (pub msg : D) (s : Sg) (hs : s.2.2.length ≤ 1000000) : Spec (Ctx.mk Tryd.prog globX (0 + 1) Places) 45 [.agg (dP pub), .agg (dP msg), .agg (sgP s)] [] (.v (.bool (kcheckE pub msg s))) [] := by
  obtain ⟨i, one, path⟩ := s
  refine spec_of_bodyL CX_mixed CX_gpk Tryd.func45 rfl 42 0 rfl rfl rfl rfl ?_
  refine go_ ?_
  cases e1 : decide (((dsP path).length : Int) > 4)
  · have e1' : path.length ≤ 4 := by have := of_decide_eq_false e1; rw [dsP_len] at this; omega
    have hk : kcheckE pub msg (i, one, path) = ((reachP msg one).2 && checkE pub ((2 ^ path.length : Nat) : Int) i (reachP msg one).1 path) := by unfold kcheckE; rw [decide_eq_true e1', Bool.true_and]
    rw [hk]
    clear e1 hk
    refine go_ ?_
    with_reducible apply run_y
    exact want_
    · intro K hK
      refine ev_ ?_
      refine vcCall_plain (s_roreach msg one) (by kernel_rfl) ?_
      refine ev_ ?_
      exact hK
    refine go_ ?_
    generalize reachP msg one = rr
    obtain ⟨key, ok⟩ := rr
    refine c_loop (fun k q m h => ∃ j : Nat, j ≤ path.length ∧ k = path.length - j ∧ q = [.top, .top, .top, .ptr 1 0, .ptr 2 0, .ptr 3 0, .top, .ptr 4 0, .v (.bool ok), .v (.int .i64 ((2 ^ j : Nat) : Int)), .v (.int .i64 (j : Int))] ++ List.replicate 31 .top ∧ m = 5 ∧ h = [(1, .cells (dP pub)), (2, .cells (dP msg)), (3, .cells (sgP (i, one, path))), (4, .cells (dP key))])
      ⟨_, _, _, _, ?_, ?_, ⟨0, by omega, rfl, rfl, rfl, rfl⟩⟩ ?_
    · rfl
    · skip
      exact sub_
    · rintro k q m h hlen ⟨j, hj, rfl, rfl, rfl, rfl⟩
      clear hlen
      refine go_ ?_
      rw [dsP_len path]
      first | refine run_b rfl rfl rfl (fun h => ?_) (fun h => ?_) | refine c_cond rfl (fun h => ?_) (fun h => ?_)
      · have hj' : j < path.length := by have := of_decide_eq_true h; omega
        have hp := pow4 (show j + 1 ≤ 4 by omega)
        have hw1 : IntKind.i64.wrap ((j : Int) + 1) = ((j + 1 : Nat) : Int) := by rw [wrap64 (by omega) (by omega)]; omega
        have hw2 : IntKind.i64.wrap (((2 ^ j : Nat) : Int) * 2) = ((2 ^ (j + 1) : Nat) : Int) := by rw [Nat.pow_succ] at hp ⊢; rw [wrap64 (by omega) (by omega)]; omega
        refine go_ ?_
        rw [hw2]
        refine go_ ?_
        rw [hw1]
        refine go_ ?_
        refine c_round ⟨_, _, _, _, ?_, ?_, ?_, ⟨j + 1, by omega, rfl, rfl, rfl, rfl⟩⟩
        · omega
        · rfl
        · skip
          exact sub_
      · have hj' : j = path.length := by have := of_decide_eq_false h; omega
        subst hj'
        cases ok
        · skip
          refine go_ ?_
          refine ev_ ?_
          exact .mk (by rfl) trivial
        · skip
          refine go_ ?_
          with_reducible apply run_y
          exact want_
          · intro K hK
            refine ev_ ?_
            refine vcCall_plain (s_rcheck pub ((2 ^ path.length : Nat) : Int) i key path) (by kernel_rfl) ?_
            refine ev_ ?_
            exact hK
          refine go_ ?_
          refine ev_ ?_
          exact .mk (by rfl) trivial
  · have e1' : ¬ path.length ≤ 4 := by have := of_decide_eq_true e1; rw [dsP_len] at this; omega
    have hk : kcheckE pub msg (i, one, path) = false := by unfold kcheckE; rw [decide_eq_false e1', Bool.false_and]
    rw [hk]
    refine go_ ?_
    refine ev_ ?_
    exact .mk (by rfl) trivial
set_option maxRecDepth 100000 in
theorem s_knew (seed : D) (h : Int) : Spec (Ctx.mk Tryd.prog globX (0 + 1) Places) 50 [.agg (dP seed), .v (.int .i64 h)] [] (.tup [.agg (srP (knewI seed h).1), .v (.int .i64 (knewI seed h).2)]) [] := by
  refine spec_of_bodyL CX_mixed CX_gpk Tryd.func50 rfl 13 0 rfl rfl rfl rfl ?_
  refine go_ ?_
  with_reducible apply run_y
  exact want_
  · intro K hK
    refine ev_ ?_
    refine vcCall_plain (s_high h) (by kernel_rfl) ?_
    refine ev_ ?_
    exact hK
  refine go_ ?_
  by_cases hh : 0 ≤ h ∧ h ≤ 4
  · rw [decide_eq_true hh]
    have e : knewI seed h = ((seed, h, 0), 0) := if_pos hh
    rw [e]
    refine go_ ?_
    refine ev_ ?_
    exact .mk (by rfl) trivial
  · rw [decide_eq_false hh]
    have e : knewI seed h = (zeroSr, 2) := if_neg hh
    rw [e]
    refine go_ ?_
    refine ev_ ?_
    exact .mk (by rfl) trivial
theorem ksignI_ok {seed : D} {h i : Int} {msg : D} (hh : 0 ≤ h ∧ h ≤ 4) (hi : 0 ≤ i ∧ i < ((2 ^ h.toNat : Nat) : Int)) : ksignI seed h i msg = (ksignE seed h.toNat i.toNat msg, 0) := by unfold ksignI; rw [if_pos hh, if_pos hi]
theorem ksignI_arg {seed : D} {h i : Int} {msg : D} (hh : 0 ≤ h ∧ h ≤ 4) (hi : ¬ (0 ≤ i ∧ i < ((2 ^ h.toNat : Nat) : Int))) : ksignI seed h i msg = (zeroSg, 1) := by unfold ksignI; rw [if_pos hh, if_neg hi]
theorem kuseI_ok {s : Sr} {msg : D} (hh : 0 ≤ s.2.1 ∧ s.2.1 ≤ 4) (hi : 0 ≤ s.2.2 ∧ s.2.2 < ((2 ^ s.2.1.toNat : Nat) : Int)) : kuseI s msg = ((s.1, s.2.1, s.2.2 + 1), ksignE s.1 s.2.1.toNat s.2.2.toNat msg, 0) := by unfold kuseI; rw [if_pos hh, if_pos hi]
theorem kuseI_used {s : Sr} {msg : D} (hh : 0 ≤ s.2.1 ∧ s.2.1 ≤ 4) (hi : ¬ (0 ≤ s.2.2 ∧ s.2.2 < ((2 ^ s.2.1.toNat : Nat) : Int))) : kuseI s msg = (zeroSr, zeroSg, 9) := by unfold kuseI; rw [if_pos hh, if_neg hi]
theorem kuseI_high {s : Sr} {msg : D} (hh : ¬ (0 ≤ s.2.1 ∧ s.2.1 ≤ 4)) : kuseI s msg = (zeroSr, zeroSg, 2) := by unfold kuseI; rw [if_neg hh]
set_option maxRecDepth 100000 in
theorem s_kuse (s : Sr) (msg : D) : Spec (Ctx.mk Tryd.prog globX (0 + 1) Places) 51 [.agg (srP s), .agg (dP msg)] [] (.tup [.agg (srP (kuseI s msg).1), .agg (sgP (kuseI s msg).2.1), .v (.int .i64 (kuseI s msg).2.2)]) [] := by
  obtain ⟨seed, h, x⟩ := s
  refine spec_of_bodyL CX_mixed CX_gpk Tryd.func51 rfl 50 0 rfl rfl rfl rfl ?_
  refine go_ ?_
  with_reducible apply run_y
  exact want_
  · intro K hK
    refine ev_ ?_
    refine vcCall_plain (s_high h) (by kernel_rfl) ?_
    refine ev_ ?_
    exact hK
  refine go_ ?_
  by_cases hh : 0 ≤ h ∧ h ≤ 4
  · obtain ⟨n, rfl⟩ := Int.eq_ofNat_of_zero_le hh.1
    rw [decide_eq_true hh]
    have hw := shl_pow n (by omega)
    have h0 : (0 : Int) ≤ (n : Int) := by omega
    cases e1 : decide (x < 0)
    · have e1' := of_decide_eq_false e1
      obtain ⟨k, rfl⟩ := Int.eq_ofNat_of_zero_le (show 0 ≤ x by omega)
      by_cases hk : k < 2 ^ n
      · have e2 : decide ((k : Int) ≥ ((2 ^ n : Nat) : Int)) = false := ge_f hk
        have hin : 0 ≤ (k : Int) ∧ (k : Int) < ((2 ^ (n : Int).toNat : Nat) : Int) := ⟨by omega, by rw [Int.toNat_natCast]; exact Int.ofNat_lt.2 hk⟩
        have sg := s_ksign seed n k msg
        rw [ksignI_ok hh hin] at sg
        rw [kuseI_ok (s := (seed, (n : Int), (k : Int))) hh hin]
        have hp := pow4 (show n ≤ 4 by omega)
        have hw1 : IntKind.i64.wrap ((k : Int) + 1) = (k : Int) + 1 := by rw [wrap64 (by omega) (by omega)]
        refine go_ ?_
        rw [hw]
        refine go_ ?_
        with_reducible apply run_y
        exact want_
        · intro K hK
          refine ev_ ?_
          refine vcCall_plain (sg) (by kernel_rfl) ?_
          refine ev_ ?_
          exact hK
        refine go_ ?_
        rw [hw1]
        refine go_ ?_
        refine ev_ ?_
        exact .mk (by rfl) trivial
      · have e2 : decide ((k : Int) ≥ ((2 ^ n : Nat) : Int)) = true := ge_t hk
        rw [kuseI_used (s := (seed, (n : Int), (k : Int))) hh (fun h => hk (by have := h.2; simp only [Int.toNat_natCast] at this; exact Int.ofNat_lt.1 this))]
        refine go_ ?_
        rw [hw]
        refine go_ ?_
        refine ev_ ?_
        exact .mk (by rfl) trivial
    · have e1' := of_decide_eq_true e1
      rw [kuseI_used (s := (seed, (n : Int), x)) hh (by simp only; omega)]
      refine go_ ?_
      refine ev_ ?_
      exact .mk (by rfl) trivial
  · rw [decide_eq_false hh, kuseI_high (s := (seed, h, x)) hh]
    refine go_ ?_
    refine ev_ ?_
    exact .mk (by rfl) trivial
set_option maxRecDepth 100000 in
theorem s_rkuse (s : Sr) (msg : D) : Spec (Ctx.mk Tryd.prog globX (0 + 1) Places) 52 [.agg (srP s), .agg (dP msg)] [] (.tup [.agg (srP (kuseI s msg).1), .agg (sgP (kuseI s msg).2.1), .v (.int .i64 (kuseI s msg).2.2)]) [] := by
  obtain ⟨seed, h, x⟩ := s
  refine spec_of_bodyL CX_mixed CX_gpk Tryd.func52 rfl 40 0 rfl rfl rfl rfl ?_
  refine go_ ?_
  by_cases hh : 0 ≤ h ∧ h ≤ 4
  · have e1 : decide (h < 0) = false := by simp; omega
    have e2 : decide (h > 4) = false := by simp; omega
    have sg := s_rksign seed h x msg
    by_cases hi : 0 ≤ x ∧ x < ((2 ^ h.toNat : Nat) : Int)
    · rw [ksignI_ok hh hi] at sg
      rw [kuseI_ok (s := (seed, h, x)) hh hi]
      have hp := pow4 (show h.toNat ≤ 4 by omega)
      have hw1 : IntKind.i64.wrap (x + 1) = x + 1 := by rw [wrap64 (by omega) (by omega)]
      refine go_ ?_
      with_reducible apply run_y
      exact want_
      · intro K hK
        refine ev_ ?_
        refine vcCall_plain (sg) (by kernel_rfl) ?_
        refine ev_ ?_
        exact hK
      refine go_ ?_
      rw [hw1]
      refine go_ ?_
      refine ev_ ?_
      exact .mk (by rfl) trivial
    · rw [ksignI_arg hh hi] at sg
      rw [kuseI_used (s := (seed, h, x)) hh hi]
      refine go_ ?_
      with_reducible apply run_y
      exact want_
      · intro K hK
        refine ev_ ?_
        refine vcCall_plain (sg) (by kernel_rfl) ?_
        refine ev_ ?_
        exact hK
      refine go_ ?_
      refine ev_ ?_
      exact .mk (by rfl) trivial
  · rw [kuseI_high (s := (seed, h, x)) hh]
    cases e1 : decide (h < 0)
    · have e1 := of_decide_eq_false e1
      have e2 : decide (h > 4) = true := by simp; omega
      refine go_ ?_
      refine ev_ ?_
      exact .mk (by rfl) trivial
    · skip
      refine go_ ?_
      refine ev_ ?_
      exact .mk (by rfl) trivial
set_option maxRecDepth 100000 in
theorem s_rlist (a b : List D) (ha : a.length ≤ 1000000) : Spec (Ctx.mk Tryd.prog globX (0 + 1) Places) 80 [.sl .any (dsP a), .sl .any (dsP b)] [] (.v (.bool (decide (a = b)))) [] := by
  refine spec_of_bodyL CX_mixed CX_gpk Tryd.func80 rfl 26 0 rfl rfl rfl rfl ?_
  refine go_ ?_
  first | refine run_b rfl rfl rfl (fun h => ?_) (fun h => ?_) | refine c_cond rfl (fun h => ?_) (fun h => ?_)
  · have hne : a ≠ b := by rintro rfl; simp at h
    rw [decide_eq_false hne]
    refine go_ ?_
    refine ev_ ?_
    exact .mk (by rfl) trivial
  · have hl : a.length = b.length := by simp [dsP_len] at h; omega
    refine go_ ?_
    refine c_loop (fun k q m h => ∃ j : Nat, j ≤ a.length ∧ k = a.length - j ∧ q = [.sl .any (dsP a), .sl .any (dsP b), .top, .top, .v (.bool false), .v (.int .i64 (j : Int))] ++ List.replicate 20 .top ∧ m = 1 ∧ h = [] ∧ ∀ i, i < j → a.getD i D.zero = b.getD i D.zero)
      ⟨_, _, _, _, ?_, ?_, ⟨0, by omega, rfl, rfl, rfl, rfl, fun i hi => by omega⟩⟩ ?_
    · rfl
    · skip
      exact sub_
    · rintro k q m h hlen ⟨j, hj, rfl, rfl, rfl, rfl, hb⟩
      clear hlen
      refine go_ ?_
      first | refine run_b rfl rfl rfl (fun h => ?_) (fun h => ?_) | refine c_cond rfl (fun h => ?_) (fun h => ?_)
      · have hj' : j < a.length := by simpa [dsP_len] using h
        have hjb : j < b.length := by omega
        refine go_ ?_
        first | refine run_b rfl rfl rfl (fun he => ?_) (fun he => ?_) | refine c_cond rfl (fun he => ?_) (fun he => ?_)
        · have hne : a ≠ b := by rintro rfl; simp at he
          rw [decide_eq_false hne]
          refine go_ ?_
          refine ev_ ?_
          exact .mk (by rfl) trivial
        · have he' : a.getD j D.zero = b.getD j D.zero := by simpa using he
          refine go_ ?_
          refine c_round ⟨_, _, _, _, ?_, ?_, ?_, ⟨j + 1, by omega, rfl, rfl, rfl, rfl, fun i hi => ?_⟩⟩
          · omega
          · rfl
          · skip
            exact sub_
          · by_cases hij : i = j
            · rw [hij]; exact he'
            · exact hb i (by omega)
      · have hj' : j = a.length := by have : ¬ (j < a.length) := by simpa [dsP_len] using h
                                      omega
        subst hj'
        have he : a = b := by
          apply List.ext_getElem hl
          intro i h1 h2
          have := hb i h1
          simpa [List.getD, h1, h2] using this
        rw [decide_eq_true he]
        refine go_ ?_
        refine ev_ ?_
        exact .mk (by rfl) trivial
set_option maxRecDepth 100000 in
theorem s_rsame06 (s t : Sg) (h1 : s.2.1.length ≤ 1000000) (h2 : s.2.2.length ≤ 1000000) : Spec (Ctx.mk Tryd.prog globX (0 + 1) Places) 42 [.agg (sgP s), .agg (sgP t)] [] (.v (.bool (decide (s = t)))) [] := by
  obtain ⟨i, a, p⟩ := s
  obtain ⟨j, b, q⟩ := t
  have hd : decide ((i, a, p) = (j, b, q)) = ((i == j) && decide (a = b) && decide (p = q)) := by
    rw [Bool.eq_iff_iff]; simp [and_assoc]
  rw [hd]
  refine spec_of_bodyL CX_mixed CX_gpk Tryd.func42 rfl 24 0 rfl rfl rfl rfl ?_
  refine go_ ?_
  cases e1 : (i == j)
  · skip
    refine go_ ?_
    refine ev_ ?_
    exact .mk (vb_eq (by simp)) trivial
  · skip
    refine go_ ?_
    with_reducible apply run_y
    exact want_
    · intro K hK
      refine ev_ ?_
      refine vcCall_plain (s_rlist a b h1) (by kernel_rfl) ?_
      refine ev_ ?_
      exact hK
    refine go_ ?_
    cases e2 : decide (a = b)
    · skip
      refine go_ ?_
      refine ev_ ?_
      exact .mk (vb_eq (by simp)) trivial
    · skip
      refine go_ ?_
      with_reducible apply run_y
      exact want_
      · intro K hK
        refine ev_ ?_
        refine vcCall_plain (s_rlist p q h2) (by kernel_rfl) ?_
        refine ev_ ?_
        exact hK
      refine go_ ?_
      refine ev_ ?_
      exact .mk (vb_eq (by simp)) trivial
end Go.Proofs.YtjbklilnhemhmaaDoor
