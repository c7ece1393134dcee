import Derived.Test.YtjbklilnhemhmaaDoorP42a
import Derived.Test.YtjbklilnhemhmaaDoorP4
import Derived.Test.YtjbklilnhemhmaaDoorMk
/- Pairs of digests: how two are compared. -/
namespace Go.Proofs.YtjbklilnhemhmaaDoor
open Go.RowKit
set_option linter.unnecessarySimpa false
def prC (a b : D) : Array Value := #[u (a.1.getD 0 0), u (a.1.getD 1 0), u (a.1.getD 2 0), u (a.1.getD 3 0), u (b.1.getD 0 0), u (b.1.getD 1 0), u (b.1.getD 2 0), u (b.1.getD 3 0)]
theorem sizeOf_D (w : World) : (sizeOf 30).run Tryd.prog w = .ok 4 w := by kernel_rfl
theorem part_0 (a b : D) (w : World) : (part 30 (prC a b) (0 * 4)).run Tryd.prog w = .ok (.agg (us a.1)) w := by rw [us_eq4]; kernel_rfl
theorem part_1 (a b : D) (w : World) : (part 30 (prC a b) (1 * 4)).run Tryd.prog w = .ok (.agg (us b.1)) w := by rw [us_eq4]; kernel_rfl
set_option maxRecDepth 100000 in
theorem eqin_P (a b c d : D) (w : World) : (Op.equalIn 10000 42 (.agg (prC a b)) (.agg (prC c d))).run Tryd.prog w = .ok (decide (a = c) && decide (b = d)) w := by
  rw [Op.equalIn]
  simp only [Sem.run_bind, run_underlying Tryd.underlying42, Result.andThen_ok, sizeOf_D, Std.Legacy.Range.forIn_eq_forIn_range', Std.Legacy.Range.size, Nat.sub_zero, Nat.add_sub_cancel, Nat.div_one]
  rw [show List.range' 0 2 1 = [0, 1] from rfl]
  simp only [List.forIn_cons, List.forIn_nil, Sem.run_bind, Result.andThen_ok, part_0, eqin_D9]
  cases h1 : decide (a = c)
  · simp
  · simp only [Bool.not_true, Bool.false_eq_true, if_false, Sem.run_pure, Result.andThen_ok, Sem.run_bind, part_1, eqin_D9, Bool.true_and]
    cases h2 : decide (b = d) <;> simp
theorem eq_P (a b c d : D) : EqSpec Tryd.prog 42 (.agg (prC a b)) (.agg (prC c d)) (decide (a = c) && decide (b = d)) := fun o o' w => ⟨by kernel_rfl, by kernel_rfl, eqin_P a b c d w⟩
def pP (a b : D) : List PV := [.v (u (a.1.getD 0 0)), .v (u (a.1.getD 1 0)), .v (u (a.1.getD 2 0)), .v (u (a.1.getD 3 0)), .v (u (b.1.getD 0 0)), .v (u (b.1.getD 1 0)), .v (u (b.1.getD 2 0)), .v (u (b.1.getD 3 0))]
theorem pP_flat (a b : D) : (PV.agg (pP a b)).flat = some (.agg (prC a b)) := rfl
end Go.Proofs.YtjbklilnhemhmaaDoor
/- Clash of the document and of the program, as sayings. -/
namespace Go.Proofs.YtjbklilnhemhmaaDoor
open Go.RowKit
set_option linter.unnecessarySimpa false
theorem dsP_rest (l : List D) (k : Nat) : ((dsP l).drop k).take ((dsP l).length - k) = dsP (l.drop k) := by
  rw [dsP_cut, dsP_len]
  congr 1
  exact List.take_of_length_le (by rw [List.length_drop]; exact Nat.le_refl _)
def clashP (r : (D × D) × (D × D) × Bool) : PV := .tup [.agg (pP r.1.1 r.1.2), .agg (pP r.2.1.1 r.2.1.2), .v (.bool r.2.2)]
end Go.Proofs.YtjbklilnhemhmaaDoor
/- merkle.Clash, as a saying. -/
namespace Go.Proofs.YtjbklilnhemhmaaDoor
open Go.RowKit
set_option linter.unnecessarySimpa false
set_option maxRecDepth 100000 in
theorem s_equalD (a b : List D) (hn : a.length ≤ 1000000) : Spec (Ctx.mk Tryd.prog globX (0 + 1) Places) 60 [.sl .any (dsP a), .sl .any (dsP b)] [] (.v (.bool (decide (a = b)))) [] := by
  refine spec_of_bodyL CX_mixed CX_gpk Tryd.func60 rfl 26 0 rfl rfl rfl rfl ?_
  refine go_ ?_
  first | refine run_b rfl rfl rfl (fun h => ?_) (fun h => ?_) | refine c_cond rfl (fun h => ?_) (fun h => ?_)
  · skip
    refine go_ ?_
    have hne : a ≠ b := fun e => by subst e; simp at h
    refine ev_ ?_
    exact .mk (by rw [decide_eq_false hne]; rfl) trivial
  · have hl : a.length = b.length := by simp [dsP_len] at h; omega
    refine go_ ?_
    refine c_loop (fun k q m h => ∃ j : Nat, j ≤ a.length ∧ k = a.length - j ∧ q = [.sl .any (dsP a), .sl .any (dsP b), .top, .top, .v (.bool false), .top, .top, .top, .top, .top, .top, .top, .v (.int .i64 ((dsP a).length : Int)), .v (.int .i64 (j : Int))] ++ List.replicate 12 .top ∧ m = 1 ∧ h = [] ∧ ∀ i, i < j → a.getD i D.zero = b.getD i D.zero)
      ⟨_, _, _, _, ?_, ?_, ⟨0, by omega, rfl, rfl, rfl, rfl, fun i hi => by omega⟩⟩ ?_
    · rfl
    · skip
      exact sub_
    · rintro k q m h hlen ⟨j, hj, rfl, rfl, rfl, rfl, hall⟩
      clear hlen
      refine go_ ?_
      first | refine run_b rfl rfl rfl (fun h => ?_) (fun h => ?_) | refine c_cond rfl (fun h => ?_) (fun h => ?_)
      · have hlt : j < a.length := by simpa [dsP_len] using h
        have hlt' : j < b.length := by omega
        refine go_ ?_
        first | refine run_b rfl rfl rfl (fun h2 => ?_) (fun h2 => ?_) | refine c_cond rfl (fun h2 => ?_) (fun h2 => ?_)
        · skip
          refine go_ ?_
          have hne : a ≠ b := fun e => by subst e; simp at h2
          refine ev_ ?_
          exact .mk (by rw [decide_eq_false hne]; rfl) trivial
        · skip
          refine go_ ?_
          refine c_round ⟨_, _, _, _, ?_, ?_, ?_, ⟨j + 1, by omega, rfl, rfl, rfl, rfl, fun i hi => ?_⟩⟩
          · omega
          · rfl
          · skip
            exact sub_
          · by_cases hij : i < j
            · exact hall i hij
            · obtain rfl : i = j := by omega
              simpa using h2
      · have hge : ¬ j < a.length := by simpa [dsP_len] using h
        refine go_ ?_
        have he : a = b := List.ext_getElem hl fun i h1 h2 => by
          have := hall i (by omega)
          simpa [List.getD, h1, h2] using this
        refine ev_ ?_
        exact .mk (by rw [decide_eq_true he]; rfl) trivial
def zP : List PV := [.v (.int .u32 0), .v (.int .u32 0), .v (.int .u32 0), .v (.int .u32 0), .v (.int .u32 0), .v (.int .u32 0), .v (.int .u32 0), .v (.int .u32 0)]
set_option maxRecDepth 100000 in
set_option maxHeartbeats 2000000 in
theorem s_clash (a b : List D) (ha : a.length ≤ 1000) (_ : b.length ≤ 1000) : Spec (Ctx.mk Tryd.prog globX (0 + 1) Places) 25 [.sl .any (dsP a), .sl .any (dsP b)] [] (clashP (clashE noneE a b)) [] := by
  refine spec_of_bodyL CX_mixed CX_gpk Tryd.func25 rfl 82 0 rfl rfl rfl rfl ?_
  refine go_ ?_
  cases h1 : (((dsP a).length : Int) != ((dsP b).length : Int))
  · simp [dsP_len] at h1
    refine go_ ?_
    with_reducible apply run_y
    exact want_
    · intro K hK
      refine ev_ ?_
      refine vcCall_plain (s_equalD a b (by omega)) (by kernel_rfl) ?_
      refine ev_ ?_
      exact hK
    refine go_ ?_
    cases h2 : decide (a = b)
    · skip
      refine go_ ?_
      with_reducible apply run_y
      exact want_
      · intro K hK
        refine ev_ ?_
        refine vcCall_plain (s_root a (by omega)) (by kernel_rfl) ?_
        refine ev_ ?_
        exact hK
      refine go_ ?_
      with_reducible apply run_y
      exact want_
      · intro K hK
        refine ev_ ?_
        refine vcCall_plain (s_root b (by omega)) (by kernel_rfl) ?_
        refine ev_ ?_
        exact hK
      refine go_ ?_
      cases h3 : decide (rootE noneE a = rootE noneE b)
      · skip
        refine go_ ?_
        rw [clashE_no noneE (fun h => by simp [h.2.2] at h3)]
        refine ev_ ?_
        exact .mk (by rfl) trivial
      · have hc : clashes noneE a b := ⟨by omega, by simpa using h2, by simpa using h3⟩
        refine go_ ?_
        refine c_loop (fun k q m h => ∃ la lb : List D, k = la.length ∧ la.length ≤ 1000 ∧ clashes noneE la lb ∧ clashE noneE a b = clashE noneE la lb ∧ q = [.sl .any (dsP la), .sl .any (dsP lb), .top, .top, .ptr 1 0, .ptr 2 0] ++ List.replicate 76 .top ∧ m = 3 ∧ h = [(1, .cells zP), (2, .cells zP)])
          ⟨_, _, _, _, ?_, ?_, ⟨a, b, rfl, ha, hc, rfl, rfl, rfl, rfl⟩⟩ ?_
        · rfl
        · skip
          exact sub_
        · rintro k q m h hlen ⟨la, lb, rfl, hla, hc, hce, rfl, rfl, rfl⟩
          clear hlen
          have h2l := clashes_long noneE hc
          have hk := halfE_lt h2l
          have hk0 := halfE_pos la.length
          have hlen := hc.1
          have hgt : decide (((dsP la).length : Int) > 1) = true := by rw [dsP_len]; exact decide_eq_true (by omega)
          refine go_ ?_
          rw [dsP_len la]
          with_reducible apply run_y
          exact want_
          · intro K hK
            refine ev_ ?_
            refine vcCall_plain (s_half la.length h2l (by omega)) (by kernel_rfl) ?_
            refine ev_ ?_
            exact hK
          refine go_ ?_
          with_reducible apply run_y
          exact want_
          · intro K hK
            refine ev_ ?_
            refine ⟨0, halfE la.length, dsP (la.take (halfE la.length)), rfl, rfl, Nat.zero_le _, by rw [dsP_len]; omega, ⟨_, _, rfl, rfl, .inl rfl⟩, dsP_take la _, ?_⟩
            refine ev_ ?_
            exact hK
          refine go_ ?_
          with_reducible apply run_y
          exact want_
          · intro K hK
            refine ev_ ?_
            refine vcCall_plain (s_root (la.take (halfE la.length)) (by rw [List.length_take]; omega)) (by kernel_rfl) ?_
            refine ev_ ?_
            exact hK
          refine go_ ?_
          with_reducible apply run_y
          exact want_
          · intro K hK
            refine ev_ ?_
            refine ⟨halfE la.length, (dsP la).length, dsP (la.drop (halfE la.length)), rfl, rfl, by rw [dsP_len]; omega, Nat.le_refl _, ⟨_, _, rfl, rfl, .inr (dsP_wide la)⟩, dsP_rest la _, ?_⟩
            refine ev_ ?_
            exact hK
          refine go_ ?_
          with_reducible apply run_y
          exact want_
          · intro K hK
            refine ev_ ?_
            refine vcCall_plain (s_root (la.drop (halfE la.length)) (by rw [List.length_drop]; omega)) (by kernel_rfl) ?_
            refine ev_ ?_
            exact hK
          refine go_ ?_
          with_reducible apply run_y
          exact want_
          · intro K hK
            refine ev_ ?_
            refine ⟨0, halfE la.length, dsP (lb.take (halfE la.length)), rfl, rfl, Nat.zero_le _, by rw [dsP_len]; omega, ⟨_, _, rfl, rfl, .inl rfl⟩, dsP_take lb _, ?_⟩
            refine ev_ ?_
            exact hK
          refine go_ ?_
          with_reducible apply run_y
          exact want_
          · intro K hK
            refine ev_ ?_
            refine vcCall_plain (s_root (lb.take (halfE la.length)) (by rw [List.length_take]; omega)) (by kernel_rfl) ?_
            refine ev_ ?_
            exact hK
          refine go_ ?_
          with_reducible apply run_y
          exact want_
          · intro K hK
            refine ev_ ?_
            refine ⟨halfE la.length, (dsP lb).length, dsP (lb.drop (halfE la.length)), rfl, rfl, by rw [dsP_len]; omega, Nat.le_refl _, ⟨_, _, rfl, rfl, .inr (dsP_wide lb)⟩, dsP_rest lb _, ?_⟩
            refine ev_ ?_
            exact hK
          refine go_ ?_
          with_reducible apply run_y
          exact want_
          · intro K hK
            refine ev_ ?_
            refine vcCall_plain (s_root (lb.drop (halfE la.length)) (by rw [List.length_drop]; omega)) (by kernel_rfl) ?_
            refine ev_ ?_
            exact hK
          refine go_ ?_
          with_reducible apply run_y
          exact want_
          · intro K hK
            refine ev_ ?_
            refine ⟨_, _, _, pP_flat (rootE noneE (la.take (halfE la.length))) (rootE noneE (la.drop (halfE la.length))), pP_flat (rootE noneE (lb.take (halfE la.length))) (rootE noneE (lb.drop (halfE la.length))), eq_P _ _ _ _, ?_⟩
            refine ev_ ?_
            exact hK
          by_cases hx : halvesE noneE la = halvesE noneE lb
          · have hx1 : rootE noneE (la.take (halfE la.length)) = rootE noneE (lb.take (halfE la.length)) := by
              have := congrArg Prod.fst hx
              simp only [halvesE] at this
              rw [hc.1] at this ⊢; exact this
            have hx2 : rootE noneE (la.drop (halfE la.length)) = rootE noneE (lb.drop (halfE la.length)) := by
              have := congrArg Prod.snd hx
              simp only [halvesE] at this
              rw [hc.1] at this ⊢; exact this
            have hn : (!(decide (rootE noneE (la.take (halfE la.length)) = rootE noneE (lb.take (halfE la.length))) && decide (rootE noneE (la.drop (halfE la.length)) = rootE noneE (lb.drop (halfE la.length))))) = false := by simp [hx1, hx2]
            refine go_ ?_
            with_reducible apply run_y
            exact want_
            · intro K hK
              refine ev_ ?_
              refine ⟨0, halfE la.length, dsP (la.take (halfE la.length)), rfl, rfl, Nat.zero_le _, by rw [dsP_len]; omega, ⟨_, _, rfl, rfl, .inl rfl⟩, dsP_take la _, ?_⟩
              refine ev_ ?_
              exact hK
            refine go_ ?_
            with_reducible apply run_y
            exact want_
            · intro K hK
              refine ev_ ?_
              refine ⟨0, halfE la.length, dsP (lb.take (halfE la.length)), rfl, rfl, Nat.zero_le _, by rw [dsP_len]; omega, ⟨_, _, rfl, rfl, .inl rfl⟩, dsP_take lb _, ?_⟩
              refine ev_ ?_
              exact hK
            refine go_ ?_
            with_reducible apply run_y
            exact want_
            · intro K hK
              refine ev_ ?_
              refine vcCall_plain (s_equalD (la.take (halfE la.length)) (lb.take (halfE la.length)) (by rw [List.length_take]; omega)) (by kernel_rfl) ?_
              refine ev_ ?_
              exact hK
            refine go_ ?_
            by_cases hy : la.take (halfE la.length) = lb.take (halfE la.length)
            · have hn2 : (!decide (la.take (halfE la.length) = lb.take (halfE la.length))) = false := by simp [hy]
              refine go_ ?_
              with_reducible apply run_y
              exact want_
              · intro K hK
                refine ev_ ?_
                refine ⟨halfE la.length, (dsP la).length, dsP (la.drop (halfE la.length)), rfl, rfl, by rw [dsP_len]; omega, Nat.le_refl _, ⟨_, _, rfl, rfl, .inr (dsP_wide la)⟩, dsP_rest la _, ?_⟩
                refine ev_ ?_
                exact hK
              refine go_ ?_
              with_reducible apply run_y
              exact want_
              · intro K hK
                refine ev_ ?_
                refine ⟨halfE la.length, (dsP lb).length, dsP (lb.drop (halfE la.length)), rfl, rfl, by rw [dsP_len]; omega, Nat.le_refl _, ⟨_, _, rfl, rfl, .inr (dsP_wide lb)⟩, dsP_rest lb _, ?_⟩
                refine ev_ ?_
                exact hK
              refine go_ ?_
              rw [clashE_right noneE hc hx hy] at hce
              refine c_round ⟨_, _, _, _, ?_, ?_, ?_, ⟨la.drop (halfE la.length), lb.drop (halfE la.length), rfl, by rw [List.length_drop]; omega, clashes_right noneE hc hx hy, hce, rfl, rfl, rfl⟩⟩
              · rw [List.length_drop]; omega
              · rfl
              · skip
                exact sub_
            · have hn2 : (!decide (la.take (halfE la.length) = lb.take (halfE la.length))) = true := by simp [hy]
              refine go_ ?_
              with_reducible apply run_y
              exact want_
              · intro K hK
                refine ev_ ?_
                refine ⟨0, halfE la.length, dsP (la.take (halfE la.length)), rfl, rfl, Nat.zero_le _, by rw [dsP_len]; omega, ⟨_, _, rfl, rfl, .inl rfl⟩, dsP_take la _, ?_⟩
                refine ev_ ?_
                exact hK
              refine go_ ?_
              with_reducible apply run_y
              exact want_
              · intro K hK
                refine ev_ ?_
                refine ⟨0, halfE la.length, dsP (lb.take (halfE la.length)), rfl, rfl, Nat.zero_le _, by rw [dsP_len]; omega, ⟨_, _, rfl, rfl, .inl rfl⟩, dsP_take lb _, ?_⟩
                refine ev_ ?_
                exact hK
              refine go_ ?_
              rw [clashE_left noneE hc hx hy] at hce
              refine c_round ⟨_, _, _, _, ?_, ?_, ?_, ⟨la.take (halfE la.length), lb.take (halfE la.length), rfl, by rw [List.length_take]; omega, clashes_left noneE hc hx hy, hce, rfl, rfl, rfl⟩⟩
              · rw [List.length_take]; omega
              · rfl
              · skip
                exact sub_
          · have hn : (!(decide (rootE noneE (la.take (halfE la.length)) = rootE noneE (lb.take (halfE la.length))) && decide (rootE noneE (la.drop (halfE la.length)) = rootE noneE (lb.drop (halfE la.length))))) = true := by
              simp only [halvesE, ← hc.1, Prod.mk.injEq] at hx
              simp only [Bool.not_eq_true', Bool.and_eq_false_imp, decide_eq_true_eq, decide_eq_false_iff_not]
              exact fun h1 h2 => hx ⟨h1, h2⟩
            refine go_ ?_
            rw [hce, clashE_hit noneE hc hx]
            simp only [halvesE, ← hc.1]
            refine ev_ ?_
            exact .mk (by rfl) trivial
    · skip
      refine go_ ?_
      rw [clashE_no noneE (fun h => by simp at h2; exact h.2.1 h2)]
      refine ev_ ?_
      exact .mk (by rfl) trivial
  · skip
    refine go_ ?_
    rw [clashE_no noneE (fun h => by simp [dsP_len] at h1; exact h1 (by rw [h.1]))]
    refine ev_ ?_
    exact .mk (by rfl) trivial
end Go.Proofs.YtjbklilnhemhmaaDoor
/- The law MerkleClashes. -/
namespace Go.Proofs.YtjbklilnhemhmaaDoor
open Go.RowKit
set_option linter.unnecessarySimpa false
end Go.Proofs.YtjbklilnhemhmaaDoor
