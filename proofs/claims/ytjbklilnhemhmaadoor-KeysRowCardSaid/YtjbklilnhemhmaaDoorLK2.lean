import Derived.Test.YtjbklilnhemhmaaDoorKeyS
/- The law KeysRow. -/
namespace Go.Proofs.YtjbklilnhemhmaaDoor
open Go.RowKit
set_option linter.unnecessarySimpa false
set_option maxRecDepth 100000 in
set_option maxHeartbeats 4000000 in
theorem s_keysRow (seed : D) (high : Bool) (l : List D) : Spec (Ctx.mk Tryd.prog globX (0 + 1) Places) 14 [.agg (dP seed), .v (.bool high), .sl .any (dsP l)] [] (.v (.bool true)) [] := by
  refine spec_of_bodyL CX_mixed CX_gpk Tryd.func14 rfl 86 0 rfl rfl rfl rfl ?_
  refine go_ ?_
  with_reducible apply run_y
  exact want_
  · intro K hK
    refine ev_ ?_
    refine vcCall_plain (s_awake06) (by kernel_rfl) ?_
    refine ev_ ?_
    exact hK
  refine go_ ?_
  cases e1 : decide (((dsP l).length : Int) > 4)
  case true =>
    refine go_ ?_
    refine ev_ ?_
    exact .mk (vb_eq (by simp)) trivial
  case false =>
    have hl4 : l.length ≤ 4 := by have := of_decide_eq_false e1; rw [dsP_len] at this; omega
    refine goto_ 7 ?_
    refine c_seq_cut (fun q_ m_ h_ => ∃ n mst : Nat, ((n = 0 ∧ mst = 1) ∨ (n = 1 ∧ mst = 2)) ∧ q_ = [.top, .top, .sl .any (dsP l), .ptr 1 0, .top, .top, .v (.bool false), .v (.int .i64 (n : Int)), .v (.int .i64 (mst : Int))] ++ List.replicate 77 .top ∧ m_ = 2 ∧ h_ = [(1, .cells (dP seed))]) ?_ ?_
    · cases high
      · skip
        refine go_ ?_
        refine c_cut ⟨_, _, _, ?_, ?_, 0, 1, .inl ⟨rfl, rfl⟩, rfl, rfl, rfl⟩
        · rfl
        · exact sub_
      · skip
        refine go_ ?_
        refine c_cut ⟨_, _, _, ?_, ?_, 1, 2, .inr ⟨rfl, rfl⟩, rfl, rfl, rfl⟩
        · rfl
        · exact sub_
    · rintro q_ m_ h_ hlen ⟨n, mst, hn, rfl, rfl, rfl⟩
      clear hlen
      have hn4 : 0 ≤ (n : Int) ∧ (n : Int) ≤ 4 := by omega
      have hpow : 2 ^ n = mst := by rcases hn with ⟨rfl, rfl⟩ | ⟨rfl, rfl⟩ <;> rfl
      have qp := s_kpublic_ok (seed := seed) hn4
      rw [Int.toNat_natCast] at qp
      have hck : ∀ (j : Nat) (msg : D), j < mst → kcheckE (kpubE seed n) msg (ksignE seed n j msg) = true := fun j msg hj => kcheck_sign seed msg (by omega) (by rw [hpow]; exact hj)
      have hpl : ∀ (j : Nat) (msg : D), j < mst → (ksignE seed n j msg).2.2.length = n := fun j msg hj => ksign_path seed msg (by rw [hpow]; exact hj)
      generalize kpubE seed n = pub at qp hck
      refine go_ ?_
      with_reducible apply run_y
      exact want_
      · intro K hK
        refine ev_ ?_
        refine vcCall_plain (s_knew_ok (seed := seed) hn4) (by kernel_rfl) ?_
        refine ev_ ?_
        exact hK
      refine go_ ?_
      with_reducible apply run_y
      exact want_
      · intro K hK
        refine ev_ ?_
        refine vcCall_plain (qp) (by kernel_rfl) ?_
        refine ev_ ?_
        exact hK
      refine go_ ?_
      refine c_loop (fun k q m h => ∃ j : Nat, j ≤ l.length ∧ k = l.length - j ∧ q = [.top, .top, .sl .any (dsP l), .ptr 1 0, .top, .top, .v (.bool false), .v (.int .i64 (n : Int)), .v (.int .i64 (mst : Int)), .ptr 2 0, .top, .ptr 3 0, .top, .v (.int .i64 (j : Int))] ++ List.replicate 72 .top ∧ m = 4 ∧ h = [(1, .cells (dP seed)), (2, .cells (srP (seed, (n : Int), ((min j mst : Nat) : Int)))), (3, .cells (dP pub))])
        ⟨_, _, _, _, ?_, ?_, ⟨0, Nat.zero_le _, rfl, rfl, rfl, by rw [Nat.zero_min]⟩⟩ ?_
      · rfl
      · skip
        exact sub_
      · rintro k q m h hlen ⟨j, hj, rfl, rfl, rfl, rfl⟩
        clear hlen
        with_reducible apply c_seq
        refine c_seq_cut (fun q_ m_ h_ => q_ = [.top, .top, .sl .any (dsP l), .ptr 1 0, .top, .top, .v (.bool false), .v (.int .i64 (n : Int)), .v (.int .i64 (mst : Int)), .ptr 2 0, .top, .ptr 3 0, .top, .v (.int .i64 (j : Int))] ++ (List.replicate 30 .top ++ (.v (.bool (decide ((j : Int) < ((dsP l).length : Int)))) :: List.replicate 41 .top)) ∧ m_ = 6 ∧ h_ = [(1, .cells (dP seed)), (2, .cells (srP (seed, (n : Int), ((min j mst : Nat) : Int)))), (3, .cells (dP pub)), (4, .free), (5, .free)]) ?_ ?_
        · skip
          refine go_ ?_
          refine c_cut ⟨_, _, _, ?_, ?_, rfl, rfl, rfl⟩
          · rfl
          · exact sub_
        rintro q_ m_ h_ hlen ⟨rfl, rfl, rfl⟩
        clear hlen
        cases g1 : decide ((j : Int) < ((dsP l).length : Int))
        case false =>
          refine go_ ?_
          refine ev_ ?_
          exact .mk (vb_eq (by simp)) trivial
        case true =>
          have hj' : j < l.length := by have := of_decide_eq_true g1; rw [dsP_len] at this; omega
          have hw1 : IntKind.i64.wrap ((j : Int) + 1) = ((j + 1 : Nat) : Int) := by rw [wrap64 (by omega) (by omega)]; omega
          have hdj : j < (dsP l).length := by rw [dsP_len]; exact hj'
          by_cases hjm : j < mst
          · have hge : decide ((j : Int) ≥ (mst : Int)) = false := ge_f hjm
            have hmin : min j mst = j := Nat.min_eq_left (Nat.le_of_lt hjm)
            have q1 := s_kuse_ok (seed := seed) (msg := l.getD j D.zero) (i := (j : Int)) hn4 ⟨by omega, by rw [Int.toNat_natCast, hpow]; exact Int.ofNat_lt.2 hjm⟩
            rw [Int.toNat_natCast, Int.toNat_natCast] at q1
            have q5 := s_kcheck pub (l.getD j D.zero) (ksignE seed n j (l.getD j D.zero)) (by rw [hpl _ _ hjm]; omega)
            rw [hck _ _ hjm] at q5
            have h3 : (ksignE seed n j (l.getD j D.zero)).1 = (j : Int) := rfl
            generalize ksignE seed n j (l.getD j D.zero) = sg at *
            obtain ⟨j2, one, path⟩ := sg
            replace h3 : j2 = (j : Int) := h3
            subst h3
            rw [hmin]
            clear hck hpl hmin
            refine go_ ?_
            with_reducible apply run_y
            exact want_
            · intro K hK
              refine ev_ ?_
              refine vcCall_plain q1 (by kernel_rfl) ?_
              refine ev_ ?_
              exact hK
            with_reducible apply run_y
            exact want_
            exact step_
            with_reducible apply run_y
            exact want_
            exact step_
            with_reducible apply run_y
            exact want_
            exact step_
            with_reducible apply run_y
            exact want_
            exact step_
            with_reducible apply run_y
            exact want_
            · intro K hK
              conv => whnf
              refine And.intro (by kernel_rfl) (Or.inr ⟨4, by decide, by kernel_rfl, ?_⟩)
              refine ev_ ?_
              exact hK
            with_reducible apply run_y
            exact want_
            · intro K hK
              conv => whnf
              refine And.intro (by kernel_rfl) (Or.inr ⟨5, by decide, by kernel_rfl, ?_⟩)
              refine ev_ ?_
              exact hK
            refine go_ ?_
            with_reducible apply run_y
            exact want_
            · intro K hK
              refine ev_ ?_
              refine vcCall_plain (q5) (by kernel_rfl) ?_
              refine ev_ ?_
              exact hK
            refine go_ ?_
            rw [hw1]
            refine go_ ?_
            refine c_round ⟨_, _, _, _, ?_, ?_, ?_, ⟨j + 1, hj', rfl, rfl, rfl, by rw [Nat.min_eq_left (show j + 1 ≤ mst from hjm)]⟩⟩
            · omega
            · rfl
            · skip
              exact sub_
          · have hge : decide ((j : Int) ≥ (mst : Int)) = true := ge_t hjm
            have hmin : min j mst = mst := Nat.min_eq_right (by omega)
            have q1 := s_kuse_used (seed := seed) (msg := l.getD j D.zero) (i := (mst : Int)) hn4 (by rw [Int.toNat_natCast, hpow]; exact fun h => Int.lt_irrefl _ h.2)
            rw [hmin]
            clear hck hpl
            refine go_ ?_
            with_reducible apply run_y
            exact want_
            · intro K hK
              refine ev_ ?_
              refine vcCall_plain q1 (by kernel_rfl) ?_
              refine ev_ ?_
              exact hK
            with_reducible apply run_y
            exact want_
            exact step_
            with_reducible apply run_y
            exact want_
            exact step_
            with_reducible apply run_y
            exact want_
            exact step_
            with_reducible apply run_y
            exact want_
            exact step_
            with_reducible apply run_y
            exact want_
            · intro K hK
              conv => whnf
              refine And.intro (by kernel_rfl) (Or.inr ⟨4, by decide, by kernel_rfl, ?_⟩)
              refine ev_ ?_
              exact hK
            with_reducible apply run_y
            exact want_
            · intro K hK
              conv => whnf
              refine And.intro (by kernel_rfl) (Or.inr ⟨5, by decide, by kernel_rfl, ?_⟩)
              refine ev_ ?_
              exact hK
            refine go_ ?_
            with_reducible apply run_y
            exact want_
            · intro K hK
              refine ev_ ?_
              refine ⟨_, _, _, srP_flat zeroSr, srP_flat zeroSr, eq_Sr _ _, ?_⟩
              refine ev_ ?_
              exact hK
            refine go_ ?_
            rw [hw1]
            refine go_ ?_
            refine c_round ⟨_, _, _, _, ?_, ?_, ?_, ⟨j + 1, hj', rfl, rfl, rfl, by rw [Nat.min_eq_right (show mst ≤ j + 1 by omega)]⟩⟩
            · omega
            · rfl
            · skip
              exact sub_
theorem keysRow_walk (q0 : PV) (v0 : Value) (q1 : PV) (v1 : Value) (q2 : PV) (v2 : Value) (w : World) (hP : Places w) (i0 : IsV shD q0) (r0 : Rep (allOf w) q0 v0) (i1 : IsV .bool q1) (r1 : Rep (allOf w) q1 v1) (i2 : IsV (.sl shD) q2) (r2 : Rep (allOf w) q2 v2) : Calls Tryd.prog 14 #[v0, v1, v2] w fun e w' => e = .returned (.bool true) ∧ Grow w w' := by
  obtain ⟨seed, rfl⟩ := isV_D i0
  obtain ⟨b, rfl⟩ := i1
  obtain ⟨l, -, rfl⟩ := isV_ds i2
  exact walk_of (s_keysRow seed b l) hP (args3 r0 r1 r2)
end Go.Proofs.YtjbklilnhemhmaaDoor
