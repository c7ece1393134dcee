import Derived.Test.YthmepecedjamcaaDoorLJ1
/- Laws of journals: cut anywhere; what was read, put again. -/
namespace Go.Proofs.YthmepecedjamcaaDoor
open Go.RowKit
set_option linter.unnecessarySimpa false
theorem bsL_take (l : List (List UInt8)) (j : Nat) : bsL (l.take j) = (bsL l).take j := List.map_take
theorem wholeE_cons (r : List UInt8) (l : List (List UInt8)) (k : Nat) : wholeE (r :: l) k = if 20 + r.length ≤ k then ((wholeE l (k - (20 + r.length))).1 + 1, 20 + r.length + (wholeE l (k - (20 + r.length))).2) else (0, 0) := rfl
/-- How far one came along the records that are whole in the first k bytes. -/
structure CutAt (l : List (List UInt8)) (k j n : Nat) : Prop where
  le : j ≤ l.length
  fit : n ≤ k
  all : wholeE l k = (j + (wholeE (l.drop j) (k - n)).1, n + (wholeE (l.drop j) (k - n)).2)
theorem CutAt.zero (l : List (List UInt8)) (k : Nat) : CutAt l k 0 0 := ⟨Nat.zero_le _, Nat.zero_le _, by simp⟩
theorem CutAt.next {l : List (List UInt8)} {k j n : Nat} (h : CutAt l k j n) (hj : j < l.length) (hn : n + 20 + (l.getD j []).length ≤ k) : CutAt l k (j + 1) (n + 20 + (l.getD j []).length) := by
  refine ⟨hj, hn, ?_⟩
  have hf := h.fit
  rw [h.all, lists_drop hj, wholeE_cons, if_pos (by omega)]
  have e : k - n - (20 + (l.getD j []).length) = k - (n + 20 + (l.getD j []).length) := by omega
  simp only [e]
  generalize wholeE (l.drop (j + 1)) _ = z
  refine Prod.ext ?_ ?_
  · show j + (z.1 + 1) = j + 1 + z.1; omega
  · show n + (20 + (l.getD j []).length + z.2) = n + 20 + (l.getD j []).length + z.2; omega
theorem CutAt.done {l : List (List UInt8)} {k j n : Nat} (h : CutAt l k j n) (hj : j < l.length → ¬ n + 20 + (l.getD j []).length ≤ k) : wholeE l k = (j, n) := by
  rw [h.all]
  by_cases hlt : j < l.length
  · have hf := h.fit
    rw [lists_drop hlt, wholeE_cons, if_neg (by have := hj hlt; omega)]; rfl
  · have : j = l.length := by have := h.le; omega
    subst this
    rw [List.drop_length]; rfl
set_option maxRecDepth 100000 in
set_option maxHeartbeats 2000000 in
theorem s_journalRest (l : List UInt8) : Spec (Ctx.mk Tryd.prog globX (0 + 1) Places) 9 [.v (.string (bs l))] [] (.v (.bool true)) [] := by
  refine spec_of_bodyL CX_mixed CX_gpk Tryd.func9 rfl 57 0 rfl rfl rfl rfl ?_
  refine go_ ?_
  with_reducible apply run_y
  exact want_
  · intro K hK
    refine ev_ ?_
    refine vcCall_plain (s_awake41) (by kernel_rfl) ?_
    refine ev_ ?_
    exact hK
  refine go_ ?_
  cases g0 : decide ((((bs l).size : Nat) : Int) > 3000)
  case true =>
    refine go_ ?_
    refine ev_ ?_
    exact .mk (by rfl) trivial
  case false =>
    have hl : l.length ≤ 3000 := by have := of_decide_eq_false g0; rw [bs_size] at this; omega
    have s1 := s_read l (by omega)
    obtain ⟨h1, h2, h3, t, h4, h5⟩ := put_read 1000 l
    generalize readE 1000 l = k at *
    obtain ⟨a, n⟩ := k
    simp only at h1 h2 h3 h4 h5 s1
    have hlen := congrArg List.length h4
    rw [List.length_append] at hlen
    have hmany : ∀ a : List (List UInt8), 20 * a.length ≤ (putB a).length := fun a => by
      induction a with
      | nil => simp
      | cons r a ih => rw [putB_cons, List.length_append, recB_len, List.length_cons]; omega
    have h6 := hmany a
    have h7 : firstE t = none := by
      rcases h5 with h5 | h5
      · exact h5
      · omega
    have e1 : l.drop n = t := by rw [h4, h3]; simp
    have e2 : l.take n = putB a := by rw [h4, h3]; simp
    have p1 := s_put a h2 (by omega)
    have s2 := s_read t (by omega)
    rw [readE_none h7] at s2
    have s2 : Spec (Ctx.mk Tryd.prog globX (0 + 1) Places) 25 [.v (.string (bs t))] [] (.tup [.sl .any [], .v (.int .i64 0)]) [] := s2
    have hsz : (bs l).size = l.length := bs_size l
    have hn : n ≤ l.length := by omega
    have g1 : decide (((n : Nat) : Int) < 0) = false := decide_eq_false (by omega)
    have g2 : decide (((n : Nat) : Int) > (((bs l).size : Nat) : Int)) = false := decide_eq_false (by rw [hsz]; omega)
    have x1 : (bs l).extract n l.length = bs t := by rw [bs_extract, e1, List.take_of_length_le (by omega)]
    have x2 : (bs l).extract 0 n = bs (putB a) := by rw [bs_extract]; simp [e2]
    refine go_ ?_
    with_reducible apply run_y
    exact want_
    · intro K hK
      refine ev_ ?_
      refine vcCall_plain (s1) (by kernel_rfl) ?_
      refine ev_ ?_
      exact hK
    refine go_ ?_
    with_reducible apply run_y
    exact want_
    · intro K hK
      refine ev_ ?_
      refine vcCall_plain (p1) (by kernel_rfl) ?_
      refine ev_ ?_
      exact hK
    refine go_ ?_
    with_reducible apply run_y
    exact want_
    · intro K hK
      refine ev_ ?_
      refine ⟨n, l.length, bs t, rfl, hsz.symm, by omega, by rw [hsz]; omega, Tryd.underlying9, x1, ?_⟩
      refine ev_ ?_
      exact hK
    refine go_ ?_
    with_reducible apply run_y
    exact want_
    · intro K hK
      refine ev_ ?_
      refine vcCall_plain (s2) (by kernel_rfl) ?_
      refine ev_ ?_
      exact hK
    refine go_ ?_
    with_reducible apply run_y
    exact want_
    · intro K hK
      refine ev_ ?_
      refine ⟨0, n, bs (putB a), rfl, rfl, Nat.zero_le _, by rw [hsz]; omega, Tryd.underlying9, x2, ?_⟩
      refine ev_ ?_
      exact hK
    refine go_ ?_
    refine ev_ ?_
    exact .mk (vb_eq (by simp)) trivial
set_option maxRecDepth 100000 in
set_option maxHeartbeats 2000000 in
theorem s_journalCut (l : List (List UInt8)) (at_ : Int) (hlen : l.length ≤ maxLen) (hs : ∀ r ∈ l, r.length ≤ 9223372036000000000) : Spec (Ctx.mk Tryd.prog globX (0 + 1) Places) 6 [.sl .any (ssP (bsL l)), .v (.int .i64 at_)] [] (.v (.bool true)) [] := by
  have st := s_total l 3000 (by omega) hlen hs
  refine spec_of_bodyL CX_mixed CX_gpk Tryd.func6 rfl 83 0 rfl rfl rfl rfl ?_
  refine go_ ?_
  with_reducible apply run_y
  exact want_
  · intro K hK
    refine ev_ ?_
    refine vcCall_plain (s_awake41) (by kernel_rfl) ?_
    refine ev_ ?_
    exact hK
  refine go_ ?_
  cases g0 : decide (((ssP (bsL l)).length : Int) > 1000)
  case true =>
    refine go_ ?_
    refine ev_ ?_
    exact .mk (by rfl) trivial
  case false =>
    have hl : l.length ≤ 1000 := by have := of_decide_eq_false g0; rw [ssP_len, bsL_len] at this; omega
    refine go_ ?_
    with_reducible apply run_y
    exact want_
    · intro K hK
      refine ev_ ?_
      refine vcCall_plain (st) (by kernel_rfl) ?_
      refine ev_ ?_
      exact hK
    refine go_ ?_
    cases g1 : decide (((totalE 3000 l 0 : Nat) : Int) > 3000)
    case true =>
      refine go_ ?_
      refine ev_ ?_
      exact .mk (by rfl) trivial
    case false =>
      have h3 : totalE 3000 l 0 ≤ 3000 := by have := of_decide_eq_false g1; omega
      have hp := totalE_le h3
      rw [hp] at h3
      clear st hp g1
      have ok := okL_of (l := l) (by omega)
      have p1 := s_put l hl (by omega)
      have hsz := bs_size (putB l)
      refine go_ ?_
      with_reducible apply run_y
      exact want_
      · intro K hK
        refine ev_ ?_
        refine vcCall_plain (p1) (by kernel_rfl) ?_
        refine ev_ ?_
        exact hK
      refine go_ ?_
      cases g2 : decide (at_ < 0)
      case true =>
        refine go_ ?_
        refine ev_ ?_
        exact .mk (vb_eq (by simp)) trivial
      case false =>
        obtain ⟨k, rfl⟩ := Int.eq_ofNat_of_zero_le (a := at_) (by have := of_decide_eq_false g2; omega)
        refine go_ ?_
        cases g3 : decide ((k : Int) > (((bs (putB l)).size : Nat) : Int))
        case true =>
          refine go_ ?_
          refine ev_ ?_
          exact .mk (vb_eq (by simp)) trivial
        case false =>
          have hk : k ≤ (putB l).length := by have := of_decide_eq_false g3; rw [hsz] at this; omega
          have hc := read_cut l k 1000 ok hl hk
          have s1 := s_read ((putB l).take k) (by rw [List.length_take]; omega)
          have x2 : (bs (putB l)).extract 0 k = bs ((putB l).take k) := by rw [bs_extract]; simp
          refine go_ ?_
          refine c_loop (fun f q m h => ∃ j n : Nat, CutAt l k j n ∧ f = l.length - j ∧ q = [.sl .any (ssP (bsL l)), .v (.int .i64 (k : Int)), .top, .top, .v (.bool false), .v (.string (bs (putB l))), .top, .v (.int .i64 (n : Int)), .v (.int .i64 (j : Int))] ++ List.replicate 74 .top ∧ m = 1 ∧ h = [])
            ⟨_, _, _, _, ?_, ?_, ⟨0, 0, .zero l k, rfl, rfl, rfl, rfl⟩⟩ ?_
          · rfl
          · skip
            exact sub_
          · rintro f q m h hlen2 ⟨j, n, hq, rfl, rfl, rfl, rfl⟩
            clear hlen2
            have hfit := hq.fit
            by_cases hj : j < l.length
            · have hat := bsL_at hj
              have h1 : j < (bsL l).length := by rw [bsL_len]; exact hj
              have g4 : decide ((j : Int) < ((ssP (bsL l)).length : Int)) = true := decide_eq_true (by rw [ssP_len, bsL_len]; omega)
              have hmem := putB_mem (getD_mem hj)
              have hnext := hq.next hj
              have hdone := hq.done
              have hw1 : IntKind.i64.wrap ((n : Int) + 20) = ((n + 20 : Nat) : Int) := by rw [wrap64 (by omega) (by omega)]; omega
              have hw2 : IntKind.i64.wrap (((n + 20 : Nat) : Int) + (((bs (l.getD j [])).size : Nat) : Int)) = ((n + 20 + (l.getD j []).length : Nat) : Int) := by rw [bs_size, wrap64 (by omega) (by omega)]; omega
              have hw3 : IntKind.i64.wrap ((j : Int) + 1) = ((j + 1 : Nat) : Int) := by rw [wrap64 (by omega) (by omega)]; omega
              refine go_ ?_
              rw [hat, hw1, hw2, g4]
              cases g5 : decide (((n + 20 + (l.getD j []).length : Nat) : Int) ≤ (k : Int))
              case true =>
                have hle : n + 20 + (l.getD j []).length ≤ k := by have := of_decide_eq_true g5; omega
                refine go_ ?_
                rw [hat, hw1, hw2]
                refine go_ ?_
                rw [hw3]
                refine c_round ⟨_, _, _, _, ?_, ?_, ?_, ⟨j + 1, n + 20 + (l.getD j []).length, hnext hle, rfl, rfl, rfl, rfl⟩⟩
                · omega
                · rfl
                · skip
                  exact sub_
              case false =>
                have hle : ¬ n + 20 + (l.getD j []).length ≤ k := by have := of_decide_eq_false g5; omega
                rw [hdone (fun _ => hle)] at hc
                rw [hc] at s1
                have j1 := s_jlist (l.take j) (l.take j) (by rw [List.length_take]; omega)
                rw [decide_eq_true rfl] at j1
                have htk := ssP_take (bsL l) j
                rw [← bsL_take] at htk
                refine go_ ?_
                with_reducible apply run_y
                exact want_
                · intro K hK
                  refine ev_ ?_
                  refine ⟨0, k, bs ((putB l).take k), rfl, rfl, Nat.zero_le _, by rw [hsz]; exact hk, Tryd.underlying9, x2, ?_⟩
                  refine ev_ ?_
                  exact hK
                refine go_ ?_
                with_reducible apply run_y
                exact want_
                · intro K hK
                  refine ev_ ?_
                  refine vcCall_plain (s1) (by kernel_rfl) ?_
                  refine ev_ ?_
                  exact hK
                refine go_ ?_
                with_reducible apply run_y
                exact want_
                · intro K hK
                  refine ev_ ?_
                  refine ⟨0, j, ssP (bsL (l.take j)), rfl, rfl, Nat.zero_le _, by rw [ssP_len, bsL_len]; omega, ⟨_, _, rfl, rfl, .inl rfl⟩, htk, ?_⟩
                  refine ev_ ?_
                  exact hK
                refine go_ ?_
                with_reducible apply run_y
                exact want_
                · intro K hK
                  refine ev_ ?_
                  refine vcCall_plain (j1) (by kernel_rfl) ?_
                  refine ev_ ?_
                  exact hK
                refine go_ ?_
                refine ev_ ?_
                exact .mk (vb_eq (by simp)) trivial
            · have hjl : j = l.length := by have := hq.le; omega
              subst hjl
              have g4 : decide (((l.length : Nat) : Int) < ((ssP (bsL l)).length : Int)) = false := decide_eq_false (by rw [ssP_len, bsL_len]; omega)
              rw [hq.done (fun h => absurd h (Nat.lt_irrefl _))] at hc
              rw [hc] at s1
              have j1 := s_jlist (l.take l.length) (l.take l.length) (by rw [List.length_take]; omega)
              rw [decide_eq_true rfl] at j1
              have htk := ssP_take (bsL l) l.length
              rw [← bsL_take] at htk
              refine go_ ?_
              with_reducible apply run_y
              exact want_
              · intro K hK
                refine ev_ ?_
                refine ⟨0, k, bs ((putB l).take k), rfl, rfl, Nat.zero_le _, by rw [hsz]; exact hk, Tryd.underlying9, x2, ?_⟩
                refine ev_ ?_
                exact hK
              refine go_ ?_
              with_reducible apply run_y
              exact want_
              · intro K hK
                refine ev_ ?_
                refine vcCall_plain (s1) (by kernel_rfl) ?_
                refine ev_ ?_
                exact hK
              refine go_ ?_
              with_reducible apply run_y
              exact want_
              · intro K hK
                refine ev_ ?_
                refine ⟨0, l.length, ssP (bsL (l.take l.length)), rfl, rfl, Nat.zero_le _, by rw [ssP_len, bsL_len]; omega, ⟨_, _, rfl, rfl, .inl rfl⟩, htk, ?_⟩
                refine ev_ ?_
                exact hK
              refine go_ ?_
              with_reducible apply run_y
              exact want_
              · intro K hK
                refine ev_ ?_
                refine vcCall_plain (j1) (by kernel_rfl) ?_
                refine ev_ ?_
                exact hK
              refine go_ ?_
              refine ev_ ?_
              exact .mk (vb_eq (by simp)) trivial
theorem journalRest_walk (q0 : PV) (v0 : Value) (w : World) (hP : Places w) (i0 : IsV .str q0) (r0 : Rep (allOf w) q0 v0) : Calls Tryd.prog 9 #[v0] w fun e w' => e = .returned (.bool true) ∧ Grow w w' := by
  obtain ⟨l, rfl⟩ := open_bs i0
  exact walk_of (s_journalRest l) hP (args1 r0)
theorem journalCut_walk (q0 : PV) (v0 : Value) (q1 : PV) (v1 : Value) (w : World) (hP : Places w) (i0 : IsV (.sl .str) q0) (r0 : Rep (allOf w) q0 v0) (z0 : SzV q0) (i1 : IsV (.int .i64) q1) (r1 : Rep (allOf w) q1 v1) : Calls Tryd.prog 6 #[v0, v1] w fun e w' => e = .returned (.bool true) ∧ Grow w w' := by
  obtain ⟨l, rfl, h1, h2⟩ := open_bsL i0 z0
  obtain ⟨at_, -, rfl⟩ := open_int i1
  exact walk_of (s_journalCut l at_ (by simp only [maxLen]; omega) (short_le h2)) hP (args2 r0 r1)
end Go.Proofs.YthmepecedjamcaaDoor
