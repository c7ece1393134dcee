import Derived.Test.YthmepecedjamcaaDoorLJ3
/- Laws of journals: after a fall one goes on. -/
namespace Go.Proofs.YthmepecedjamcaaDoor
open Go.RowKit
set_option linter.unnecessarySimpa false
set_option maxRecDepth 100000 in
set_option maxHeartbeats 4000000 in
theorem s_journalRecovers (l : List (List UInt8)) (at_ : Int) (more : List (List UInt8)) (hla : l.length ≤ 140737488355328) (hsa : ∀ r ∈ l, r.length ≤ 9223372036000000000) (hlb : more.length ≤ 140737488355328) (hsb : ∀ r ∈ more, r.length ≤ 9223372036000000000) :
    Spec (Ctx.mk Tryd.prog globX (0 + 1) Places) 10 [.sl .any (ssP (bsL l)), .v (.int .i64 at_), .sl .any (ssP (bsL more))] [] (.v (.bool true)) [] := by
  have sta := s_total l 1500 (by omega) (by simp only [maxLen]; omega) hsa
  have stb := s_total more 1500 (by omega) (by simp only [maxLen]; omega) hsb
  have hw : IntKind.i64.wrap (((ssP (bsL l)).length : Int) + ((ssP (bsL more)).length : Int)) = ((l.length + more.length : Nat) : Int) := by
    rw [ssP_len, ssP_len, bsL_len, bsL_len, wrap64 (by omega) (by omega)]; omega
  refine spec_of_bodyL CX_mixed CX_gpk Tryd.func10 rfl 113 0 rfl rfl rfl rfl ?_
  refine go_ ?_
  with_reducible apply run_y
  exact want_
  · intro K hK
    refine ev_ ?_
    refine vcCall_plain (s_awake41) (by kernel_rfl) ?_
    refine ev_ ?_
    exact hK
  refine go_ ?_
  rw [hw]
  cases g0 : decide (((l.length + more.length : Nat) : Int) > 1000)
  case true =>
    refine go_ ?_
    refine ev_ ?_
    exact .mk (by rfl) trivial
  case false =>
    have hl : l.length + more.length ≤ 1000 := by have := of_decide_eq_false g0; omega
    refine go_ ?_
    with_reducible apply run_y
    exact want_
    · intro K hK
      refine ev_ ?_
      refine vcCall_plain (sta) (by kernel_rfl) ?_
      refine ev_ ?_
      exact hK
    refine go_ ?_
    cases g1 : decide (((totalE 1500 l 0 : Nat) : Int) > 1500)
    case true =>
      refine go_ ?_
      refine ev_ ?_
      exact .mk (by rfl) trivial
    case false =>
      have h3 : totalE 1500 l 0 ≤ 1500 := by have := of_decide_eq_false g1; omega
      have hpa := totalE_le h3
      rw [hpa] at h3
      clear sta hpa g1
      refine go_ ?_
      with_reducible apply run_y
      exact want_
      · intro K hK
        refine ev_ ?_
        refine vcCall_plain (stb) (by kernel_rfl) ?_
        refine ev_ ?_
        exact hK
      refine go_ ?_
      cases g2 : decide (((totalE 1500 more 0 : Nat) : Int) > 1500)
      case true =>
        refine go_ ?_
        refine ev_ ?_
        exact .mk (by rfl) trivial
      case false =>
        have h4 : totalE 1500 more 0 ≤ 1500 := by have := of_decide_eq_false g2; omega
        have hpb := totalE_le h4
        rw [hpb] at h4
        clear stb hpb g2
        have pa := s_put l (by omega) (by omega)
        have pb := s_put more (by omega) (by omega)
        have ha1 := bs_size (putB l)
        have hb1 := bs_size (putB more)
        have ok := okL_of (l := l) (by omega)
        refine go_ ?_
        with_reducible apply run_y
        exact want_
        · intro K hK
          refine ev_ ?_
          refine vcCall_plain (pa) (by kernel_rfl) ?_
          refine ev_ ?_
          exact hK
        refine go_ ?_
        with_reducible apply run_y
        exact want_
        · intro K hK
          refine ev_ ?_
          refine vcCall_plain (pb) (by kernel_rfl) ?_
          refine ev_ ?_
          exact hK
        refine go_ ?_
        cases g3 : decide (at_ < 0)
        case true =>
          refine go_ ?_
          refine ev_ ?_
          exact .mk (vb_eq (by simp)) trivial
        case false =>
          obtain ⟨k, rfl⟩ := Int.eq_ofNat_of_zero_le (a := at_) (by have := of_decide_eq_false g3; omega)
          refine go_ ?_
          cases g4 : decide ((k : Int) > (((bs (putB l)).size : Nat) : Int))
          case true =>
            refine go_ ?_
            refine ev_ ?_
            exact .mk (vb_eq (by simp)) trivial
          case false =>
            have hk : k ≤ (putB l).length := by have := of_decide_eq_false g4; rw [ha1] at this; omega
            have hc := read_cut l k 1000 ok (by omega) hk
            have s1 := s_read ((putB l).take k) (by rw [List.length_take]; omega)
            have x2 : (bs (putB l)).extract 0 k = bs ((putB l).take k) := by rw [bs_extract]; simp
            obtain ⟨-, -, q1, t, q2, -⟩ := put_read 1000 ((putB l).take k)
            rw [hc] at s1 q1 q2
            have hj := wholeE_le l k
            generalize wholeE l k = z at *
            obtain ⟨j, n⟩ := z
            simp only at hj q1 q2 s1
            have q3 := congrArg List.length q2
            rw [List.length_append, List.length_take] at q3
            have hn : n ≤ k := by omega
            have x3 : (bs (putB l)).extract 0 n = bs (putB (l.take j)) := by rw [bs_extract]; simp only [List.drop_zero, Nat.sub_zero]; rw [q1, putB_take_le]
            have hjl : (l.take j).length = j := by rw [List.length_take]; omega
            have g5 : decide (((n : Nat) : Int) < 0) = false := decide_eq_false (by omega)
            have g6 : decide (((n : Nat) : Int) > ((k : Nat) : Int)) = false := decide_eq_false (by omega)
            have g7 : decide (((ssP (bsL (l.take j))).length : Int) > ((ssP (bsL l)).length : Int)) = false := decide_eq_false (by rw [ssP_len, bsL_len, ssP_len, bsL_len]; omega)
            have hp : putB (l.take j ++ more) = putB (l.take j) ++ putB more := putB_app _ _
            have hn2 : (bs (putB (l.take j))).size = n := by rw [bs_size]; omega
            have s2 := s_read (putB (l.take j) ++ putB more) (by rw [List.length_append]; omega)
            rw [← hp, read_whole (okL_of (by rw [hp, List.length_append]; omega)) (by rw [List.length_append]; omega)] at s2
            have hlen2 : (putB (l.take j ++ more)).length = n + (putB more).length := by rw [hp, List.length_append]; omega
            rw [hlen2, hp] at s2
            have hc1 : (bs (putB (l.take j))).size + (bs (putB more)).size ≤ 9223372036854775807 := by omega
            have hw3 : IntKind.i64.wrap (((n : Nat) : Int) + (((bs (putB more)).size : Nat) : Int)) = ((n + (putB more).length : Nat) : Int) := by
              rw [hb1, wrap64 (by omega) (by omega)]; omega
            have htk := ssP_take (bsL l) j
            rw [← bsL_take] at htk
            have j1 := s_jlist (l.take j ++ more) (l.take j ++ more) (by rw [List.length_append]; omega)
            rw [decide_eq_true rfl] at j1
            have hjj : ((ssP (bsL (l.take j))).length : Int) = (j : Int) := by rw [ssP_len, bsL_len, hjl]
            refine go_ ?_
            with_reducible apply run_y
            exact want_
            · intro K hK
              refine ev_ ?_
              refine ⟨0, k, bs ((putB l).take k), rfl, rfl, Nat.zero_le _, by rw [ha1]; exact hk, Tryd.underlying9, x2, ?_⟩
              refine ev_ ?_
              exact hK
            refine go_ ?_
            with_reducible apply run_y
            exact want_
            · intro K hK
              refine ev_ ?_
              refine vcCall_plain (s1) (by kernel_rfl) ?_
              refine ev_ ?_
              exact hK
            refine go_ ?_
            rw [g5, g6, g7]
            refine go_ ?_
            with_reducible apply run_y
            exact want_
            · intro K hK
              refine ev_ ?_
              refine ⟨0, n, bs (putB (l.take j)), rfl, rfl, Nat.zero_le _, by rw [ha1]; omega, Tryd.underlying9, x3, ?_⟩
              refine ev_ ?_
              exact hK
            refine go_ ?_
            rw [bs_app]
            with_reducible apply run_y
            exact want_
            · intro K hK
              refine ev_ ?_
              refine vcCall_plain (s2) (by kernel_rfl) ?_
              refine ev_ ?_
              exact hK
            refine go_ ?_
            rw [hjj]
            refine go_ ?_
            with_reducible apply run_y
            exact want_
            · intro K hK
              refine ev_ ?_
              refine ⟨0, j, ssP (bsL (l.take j)), rfl, rfl, Nat.zero_le _, by rw [ssP_len, bsL_len]; omega, ⟨_, _, rfl, rfl, .inl rfl⟩, htk, ?_⟩
              refine ev_ ?_
              exact hK
            refine go_ ?_
            with_reducible apply run_y
            exact want_
            · intro K hK
              refine ev_ ?_
              refine ⟨ssP (bsL (l.take j)), ssP_app [] (bsL (l.take j)), appOk_ss (l := []) (l' := bsL (l.take j)) rfl rfl rfl (by rw [bsL_len]; simp; omega), ?_⟩
              conv => whnf
              refine Or.inl ?_
              refine ev_ ?_
              exact hK
            refine go_ ?_
            with_reducible apply run_y
            exact want_
            · intro K hK
              refine ev_ ?_
              refine ⟨ssP (bsL (l.take j ++ more)), by rw [ssP_app, bsL_app], appOk_ss (l := bsL (l.take j)) (l' := bsL more) rfl rfl rfl (by rw [bsL_len, bsL_len]; omega), ?_⟩
              refine ev_ ?_
              exact hK
            refine go_ ?_
            with_reducible apply run_y
            exact want_
            · intro K hK
              refine ev_ ?_
              refine vcCall_plain (j1) (by kernel_rfl) ?_
              refine ev_ ?_
              exact hK
            refine go_ ?_
            rw [hw3]
            refine ev_ ?_
            exact .mk (vb_eq (by simp)) trivial
theorem journalRecovers_walk (q0 : PV) (v0 : Value) (q1 : PV) (v1 : Value) (q2 : PV) (v2 : Value) (w : World) (hP : Places w) (i0 : IsV (.sl .str) q0) (r0 : Rep (allOf w) q0 v0) (z0 : SzV q0) (i1 : IsV (.int .i64) q1) (r1 : Rep (allOf w) q1 v1) (i2 : IsV (.sl .str) q2) (r2 : Rep (allOf w) q2 v2) (z2 : SzV q2) :
    Calls Tryd.prog 10 #[v0, v1, v2] w fun e w' => e = .returned (.bool true) ∧ Grow w w' := by
  obtain ⟨a, rfl, a1, a2⟩ := open_bsL i0 z0
  obtain ⟨n, -, rfl⟩ := open_int i1
  obtain ⟨b, rfl, b1, b2⟩ := open_bsL i2 z2
  exact walk_of (s_journalRecovers a n b (by omega) (short_le a2) (by omega) (short_le b2)) hP (args3 r0 r1 r2)
end Go.Proofs.YthmepecedjamcaaDoor
