import Derived.Test.YthmepecedjamcaaDoorLJ2
/- Laws of journals: records behind others. -/
namespace Go.Proofs.YthmepecedjamcaaDoor
open Go.RowKit
set_option linter.unnecessarySimpa false
theorem read_less : ∀ (N n : Nat) (s : List UInt8), (readE N s).1.length ≤ n → n ≤ N → readE n s = readE N s
  | 0, n, s, _, hn => by
    have : n = 0 := by omega
    subst this; rfl
  | N + 1, n, s, h, hn => by
    cases hf : firstE s with
    | none => rw [readE_none hf, readE_none hf]
    | some r =>
      rw [readE_some hf] at h ⊢
      cases n with
      | zero => simp at h
      | succ n =>
        rw [readE_some hf, read_less N n _ (by simpa using h) (by omega)]
theorem putB_take_le (l : List (List UInt8)) (j : Nat) : (putB l).take (putB (l.take j)).length = putB (l.take j) := by
  conv => lhs; rw [← List.take_append_drop j l, putB_app]
  rw [List.take_append_drop]
  simp
set_option maxRecDepth 100000 in
set_option maxHeartbeats 4000000 in
theorem s_journalMore (a b : List (List UInt8)) (r : List UInt8) (hla : a.length ≤ 140737488355328) (hsa : ∀ r ∈ a, r.length ≤ 9223372036000000000) (hlb : b.length ≤ 140737488355328) (hsb : ∀ r ∈ b, r.length ≤ 9223372036000000000) :
    Spec (Ctx.mk Tryd.prog globX (0 + 1) Places) 8 [.sl .any (ssP (bsL a)), .sl .any (ssP (bsL b)), .v (.string (bs r))] [] (.v (.bool true)) [] := by
  have sta := s_total a 1500 (by omega) (by simp only [maxLen]; omega) hsa
  have stb := s_total b 1500 (by omega) (by simp only [maxLen]; omega) hsb
  have hw : IntKind.i64.wrap (((ssP (bsL a)).length : Int) + ((ssP (bsL b)).length : Int)) = ((a.length + b.length : Nat) : Int) := by
    rw [ssP_len, ssP_len, bsL_len, bsL_len, wrap64 (by omega) (by omega)]; omega
  refine spec_of_bodyL CX_mixed CX_gpk Tryd.func8 rfl 111 0 rfl rfl rfl rfl ?_
  refine go_ ?_
  with_reducible apply run_y
  exact want_
  · intro K hK
    refine ev_ ?_
    refine vcCall_plain (s_awake41) (by kernel_rfl) ?_
    refine ev_ ?_
    exact hK
  refine go_ ?_
  rw [hw]
  cases g0 : decide (((a.length + b.length : Nat) : Int) > 1000)
  case true =>
    refine go_ ?_
    refine ev_ ?_
    exact .mk (by rfl) trivial
  case false =>
    have hl : a.length + b.length ≤ 1000 := by have := of_decide_eq_false g0; omega
    refine go_ ?_
    with_reducible apply run_y
    exact want_
    · intro K hK
      refine ev_ ?_
      refine vcCall_plain (sta) (by kernel_rfl) ?_
      refine ev_ ?_
      exact hK
    refine go_ ?_
    cases g1 : decide (((totalE 1500 a 0 : Nat) : Int) > 1500)
    case true =>
      refine go_ ?_
      refine ev_ ?_
      exact .mk (by rfl) trivial
    case false =>
      have h3 : totalE 1500 a 0 ≤ 1500 := by have := of_decide_eq_false g1; omega
      have hpa := totalE_le h3
      rw [hpa] at h3
      clear sta hpa g1
      refine go_ ?_
      with_reducible apply run_y
      exact want_
      · intro K hK
        refine ev_ ?_
        refine vcCall_plain (stb) (by kernel_rfl) ?_
        refine ev_ ?_
        exact hK
      refine go_ ?_
      cases g2 : decide (((totalE 1500 b 0 : Nat) : Int) > 1500)
      case true =>
        refine go_ ?_
        refine ev_ ?_
        exact .mk (by rfl) trivial
      case false =>
        have h4 : totalE 1500 b 0 ≤ 1500 := by have := of_decide_eq_false g2; omega
        have hpb := totalE_le h4
        rw [hpb] at h4
        clear stb hpb g2
        refine go_ ?_
        cases g3 : decide ((((bs r).size : Nat) : Int) > 1500)
        case true =>
          refine go_ ?_
          refine ev_ ?_
          exact .mk (by rfl) trivial
        case false =>
          have h5 : r.length ≤ 1500 := by have := of_decide_eq_false g3; rw [bs_size] at this; omega
          have hab : putB (a ++ b) = putB a ++ putB b := putB_app a b
          have pa := s_put a (by omega) (by omega)
          have pb := s_put b (by omega) (by omega)
          have pab := s_put (a ++ b) (by rw [List.length_append]; omega) (by rw [hab, List.length_append]; omega)
          have ha1 := bs_size (putB a)
          have hb1 := bs_size (putB b)
          have hc1 : (bs (putB a)).size + (bs (putB b)).size ≤ 9223372036854775807 := by omega
          have hr1 := bs_size r
          have hc2 : (bs (putB a)).size + (bs r).size ≤ 9223372036854775807 := by omega
          have s1 := s_read r (by omega)
          have s2 := s_read (putB a ++ r) (by rw [List.length_append]; omega)
          have oka := okL_of (l := a) (by omega)
          have hrd := read_put (n := 1000) r oka (by omega)
          have hless := read_less 1000 (1000 - a.length) r
          have hk2 := (put_read 1000 r).2.1
          have hk3 := (put_read 1000 r).2.2
          obtain ⟨hk3, t, hk4, -⟩ := hk3
          have hk5 := congrArg List.length hk4
          rw [List.length_append, ← hk3] at hk5
          refine go_ ?_
          with_reducible apply run_y
          exact want_
          · intro K hK
            refine ev_ ?_
            refine vcCall_plain (pa) (by kernel_rfl) ?_
            refine ev_ ?_
            exact hK
          refine go_ ?_
          with_reducible apply run_y
          exact want_
          · intro K hK
            refine ev_ ?_
            refine vcCall_plain (pb) (by kernel_rfl) ?_
            refine ev_ ?_
            exact hK
          refine go_ ?_
          with_reducible apply run_y
          exact want_
          · intro K hK
            refine ev_ ?_
            refine ⟨ssP (bsL a), ssP_app [] (bsL a), appOk_ss (l := []) (l' := bsL a) rfl rfl rfl (by rw [bsL_len]; simp; omega), ?_⟩
            conv => whnf
            refine Or.inl ?_
            refine ev_ ?_
            exact hK
          refine go_ ?_
          with_reducible apply run_y
          exact want_
          · intro K hK
            refine ev_ ?_
            refine ⟨ssP (bsL (a ++ b)), by rw [ssP_app, bsL_app], appOk_ss (l := bsL a) (l' := bsL b) rfl rfl rfl (by rw [bsL_len, bsL_len]; omega), ?_⟩
            refine ev_ ?_
            exact hK
          refine go_ ?_
          with_reducible apply run_y
          exact want_
          · intro K hK
            refine ev_ ?_
            refine vcCall_plain (pab) (by kernel_rfl) ?_
            refine ev_ ?_
            exact hK
          refine go_ ?_
          have he : bs (putB a) ++ bs (putB b) = bs (putB (a ++ b)) := by rw [bs_app, hab]
          rw [he]
          refine go_ ?_
          with_reducible apply run_y
          exact want_
          · intro K hK
            refine ev_ ?_
            refine vcCall_plain (s1) (by kernel_rfl) ?_
            refine ev_ ?_
            exact hK
          refine go_ ?_
          rw [bs_app]
          with_reducible apply run_y
          exact want_
          · intro K hK
            refine ev_ ?_
            refine vcCall_plain (s2) (by kernel_rfl) ?_
            refine ev_ ?_
            exact hK
          refine go_ ?_
          have hw2 : IntKind.i64.wrap (((ssP (bsL a)).length : Int) + ((ssP (bsL (readE 1000 r).1)).length : Int)) = ((a.length + (readE 1000 r).1.length : Nat) : Int) := by
            rw [ssP_len, ssP_len, bsL_len, bsL_len, wrap64 (by omega) (by omega)]; omega
          have hw3 : IntKind.i64.wrap ((((bs (putB a)).size : Nat) : Int) + (((readE 1000 r).2 : Nat) : Int)) = (((putB a).length + (readE 1000 r).2 : Nat) : Int) := by
            rw [ha1, wrap64 (by omega) (by omega)]; omega
          rw [hw2]
          cases g4 : decide (((a.length + (readE 1000 r).1.length : Nat) : Int) > 1000)
          case true =>
            refine go_ ?_
            refine ev_ ?_
            exact .mk (vb_eq (by simp)) trivial
          case false =>
            have h6 : a.length + (readE 1000 r).1.length ≤ 1000 := by have := of_decide_eq_false g4; omega
            rw [hless (by omega) (by omega)] at hrd
            rw [hrd]
            generalize readE 1000 r = k at *
            obtain ⟨k, n⟩ := k
            simp only at h6 hw3 hk2 ⊢
            have j1 := s_jlist (a ++ k) (a ++ k) (by rw [List.length_append]; omega)
            rw [decide_eq_true rfl] at j1
            refine go_ ?_
            with_reducible apply run_y
            exact want_
            · intro K hK
              refine ev_ ?_
              refine ⟨ssP (bsL a), ssP_app [] (bsL a), appOk_ss (l := []) (l' := bsL a) rfl rfl rfl (by rw [bsL_len]; simp; omega), ?_⟩
              conv => whnf
              refine Or.inl ?_
              refine ev_ ?_
              exact hK
            refine go_ ?_
            with_reducible apply run_y
            exact want_
            · intro K hK
              refine ev_ ?_
              refine ⟨ssP (bsL (a ++ k)), by rw [ssP_app, bsL_app], appOk_ss (l := bsL a) (l' := bsL k) rfl rfl rfl (by rw [bsL_len, bsL_len]; omega), ?_⟩
              refine ev_ ?_
              exact hK
            refine go_ ?_
            with_reducible apply run_y
            exact want_
            · intro K hK
              refine ev_ ?_
              refine vcCall_plain (j1) (by kernel_rfl) ?_
              refine ev_ ?_
              exact hK
            refine go_ ?_
            rw [hw3]
            refine ev_ ?_
            exact .mk (vb_eq (by simp)) trivial
theorem journalMore_walk (q0 : PV) (v0 : Value) (q1 : PV) (v1 : Value) (q2 : PV) (v2 : Value) (w : World) (hP : Places w) (i0 : IsV (.sl .str) q0) (r0 : Rep (allOf w) q0 v0) (z0 : SzV q0) (i1 : IsV (.sl .str) q1) (r1 : Rep (allOf w) q1 v1) (z1 : SzV q1) (i2 : IsV .str q2) (r2 : Rep (allOf w) q2 v2) :
    Calls Tryd.prog 8 #[v0, v1, v2] w fun e w' => e = .returned (.bool true) ∧ Grow w w' := by
  obtain ⟨a, rfl, a1, a2⟩ := open_bsL i0 z0
  obtain ⟨b, rfl, b1, b2⟩ := open_bsL i1 z1
  obtain ⟨r, rfl⟩ := open_bs i2
  exact walk_of (s_journalMore a b r (by omega) (short_le a2) (by omega) (short_le b2)) hP (args3 r0 r1 r2)
end Go.Proofs.YthmepecedjamcaaDoor
