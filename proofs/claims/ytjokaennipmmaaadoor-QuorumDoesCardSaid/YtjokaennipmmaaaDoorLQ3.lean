import Derived.Test.YtjokaennipmmaaaDoorLQ1
/- The law QuorumMeets. -/
namespace Go.Proofs.YtjokaennipmmaaaDoor
open Go.RowKit
set_option linter.unnecessarySimpa false
theorem is_mem {w : List Nat} {x : Nat} (h : x ∈ w) : ∃ i, i < w.length ∧ w.getD i 0 = x := by
  obtain ⟨i, hi, rfl⟩ := List.mem_iff_getElem.1 h
  exact ⟨i, hi, by rw [List.getD_eq_getElem?_getD, List.getElem?_eq_getElem hi]; rfl⟩
theorem wrapu {n : Nat} (h : n < 18446744073709551616) : IntKind.u64.wrap (n : Int) = (n : Int) := by
  show (n : Int) % 18446744073709551616 = _
  exact Int.emod_eq_of_lt (by omega) (by omega)
set_option maxRecDepth 100000 in
set_option maxHeartbeats 4000000 in
theorem s_quorumMeets (bs : List D) (need : Int) (msg other : D) (l more : List Sd) (hb2 : need ≤ 9223372036854775807) : Spec (Ctx.mk Tryd.prog globX (0 + 1) Places) 9 [.agg (askP bs need msg l), .agg (dP other), .sl .any (sdsP more)] [] (.v (.bool true)) [] := by
  have q0 := s_small45 bs need msg l
  have q1 := s_small45 [] 0 D.zero more
  refine spec_of_bodyL CX_mixed CX_gpk Tryd.func9 rfl 86 0 rfl rfl rfl rfl ?_
  refine go_ ?_
  with_reducible apply run_y
  exact want_
  · intro K hK
    refine ev_ ?_
    refine vcCall_plain (q0) (by kernel_rfl) ?_
    refine ev_ ?_
    exact hK
  refine go_ ?_
  cases hsm : smE bs l
  case false =>
    refine go_ ?_
    with_reducible apply run_y
    exact want_
    · intro K hK
      refine ev_ ?_
      refine vcCall_plain (s_awake45) (by kernel_rfl) ?_
      refine ev_ ?_
      exact hK
    refine go_ ?_
    refine ev_ ?_
    exact .mk (by rfl) trivial
  case true =>
    obtain ⟨h1, h2, h3⟩ := sm_spec hsm
    refine go_ ?_
    with_reducible apply run_y
    exact want_
    · intro K hK
      refine ev_ ?_
      refine vcCall_plain (q1) (by kernel_rfl) ?_
      refine ev_ ?_
      exact hK
    refine go_ ?_
    cases hsm2 : smE [] more
    case false =>
      refine go_ ?_
      with_reducible apply run_y
      exact want_
      · intro K hK
        refine ev_ ?_
        refine vcCall_plain (s_awake45) (by kernel_rfl) ?_
        refine ev_ ?_
        exact hK
      refine go_ ?_
      refine ev_ ?_
      exact .mk (by rfl) trivial
    case true =>
      obtain ⟨-, h4, h5⟩ := sm_spec hsm2
      have c1 : IntKind.u64.wrap (if (0 : Int) > need then 0 else need) = ((need.toNat : Nat) : Int) := by
        by_cases e : (0 : Int) > need
        · rw [if_pos e, show need.toNat = 0 by omega]; rfl
        · rw [if_neg e]
          have : need = ((need.toNat : Nat) : Int) := by omega
          conv => lhs; rw [this]
          exact wrapu (by omega)
      have c2 : IntKind.u64.wrap (2 * ((need.toNat : Nat) : Int)) = ((2 * need.toNat : Nat) : Int) := by
        rw [show (2 : Int) * ((need.toNat : Nat) : Int) = ((2 * need.toNat : Nat) : Int) by omega]
        exact wrapu (by omega)
      have c3 : IntKind.u64.wrap (((dsP bs).length : Nat) : Int) = (((dsP bs).length : Nat) : Int) := wrapu (by rw [dsP_len]; omega)
      refine go_ ?_
      rw [c1]
      refine go_ ?_
      rw [c2]
      refine go_ ?_
      rw [c3]
      cases g1 : decide (((2 * need.toNat : Nat) : Int) ≤ (((dsP bs).length : Nat) : Int))
      case true =>
        refine go_ ?_
        with_reducible apply run_y
        exact want_
        · intro K hK
          refine ev_ ?_
          refine vcCall_plain (s_awake45) (by kernel_rfl) ?_
          refine ev_ ?_
          exact hK
        refine go_ ?_
        refine ev_ ?_
        exact .mk (by rfl) trivial
      case false =>
        have g1' : bs.length < 2 * need.toNat := by have := of_decide_eq_false g1; rw [dsP_len] at this; omega
        have o1 := s_qholds bs need msg l (by omega) (by omega) h3
        have o2 := s_qholds bs need other more (by omega) (by omega) h5
        refine go_ ?_
        with_reducible apply run_y
        exact want_
        · intro K hK
          refine ev_ ?_
          refine vcCall_plain (o1) (by kernel_rfl) ?_
          refine ev_ ?_
          exact hK
        refine go_ ?_
        cases hh : holdsE bs need msg l
        case false =>
          refine go_ ?_
          with_reducible apply run_y
          exact want_
          · intro K hK
            refine ev_ ?_
            refine vcCall_plain (s_awake45) (by kernel_rfl) ?_
            refine ev_ ?_
            exact hK
          refine go_ ?_
          refine ev_ ?_
          exact .mk (by rfl) trivial
        case true =>
          refine go_ ?_
          with_reducible apply run_y
          exact want_
          · intro K hK
            refine ev_ ?_
            refine vcCall_plain (o2) (by kernel_rfl) ?_
            refine ev_ ?_
            exact hK
          refine go_ ?_
          cases hh2 : holdsE bs need other more
          case false =>
            refine go_ ?_
            with_reducible apply run_y
            exact want_
            · intro K hK
              refine ev_ ?_
              refine vcCall_plain (s_awake45) (by kernel_rfl) ?_
              refine ev_ ?_
              exact hK
            refine go_ ?_
            refine ev_ ?_
            exact .mk (by rfl) trivial
          case true =>
            obtain ⟨-, -, n1⟩ := holds_need hh
            obtain ⟨-, -, n2⟩ := holds_need hh2
            have w1 := s_who bs need msg l (by omega) (by omega) h3
            have w2 := s_who bs need other more (by omega) (by omega) h5
            have hmeet := whoE_meet (bs := bs) (m := msg) (n := other) (l := l) (k := more) (by omega)
            have hla := who_len bs msg l
            have hlb := who_len bs other more
            generalize whoE bs msg l = a at *
            generalize whoE bs other more = b at *
            clear n1 n2 c1 c2 c3 q0 q1 o1 o2 g1 g1'
            refine go_ ?_
            with_reducible apply run_y
            exact want_
            · intro K hK
              refine ev_ ?_
              refine vcCall_plain (w1) (by kernel_rfl) ?_
              refine ev_ ?_
              exact hK
            refine go_ ?_
            with_reducible apply run_y
            exact want_
            · intro K hK
              refine ev_ ?_
              refine vcCall_plain (w2) (by kernel_rfl) ?_
              refine ev_ ?_
              exact hK
            refine go_ ?_
            refine c_loop (fun f q m h => ∃ i : Nat, i ≤ a.length ∧ (∀ i', i' < i → ∀ k, k < b.length → a.getD i' 0 ≠ b.getD k 0) ∧ f = a.length - i ∧ q = [.top, .top, .top, .top, .top, .top, .v (.bool false), .sl .any (isP a), .sl .any (isP b), .v (.int .i64 (i : Int))] ++ List.replicate 76 .top ∧ m = 1 ∧ h = [])
              ⟨_, _, _, _, ?_, ?_, ⟨0, Nat.zero_le _, fun i' hi' => by omega, rfl, rfl, rfl, rfl⟩⟩ ?_
            · rfl
            · skip
              exact sub_
            · rintro f q m h hlen2 ⟨i, hi, hn, rfl, rfl, rfl, rfl⟩
              clear hlen2
              by_cases hia : i < a.length
              · have g3 : decide ((i : Int) < ((isP a).length : Int)) = true := decide_eq_true (by rw [isP_len]; omega)
                have hw : IntKind.i64.wrap ((i : Int) + 1) = ((i + 1 : Nat) : Int) := by rw [wrap64 (by omega) (by omega)]; omega
                have hat := isP_at hia
                refine go_ ?_
                refine c_loop (fun f q m h => ∃ k : Nat, k ≤ b.length ∧ (∀ k', k' < k → a.getD i 0 ≠ b.getD k' 0) ∧ f = b.length - k ∧ q = [.top, .top, .top, .top, .top, .top, .v (.bool false), .sl .any (isP a), .sl .any (isP b), .v (.int .i64 (i : Int)), .v (.int .i64 (k : Int))] ++ List.replicate 75 .top ∧ m = 1 ∧ h = [])
                  ⟨_, _, _, _, ?_, ?_, ⟨0, Nat.zero_le _, fun k' hk' => by omega, rfl, rfl, rfl, rfl⟩⟩ ?_
                · rfl
                · skip
                  exact sub_
                · rintro f q m h hlen2 ⟨k, hk, hnk, rfl, rfl, rfl, rfl⟩
                  clear hlen2
                  by_cases hkb : k < b.length
                  · have g4 : decide ((k : Int) < ((isP b).length : Int)) = true := decide_eq_true (by rw [isP_len]; omega)
                    have hw2 : IntKind.i64.wrap ((k : Int) + 1) = ((k + 1 : Nat) : Int) := by rw [wrap64 (by omega) (by omega)]; omega
                    have hatb := isP_at hkb
                    refine go_ ?_
                    with_reducible apply run_y
                    exact want_
                    · intro K hK
                      refine ev_ ?_
                      refine ⟨i, _, rfl, hat, rfl, ?_⟩
                      refine ev_ ?_
                      exact hK
                    refine go_ ?_
                    with_reducible apply run_y
                    exact want_
                    · intro K hK
                      refine ev_ ?_
                      refine ⟨k, _, rfl, hatb, rfl, ?_⟩
                      refine ev_ ?_
                      exact hK
                    refine go_ ?_
                    cases g5 : (((a.getD i 0 : Nat) : Int) == ((b.getD k 0 : Nat) : Int))
                    · have hne : a.getD i 0 ≠ b.getD k 0 := fun e => by rw [e] at g5; simp at g5
                      refine go_ ?_
                      rw [hw2]
                      refine c_round ⟨_, _, _, _, ?_, ?_, ?_, ⟨k + 1, hkb, fun k' hk' => by
                        by_cases e : k' = k
                        · subst e; exact hne
                        · exact hnk k' (by omega), rfl, rfl, rfl, rfl⟩⟩
                      · omega
                      · rfl
                      · skip
                        exact sub_
                    · skip
                      refine go_ ?_
                      with_reducible apply run_y
                      exact want_
                      · intro K hK
                        refine ev_ ?_
                        refine vcCall_plain (s_awake45) (by kernel_rfl) ?_
                        refine ev_ ?_
                        exact hK
                      refine go_ ?_
                      refine ev_ ?_
                      exact .mk (by rfl) trivial
                  · have hke : k = b.length := by omega
                    subst hke
                    have g4 : decide (((b.length : Nat) : Int) < ((isP b).length : Int)) = false := decide_eq_false (by rw [isP_len]; omega)
                    refine go_ ?_
                    rw [hw]
                    refine c_round ⟨_, _, _, _, ?_, ?_, ?_, ⟨i + 1, hia, fun i' hi' => by
                      by_cases e : i' = i
                      · subst e; exact hnk
                      · exact hn i' (by omega), rfl, rfl, rfl, rfl⟩⟩
                    · omega
                    · rfl
                    · skip
                      exact sub_
              · exfalso
                obtain ⟨x, hx1, hx2⟩ := hmeet
                obtain ⟨i', hi', e1⟩ := is_mem hx1
                obtain ⟨k', hk', e2⟩ := is_mem hx2
                exact hn i' (by omega) k' hk' (e1.trans e2.symm)
theorem quorumMeets_walk (q0 : PV) (v0 : Value) (q1 : PV) (v1 : Value) (q2 : PV) (v2 : Value) (w : World) (hP : Places w) (i0 : IsV (.st shAsk) q0) (r0 : Rep (allOf w) q0 v0) (i1 : IsV shD q1) (r1 : Rep (allOf w) q1 v1) (i2 : IsV (.sl (.st shSd)) q2) (r2 : Rep (allOf w) q2 v2) : Calls Tryd.prog 9 #[v0, v1, v2] w fun e w' => e = .returned (.bool true) ∧ Grow w w' := by
  obtain ⟨bs, need, msg, l, hn, rfl⟩ := isV_Ask i0
  obtain ⟨other, rfl⟩ := isV_D i1
  obtain ⟨es, -, he, rfl⟩ := i2
  obtain ⟨more, rfl⟩ := is_sds he
  exact walk_of (s_quorumMeets bs need msg other l more (bounds_i64 hn).2) hP (args3 r0 r1 r2)
end Go.Proofs.YtjokaennipmmaaaDoor
