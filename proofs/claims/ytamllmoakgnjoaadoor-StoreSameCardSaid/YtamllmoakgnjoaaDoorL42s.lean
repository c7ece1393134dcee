import Derived.Test.YtamllmoakgnjoaaDoorClash
import Derived.Test.YtamllmoakgnjoaaDoorP42a
/- The law StoreSame. -/
namespace Go.Proofs.YtamllmoakgnjoaaDoor
open Go.RowKit
set_option linter.unnecessarySimpa false
set_option maxRecDepth 100000 in
set_option maxHeartbeats 2000000 in
theorem s_storeSame (a b : List ByteArray) (za : ∀ s ∈ a, s.size ≤ maxLen) (zb : ∀ s ∈ b, s.size ≤ maxLen) : Spec (Ctx.mk Tryd.prog globX (0 + 1) Places) 10 [.agg [.sl .any (ssP a)], .agg [.sl .any (ssP b)]] [] (.v (.bool true)) [] := by
  refine spec_of_bodyL CX_mixed CX_gpk Tryd.func10 rfl 79 0 rfl rfl rfl rfl ?_
  refine go_ ?_
  with_reducible apply run_y
  exact want_
  · intro K hK
    refine ev_ ?_
    refine vcCall_plain (s_few a 20 60 (by omega) (by omega) za) (by kernel_rfl) ?_
    refine ev_ ?_
    exact hK
  refine go_ ?_
  cases g1 : fewE a 20 60
  case false =>
    refine go_ ?_
    with_reducible apply run_y
    exact want_
    · intro K hK
      refine ev_ ?_
      refine vcCall_plain (s_awake42) (by kernel_rfl) ?_
      refine ev_ ?_
      exact hK
    refine go_ ?_
    refine ev_ ?_
    exact .mk (vb_eq (by simp)) trivial
  case true =>
    refine go_ ?_
    with_reducible apply run_y
    exact want_
    · intro K hK
      refine ev_ ?_
      refine vcCall_plain (s_few b 20 60 (by omega) (by omega) zb) (by kernel_rfl) ?_
      refine ev_ ?_
      exact hK
    refine go_ ?_
    cases g2 : fewE b 20 60
    case false =>
      refine go_ ?_
      with_reducible apply run_y
      exact want_
      · intro K hK
        refine ev_ ?_
        refine vcCall_plain (s_awake42) (by kernel_rfl) ?_
        refine ev_ ?_
        exact hK
      refine go_ ?_
      refine ev_ ?_
      exact .mk (vb_eq (by simp)) trivial
    case true =>
      have ha : a.length ≤ 20 := (fewE_spec g1).1
      have hb : b.length ≤ 20 := (fewE_spec g2).1
      refine go_ ?_
      with_reducible apply run_y
      exact want_
      · intro K hK
        refine ev_ ?_
        refine vcCall_plain (s_ssame a b (by omega)) (by kernel_rfl) ?_
        refine ev_ ?_
        exact hK
      refine go_ ?_
      with_reducible apply run_y
      exact want_
      · intro K hK
        refine ev_ ?_
        refine vcCall_plain (s_same42 a b (by omega)) (by kernel_rfl) ?_
        refine ev_ ?_
        exact hK
      refine go_ ?_
      have e1 : (decide (a = b) != decide (a = b)) = false := by simp
      refine go_ ?_
      have sa := fewE_small g1 (by omega)
      have sb := fewE_small g2 (by omega)
      have sm := s_small42 a za
      rw [g1, Bool.true_and] at sm
      with_reducible apply run_y
      exact want_
      · intro K hK
        refine ev_ ?_
        refine vcCall_plain (sm) (by kernel_rfl) ?_
        refine ev_ ?_
        exact hK
      refine go_ ?_
      cases g3 : rightE a
      case false =>
        refine go_ ?_
        with_reducible apply run_y
        exact want_
        · intro K hK
          refine ev_ ?_
          refine vcCall_plain (s_awake42) (by kernel_rfl) ?_
          refine ev_ ?_
          exact hK
        refine go_ ?_
        refine ev_ ?_
        exact .mk (vb_eq (by simp)) trivial
      case true =>
        have sm2 := s_small42 b zb
        rw [g2, Bool.true_and] at sm2
        refine go_ ?_
        with_reducible apply run_y
        exact want_
        · intro K hK
          refine ev_ ?_
          refine vcCall_plain (sm2) (by kernel_rfl) ?_
          refine ev_ ?_
          exact hK
        refine go_ ?_
        cases g4 : rightE b
        case false =>
          refine go_ ?_
          with_reducible apply run_y
          exact want_
          · intro K hK
            refine ev_ ?_
            refine vcCall_plain (s_awake42) (by kernel_rfl) ?_
            refine ev_ ?_
            exact hK
          refine go_ ?_
          refine ev_ ?_
          exact .mk (vb_eq (by simp)) trivial
        case true =>
          refine go_ ?_
          cases g5 : decide (a = b)
          case true =>
            refine go_ ?_
            with_reducible apply run_y
            exact want_
            · intro K hK
              refine ev_ ?_
              refine vcCall_plain (s_awake42) (by kernel_rfl) ?_
              refine ev_ ?_
              exact hK
            refine go_ ?_
            refine ev_ ?_
            exact .mk (vb_eq (by simp)) trivial
          case false =>
            refine go_ ?_
            with_reducible apply run_y
            exact want_
            · intro K hK
              refine ev_ ?_
              refine vcCall_plain (s_shead a (by omega) sa) (by kernel_rfl) ?_
              refine ev_ ?_
              exact hK
            refine go_ ?_
            with_reducible apply run_y
            exact want_
            · intro K hK
              refine ev_ ?_
              refine vcCall_plain (s_shead b (by omega) sb) (by kernel_rfl) ?_
              refine ev_ ?_
              exact hK
            refine go_ ?_
            cases g6 : (((a.length : Int) == (b.length : Int)) && decide (rootE noneE (digsE a) = rootE noneE (digsE b)))
            case false =>
              refine go_ ?_
              with_reducible apply run_y
              exact want_
              · intro K hK
                refine ev_ ?_
                refine vcCall_plain (s_awake42) (by kernel_rfl) ?_
                refine ev_ ?_
                exact hK
              refine go_ ?_
              refine ev_ ?_
              exact .mk (vb_eq (by simp)) trivial
            case true =>
              simp only [Bool.and_eq_true, beq_iff_eq, decide_eq_true_eq] at g6
              have hl : a.length = b.length := by omega
              have hla : (digsE a).length = a.length := List.length_map _
              have hlb : (digsE b).length = b.length := List.length_map _
              refine go_ ?_
              with_reducible apply run_y
              exact want_
              · intro K hK
                refine ev_ ?_
                refine vcCall_plain (s_rdigests a (by omega) sa) (by kernel_rfl) ?_
                refine ev_ ?_
                exact hK
              refine go_ ?_
              with_reducible apply run_y
              exact want_
              · intro K hK
                refine ev_ ?_
                refine vcCall_plain (s_rdigests b (by omega) sb) (by kernel_rfl) ?_
                refine ev_ ?_
                exact hK
              refine go_ ?_
              refine c_loop (fun k q m h => ∃ j : Nat, j ≤ a.length ∧ k = a.length - j ∧ q = [.top, .top, .top, .top, .top, .top, .sl .any (dsP (digsE a)), .sl .any (dsP (digsE b)), .v (.int .i64 (j : Int))] ++ List.replicate 70 .top ∧ m = 1 ∧ h = [])
                ⟨_, _, _, _, ?_, ?_, ⟨0, by omega, rfl, rfl, rfl, rfl⟩⟩ ?_
              · rfl
              · skip
                exact sub_
              · rintro k q m h hlen ⟨j, hj, rfl, rfl, rfl, rfl⟩
                clear hlen
                refine go_ ?_
                first | refine run_b rfl rfl rfl (fun h => ?_) (fun h => ?_) | refine c_cond rfl (fun h => ?_) (fun h => ?_)
                · have hlt : j < (digsE a).length := by simpa [dsP_len] using h
                  have hlt' : j < (digsE b).length := by omega
                  refine go_ ?_
                  first | refine run_b rfl rfl rfl (fun h2 => ?_) (fun h2 => ?_) | refine c_cond rfl (fun h2 => ?_) (fun h2 => ?_)
                  · have hne : digsE a ≠ digsE b := fun e => by rw [e] at h2; simp at h2
                    obtain ⟨k1, -, -⟩ := clashE_spec noneE (a := digsE a) (b := digsE b) ⟨by omega, hne, g6.2⟩
                    have sr := s_rclash (digsE a).length (digsE a) (digsE b) rfl (by omega) (by omega)
                    generalize clashE noneE (digsE a) (digsE b) = r at sr k1
                    obtain ⟨⟨x0, x1⟩, ⟨y0, y1⟩, ok⟩ := r
                    simp only at k1
                    subst k1
                    refine go_ ?_
                    with_reducible apply run_y
                    exact want_
                    · intro K hK
                      refine ev_ ?_
                      refine vcCall_plain (sr) (by kernel_rfl) ?_
                      refine ev_ ?_
                      exact hK
                    refine go_ ?_
                    with_reducible apply run_y
                    exact want_
                    · intro K hK
                      refine ev_ ?_
                      refine vcCall_plain (s_awake42) (by kernel_rfl) ?_
                      refine ev_ ?_
                      exact hK
                    refine go_ ?_
                    refine ev_ ?_
                    exact .mk (vb_eq (by simp)) trivial
                  · skip
                    refine go_ ?_
                    refine c_round ⟨_, _, _, _, ?_, ?_, ?_, ⟨j + 1, by omega, rfl, rfl, rfl, rfl⟩⟩
                    · omega
                    · rfl
                    · skip
                      exact sub_
                · skip
                  refine go_ ?_
                  with_reducible apply run_y
                  exact want_
                  · intro K hK
                    refine ev_ ?_
                    refine vcCall_plain (s_awake42) (by kernel_rfl) ?_
                    refine ev_ ?_
                    exact hK
                  refine go_ ?_
                  refine ev_ ?_
                  exact .mk (vb_eq (by simp)) trivial
theorem storeSame_walk (A : Option Addr) (n c : Nat) (a : List ByteArray) (B : Option Addr) (m d : Nat) (b : List ByteArray) (w : World) (hP : Places w) (hs : SlS w A n c a) (za : ∀ s ∈ a, s.size ≤ maxLen) (ht : SlS w B m d b) (zb : ∀ s ∈ b, s.size ≤ maxLen) :
    Calls Tryd.prog 10 #[.agg #[.slice A n c], .agg #[.slice B m d]] w fun e w' => e = .returned (.bool true) ∧ Grow w w' :=
  walk_of (s_storeSame a b za zb) hP (args2 (sl_st hs) (sl_st ht))
end Go.Proofs.YtamllmoakgnjoaaDoor
