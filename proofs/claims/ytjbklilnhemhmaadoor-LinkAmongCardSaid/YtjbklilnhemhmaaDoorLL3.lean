import Derived.Test.YtjbklilnhemhmaaDoorLL1
/- The law LinkAmong. -/
namespace Go.Proofs.YtjbklilnhemhmaaDoor
open Go.RowKit
set_option linter.unnecessarySimpa false
def zeroLk : Lk := (D.zero, D.zero)
def lksP (l : List Lk) : List (List PV) := l.map lkP
theorem lksP_len (l : List Lk) : (lksP l).length = l.length := List.length_map _
theorem lksP_at {l : List Lk} {j : Nat} (h : j < l.length) : (lksP l)[j]? = some (lkP (l.getD j zeroLk)) := by simp [lksP, List.getD, h]
def sdsP (l : List Sd) : List (List PV) := l.map sdP
theorem sdsP_len (l : List Sd) : (sdsP l).length = l.length := List.length_map _
theorem sdsP_app (l l' : List Sd) : sdsP l ++ sdsP l' = sdsP (l ++ l') := by simp [sdsP]
theorem sdsP_wide (l : List Sd) (i : Nat) (h : i < (sdsP l).length) : ((sdsP l).getD i []).length = 7 := by
  have hi : i < l.length := by rwa [sdsP_len] at h
  simp only [sdsP, List.getD, List.getElem?_map, List.getElem?_eq_getElem hi, Option.map_some, Option.getD_some]
  rfl
def allE (pub : D) (g : Nat → Sg) (n : Nat) : List Sd := (List.range n).map fun i => (pub, g i)
theorem allE_len (pub : D) (g : Nat → Sg) (n : Nat) : (allE pub g n).length = n := by simp [allE]
theorem allE_succ (pub : D) (g : Nat → Sg) (n : Nat) : allE pub g (n + 1) = allE pub g n ++ [(pub, g n)] := by simp [allE, List.range_succ]
theorem allE_at (pub : D) (g : Nat → Sg) {n j : Nat} (h : j < n) : (sdsP (allE pub g n))[j]? = some (sdP (pub, g j)) := by simp [sdsP, allE, h]
theorem appOk_sds {zs sz by_ : Nat} {l l' : List Sd} (hz : zs = 7) (hs : sz = 7) (hb : by_ ≤ 1000) (h : l.length + l'.length ≤ 1000) : AppOk zs sz by_ (sdsP l) (sdsP l') := by
  subst hz hs
  refine ⟨rfl, by omega, sdsP_wide l, sdsP_wide l', by rw [sdsP_len, sdsP_len]; simp only [maxLen]; omega, ?_⟩
  rw [sdsP_len, sdsP_len]
  exact Nat.le_trans (Nat.mul_le_mul h hb) (by decide)
set_option maxRecDepth 100000 in
set_option maxHeartbeats 8000000 in
theorem s_LLinkAmong (seed : D) (l : List Lk) : Spec (Ctx.mk Tryd.prog globX (0 + 1) Places) 16 [.agg (dP seed), .sl .any (lksP l)] [] (.v (.bool true)) [] := by
  have hh : 0 ≤ (2 : Int) ∧ (2 : Int) ≤ 4 := by decide
  have q0 := s_knew_ok (seed := seed) hh
  have q1 := s_kpublic_ok (seed := seed) hh
  replace q1 : Spec (Ctx.mk Tryd.prog globX (0 + 1) Places) 43 [.agg (dP seed), .v (.int .i64 2)] [] (.tup [.agg (dP (kpubE seed 2)), .v (.int .i64 0)]) [] := q1
  have key : ∃ g : Nat → Sg, (∀ j : Nat, j < 4 → Spec (Ctx.mk Tryd.prog globX (0 + 1) Places) 51 [.agg (srP (seed, 2, (j : Int))), .agg (dP (linkE (l.getD j zeroLk)))] [] (.tup [.agg (srP (seed, 2, ((j + 1 : Nat) : Int))), .agg (sgP (g j)), .v (.int .i64 0)]) []) ∧
      (∀ j, j < 4 → lcheckE (l.getD j zeroLk) (kpubE seed 2, g j) = true) ∧ ∀ j, j < 4 → (g j).2.2.length = 2 :=
    ⟨fun j => ksignE seed 2 j (linkE (l.getD j zeroLk)), fun j hj => s_kuse_ok (seed := seed) (msg := linkE (l.getD j zeroLk)) (i := (j : Int)) hh ⟨by omega, by show (j : Int) < ((2 ^ 2 : Nat) : Int); omega⟩,
      fun j hj => kcheck_sign seed _ (by decide) (by omega), fun j hj => ksign_path seed _ (by omega)⟩
  obtain ⟨g, hu, hc, hp⟩ := key
  generalize kpubE seed 2 = pub at *
  have tw : ∀ i k : Nat, i < 4 → k < 4 → Spec (Ctx.mk Tryd.prog globX (0 + 1) Places) 36 [.agg (lkP (l.getD i zeroLk)), .agg (sdP (pub, g i)), .agg (lkP (l.getD k zeroLk)), .agg (sdP (pub, g k))] [] (.v (.bool (decide ((l.getD i zeroLk).1 = (l.getD k zeroLk).1) && !decide ((l.getD i zeroLk).2 = (l.getD k zeroLk).2)))) [] := fun i k hi hk => by
    have := s_linkTwice (l.getD i zeroLk) (pub, g i) (l.getD k zeroLk) (pub, g k) (by show (g i).2.2.length ≤ _; rw [hp i hi]; decide) (by show (g k).2.2.length ≤ _; rw [hp k hk]; decide)
    unfold ltwiceE at this
    rw [hc i hi, hc k hk] at this
    simp only [decide_true, Bool.true_and, Bool.and_true] at this
    exact this
  clear hc hp
  refine spec_of_bodyL CX_mixed CX_gpk Tryd.func16 rfl 117 0 rfl rfl rfl rfl ?_
  refine go_ ?_
  with_reducible apply run_y
  exact want_
  · intro K hK
    refine ev_ ?_
    refine vcCall_plain (s_awake44) (by kernel_rfl) ?_
    refine ev_ ?_
    exact hK
  refine go_ ?_
  cases e1 : decide (((lksP l).length : Int) > 4)
  case true =>
    refine go_ ?_
    refine ev_ ?_
    exact .mk (vb_eq (by simp)) trivial
  case false =>
    have hl4 : l.length ≤ 4 := by have := of_decide_eq_false e1; rw [lksP_len] at this; omega
    refine go_ ?_
    with_reducible apply run_y
    exact want_
    · intro K hK
      refine ev_ ?_
      refine vcCall_plain (q0) (by kernel_rfl) ?_
      refine ev_ ?_
      exact hK
    refine go_ ?_
    with_reducible apply run_y
    exact want_
    · intro K hK
      refine ev_ ?_
      refine vcCall_plain (q1) (by kernel_rfl) ?_
      refine ev_ ?_
      exact hK
    refine go_ ?_
    refine c_loop (fun k q m h => ∃ j : Nat, j ≤ l.length ∧ k = l.length - j ∧
        ((j = 0 ∧ q = [.top, .sl .any (lksP l), .ptr 1 0, .top, .v (.bool false), .ptr 2 0, .top, .ptr 3 0, .top, .sl .full [], .v (.int .i64 (j : Int))] ++ List.replicate 106 .top ∧ m = 4 ∧ h = [(1, .cells (dP seed)), (2, .cells (srP (seed, 2, (j : Int)))), (3, .cells (dP pub))]) ∨
        (0 < j ∧ q = [.top, .sl .any (lksP l), .ptr 1 0, .top, .v (.bool false), .ptr 2 0, .top, .ptr 3 0, .top, .sl (.own 6) (sdsP (allE pub g j)), .v (.int .i64 (j : Int))] ++ List.replicate 106 .top ∧ m = 7 ∧ h = [(1, .cells (dP seed)), (2, .cells (srP (seed, 2, (j : Int)))), (3, .cells (dP pub)), (6, .row (sdsP (allE pub g j)).length 56)])))
      ⟨_, _, _, _, ?_, ?_, ⟨0, Nat.zero_le _, rfl, .inl ⟨rfl, rfl, rfl, rfl⟩⟩⟩ ?_
    · rfl
    · skip
      exact sub_
    · rintro k q m h hlen ⟨j, hj, rfl, ⟨rfl, rfl, rfl, rfl⟩ | ⟨hj0, rfl, rfl, rfl⟩⟩
      · clear hlen
        with_reducible apply c_seq
        refine c_seq_cut (fun q_ m_ h_ => q_ = [.top, .sl .any (lksP l), .ptr 1 0, .top, .v (.bool false), .ptr 2 0, .top, .ptr 3 0, .top, .sl .full [], .v (.int .i64 ((0 : Nat) : Int))] ++ (List.replicate 29 .top ++ (.v (.bool (decide (((0 : Nat) : Int) < ((lksP l).length : Int)))) :: List.replicate 76 .top)) ∧ m_ = 6 ∧ h_ = [(1, .cells (dP seed)), (2, .cells (srP (seed, 2, ((0 : Nat) : Int)))), (3, .cells (dP pub)), (4, .free), (5, .free)]) ?_ ?_
        · skip
          refine go_ ?_
          refine c_cut ⟨_, _, _, ?_, ?_, rfl, rfl, rfl⟩
          · rfl
          · exact sub_
        rintro q_ m_ h_ hlen ⟨rfl, rfl, rfl⟩
        clear hlen
        cases g1 : decide (((0 : Nat) : Int) < ((lksP l).length : Int))
        case false =>
          have hl0 : decide ((0 : Int) < ((lksP l).length : Int)) = false := g1
          refine go_ ?_
          refine c_loop (fun k q m h => k = 0 ∧ q = [.top, .sl .any (lksP l), .top, .top, .v (.bool false), .top, .top, .top, .top, .top, .top, .top, .top, .top, .v (.int .i64 0)] ++ List.replicate 102 .top ∧ m = 4 ∧ h = [(1, .cells (dP seed)), (2, .cells (srP (seed, 2, ((0 : Nat) : Int)))), (3, .cells (dP pub))])
            ⟨_, _, _, _, ?_, ?_, ⟨rfl, rfl, rfl, rfl⟩⟩ ?_
          · rfl
          · skip
            exact sub_
          · rintro k q m h hlen ⟨rfl, rfl, rfl, rfl⟩
            clear hlen
            refine go_ ?_
            refine ev_ ?_
            exact .mk (vb_eq (by simp)) trivial
        case true =>
          have hj' : 0 < l.length := by have := of_decide_eq_true g1; rw [lksP_len] at this; omega
          refine go_ ?_
          with_reducible apply run_y
          exact want_
          · intro K hK
            refine ev_ ?_
            refine ⟨_, _, rfl, lksP_at hj', rfl, ?_⟩
            refine ev_ ?_
            exact hK
          refine go_ ?_
          with_reducible apply run_y
          exact want_
          · intro K hK
            refine ev_ ?_
            refine vcCall_plain (s_linkOf (l.getD 0 zeroLk)) (by kernel_rfl) ?_
            refine ev_ ?_
            exact hK
          refine go_ ?_
          with_reducible apply run_y
          exact want_
          · intro K hK
            refine ev_ ?_
            refine vcCall_plain (hu 0 (by decide)) (by kernel_rfl) ?_
            refine ev_ ?_
            exact hK
          with_reducible apply run_y
          exact want_
          exact step_
          with_reducible apply run_y
          exact want_
          exact step_
          with_reducible apply run_y
          exact want_
          exact step_
          with_reducible apply run_y
          exact want_
          exact step_
          with_reducible apply run_y
          exact want_
          · intro K hK
            conv => whnf
            refine And.intro (by kernel_rfl) (Or.inr ⟨4, by decide, by kernel_rfl, ?_⟩)
            refine ev_ ?_
            exact hK
          with_reducible apply run_y
          exact want_
          · intro K hK
            conv => whnf
            refine And.intro (by kernel_rfl) (Or.inr ⟨5, by decide, by kernel_rfl, ?_⟩)
            refine ev_ ?_
            exact hK
          refine go_ ?_
          with_reducible apply run_y
          exact want_
          · intro K hK
            refine ev_ ?_
            refine ⟨sdsP ([] ++ [(pub, g 0)]), sdsP_app [] [(pub, g 0)], appOk_sds (l := []) (l' := [(pub, g 0)]) rfl rfl (by decide) (by simp), ?_⟩
            conv => whnf
            refine Or.inl ?_
            refine ev_ ?_
            exact hK
          refine go_ ?_
          refine c_round ⟨_, _, _, _, ?_, ?_, ?_, ⟨1, hj', rfl, .inr ⟨by omega, rfl, rfl, rfl⟩⟩⟩
          · omega
          · rfl
          · skip
            exact sub_
      · clear hlen
        with_reducible apply c_seq
        refine c_seq_cut (fun q_ m_ h_ => q_ = [.top, .sl .any (lksP l), .ptr 1 0, .top, .v (.bool false), .ptr 2 0, .top, .ptr 3 0, .top, .sl (.own 6) (sdsP (allE pub g j)), .v (.int .i64 (j : Int))] ++ (List.replicate 29 .top ++ (.v (.bool (decide ((j : Int) < ((lksP l).length : Int)))) :: List.replicate 76 .top)) ∧ m_ = 9 ∧ h_ = [(1, .cells (dP seed)), (2, .cells (srP (seed, 2, (j : Int)))), (3, .cells (dP pub)), (6, .row (sdsP (allE pub g j)).length 56), (7, .free), (8, .free)]) ?_ ?_
        · skip
          refine go_ ?_
          refine c_cut ⟨_, _, _, ?_, ?_, rfl, rfl, rfl⟩
          · rfl
          · exact sub_
        rintro q_ m_ h_ hlen ⟨rfl, rfl, rfl⟩
        clear hlen
        cases g1 : decide ((j : Int) < ((lksP l).length : Int))
        case true =>
          have hj' : j < l.length := by have := of_decide_eq_true g1; rw [lksP_len] at this; omega
          have hw1 : IntKind.i64.wrap ((j : Int) + 1) = ((j + 1 : Nat) : Int) := by rw [wrap64 (by omega) (by omega)]; omega
          have hal := allE_len pub g j
          refine go_ ?_
          with_reducible apply run_y
          exact want_
          · intro K hK
            refine ev_ ?_
            refine ⟨_, _, rfl, lksP_at hj', rfl, ?_⟩
            refine ev_ ?_
            exact hK
          refine go_ ?_
          with_reducible apply run_y
          exact want_
          · intro K hK
            refine ev_ ?_
            refine vcCall_plain (s_linkOf (l.getD j zeroLk)) (by kernel_rfl) ?_
            refine ev_ ?_
            exact hK
          refine go_ ?_
          with_reducible apply run_y
          exact want_
          · intro K hK
            refine ev_ ?_
            refine vcCall_plain (hu j (by omega)) (by kernel_rfl) ?_
            refine ev_ ?_
            exact hK
          with_reducible apply run_y
          exact want_
          exact step_
          with_reducible apply run_y
          exact want_
          exact step_
          with_reducible apply run_y
          exact want_
          exact step_
          with_reducible apply run_y
          exact want_
          exact step_
          with_reducible apply run_y
          exact want_
          · intro K hK
            conv => whnf
            refine And.intro (by kernel_rfl) (Or.inr ⟨7, by decide, by kernel_rfl, ?_⟩)
            refine ev_ ?_
            exact hK
          with_reducible apply run_y
          exact want_
          · intro K hK
            conv => whnf
            refine And.intro (by kernel_rfl) (Or.inr ⟨8, by decide, by kernel_rfl, ?_⟩)
            refine ev_ ?_
            exact hK
          refine go_ ?_
          with_reducible apply run_y
          exact want_
          · intro K hK
            refine ev_ ?_
            refine ⟨sdsP (allE pub g j ++ [(pub, g j)]), sdsP_app _ [(pub, g j)], appOk_sds (l := allE pub g j) (l' := [(pub, g j)]) rfl rfl (by decide) (by rw [hal]; simp; omega), ?_⟩
            refine ev_ ?_
            exact hK
          refine go_ ?_
          rw [hw1]
          refine go_ ?_
          refine c_round ⟨_, _, _, _, ?_, ?_, ?_, ⟨j + 1, hj', rfl, .inr ⟨by omega, rfl, rfl, rfl⟩⟩⟩
          · omega
          · rfl
          · rw [allE_succ]
            exact sub_
        case false =>
          have hjl : j = l.length := by have := of_decide_eq_false g1; rw [lksP_len] at this; omega
          subst hjl
          clear g1 hu hj
          refine go_ ?_
          refine c_loop (fun k q m h => ∃ i : Nat, i ≤ l.length ∧ k = l.length - i ∧ q = [.top, .sl .any (lksP l), .top, .top, .v (.bool false), .top, .top, .top, .top, .sl (.own 6) (sdsP (allE pub g l.length)), .top, .top, .top, .top, .v (.int .i64 (i : Int))] ++ List.replicate 102 .top ∧ m = 7 ∧ h = [(1, .cells (dP seed)), (2, .cells (srP (seed, 2, (l.length : Int)))), (3, .cells (dP pub)), (6, .row (sdsP (allE pub g l.length)).length 56)])
            ⟨_, _, _, _, ?_, ?_, ⟨0, Nat.zero_le _, rfl, rfl, rfl, rfl⟩⟩ ?_
          · rfl
          · skip
            exact sub_
          · rintro k q m h hlen ⟨i, hi, rfl, rfl, rfl, rfl⟩
            clear hlen
            refine go_ ?_
            cases g2 : decide ((i : Int) < ((lksP l).length : Int))
            case false =>
              refine go_ ?_
              refine ev_ ?_
              exact .mk (vb_eq (by simp)) trivial
            case true =>
              have hi' : i < l.length := by have := of_decide_eq_true g2; rw [lksP_len] at this; omega
              have hw2 : IntKind.i64.wrap ((i : Int) + 1) = ((i + 1 : Nat) : Int) := by rw [wrap64 (by omega) (by omega)]; omega
              refine go_ ?_
              refine c_loop (fun k q m h => ∃ x : Nat, x ≤ l.length ∧ k = l.length - x ∧ q = [.top, .sl .any (lksP l), .top, .top, .v (.bool false), .top, .top, .top, .top, .sl (.own 6) (sdsP (allE pub g l.length)), .top, .top, .top, .top, .v (.int .i64 (i : Int)), .v (.int .i64 (x : Int))] ++ List.replicate 101 .top ∧ m = 7 ∧ h = [(1, .cells (dP seed)), (2, .cells (srP (seed, 2, (l.length : Int)))), (3, .cells (dP pub)), (6, .row (sdsP (allE pub g l.length)).length 56)])
                ⟨_, _, _, _, ?_, ?_, ⟨0, Nat.zero_le _, rfl, rfl, rfl, rfl⟩⟩ ?_
              · rfl
              · skip
                exact sub_
              · rintro k q m h hlen ⟨x, hx, rfl, rfl, rfl, rfl⟩
                clear hlen
                refine go_ ?_
                cases g3 : decide ((x : Int) < ((lksP l).length : Int))
                case false =>
                  refine go_ ?_
                  rw [hw2]
                  refine go_ ?_
                  refine c_round ⟨_, _, _, _, ?_, ?_, ?_, ⟨i + 1, hi', rfl, rfl, rfl, rfl⟩⟩
                  · omega
                  · rfl
                  · skip
                    exact sub_
                case true =>
                  have hx' : x < l.length := by have := of_decide_eq_true g3; rw [lksP_len] at this; omega
                  have hw3 : IntKind.i64.wrap ((x : Int) + 1) = ((x + 1 : Nat) : Int) := by rw [wrap64 (by omega) (by omega)]; omega
                  have tx := tw i x (by omega) (by omega)
                  refine go_ ?_
                  with_reducible apply run_y
                  exact want_
                  · intro K hK
                    refine ev_ ?_
                    refine ⟨_, _, rfl, lksP_at hi', rfl, ?_⟩
                    refine ev_ ?_
                    exact hK
                  refine go_ ?_
                  with_reducible apply run_y
                  exact want_
                  · intro K hK
                    refine ev_ ?_
                    refine ⟨_, _, rfl, allE_at pub g hi', rfl, ?_⟩
                    refine ev_ ?_
                    exact hK
                  refine go_ ?_
                  with_reducible apply run_y
                  exact want_
                  · intro K hK
                    refine ev_ ?_
                    refine ⟨_, _, rfl, lksP_at hx', rfl, ?_⟩
                    refine ev_ ?_
                    exact hK
                  refine go_ ?_
                  with_reducible apply run_y
                  exact want_
                  · intro K hK
                    refine ev_ ?_
                    refine ⟨_, _, rfl, allE_at pub g hx', rfl, ?_⟩
                    refine ev_ ?_
                    exact hK
                  refine go_ ?_
                  cases e3 : decide ((l.getD i zeroLk).1 = (l.getD x zeroLk).1)
                  · rw [e3, Bool.false_and] at tx
                    with_reducible apply run_y
                    exact want_
                    · intro K hK
                      refine ev_ ?_
                      refine vcCall_plain (tx) (by kernel_rfl) ?_
                      refine ev_ ?_
                      exact hK
                    refine go_ ?_
                    with_reducible apply run_y
                    exact want_
                    · intro K hK
                      refine ev_ ?_
                      refine ⟨_, _, rfl, lksP_at hi', rfl, ?_⟩
                      refine ev_ ?_
                      exact hK
                    refine go_ ?_
                    with_reducible apply run_y
                    exact want_
                    · intro K hK
                      refine ev_ ?_
                      refine ⟨_, _, rfl, lksP_at hx', rfl, ?_⟩
                      refine ev_ ?_
                      exact hK
                    refine go_ ?_
                    rw [e3]
                    refine go_ ?_
                    rw [hw3]
                    refine go_ ?_
                    refine c_round ⟨_, _, _, _, ?_, ?_, ?_, ⟨x + 1, hx', rfl, rfl, rfl, rfl⟩⟩
                    · omega
                    · rfl
                    · skip
                      exact sub_
                  · rw [e3, Bool.true_and] at tx
                    with_reducible apply run_y
                    exact want_
                    · intro K hK
                      refine ev_ ?_
                      refine vcCall_plain (tx) (by kernel_rfl) ?_
                      refine ev_ ?_
                      exact hK
                    refine go_ ?_
                    with_reducible apply run_y
                    exact want_
                    · intro K hK
                      refine ev_ ?_
                      refine ⟨_, _, rfl, lksP_at hi', rfl, ?_⟩
                      refine ev_ ?_
                      exact hK
                    refine go_ ?_
                    with_reducible apply run_y
                    exact want_
                    · intro K hK
                      refine ev_ ?_
                      refine ⟨_, _, rfl, lksP_at hx', rfl, ?_⟩
                      refine ev_ ?_
                      exact hK
                    refine go_ ?_
                    with_reducible apply run_y
                    exact want_
                    · intro K hK
                      refine ev_ ?_
                      refine ⟨_, _, rfl, lksP_at hi', rfl, ?_⟩
                      refine ev_ ?_
                      exact hK
                    refine go_ ?_
                    with_reducible apply run_y
                    exact want_
                    · intro K hK
                      refine ev_ ?_
                      refine ⟨_, _, rfl, lksP_at hx', rfl, ?_⟩
                      refine ev_ ?_
                      exact hK
                    refine go_ ?_
                    rw [e3]
                    refine go_ ?_
                    rw [hw3]
                    refine go_ ?_
                    refine c_round ⟨_, _, _, _, ?_, ?_, ?_, ⟨x + 1, hx', rfl, rfl, rfl, rfl⟩⟩
                    · omega
                    · rfl
                    · skip
                      exact sub_
theorem isV_lks {p : PV} (h : IsV (.sl (.st shLk)) p) : ∃ l : List Lk, p = .sl .any (lksP l) := by
  obtain ⟨es, hn, he, rfl⟩ := h
  obtain ⟨l, rfl⟩ := all_of (s := .st shLk) (fun e h => is_Lk h) he
  exact ⟨l, rfl⟩
theorem linkAmong_walk (q0 : PV) (v0 : Value) (q1 : PV) (v1 : Value) (w : World) (hP : Places w) (i0 : IsV shD q0) (r0 : Rep (allOf w) q0 v0) (i1 : IsV (.sl (.st shLk)) q1) (r1 : Rep (allOf w) q1 v1) : Calls Tryd.prog 16 #[v0, v1] w fun e w' => e = .returned (.bool true) ∧ Grow w w' := by
  obtain ⟨seed, rfl⟩ := isV_D i0
  obtain ⟨l, rfl⟩ := isV_lks i1
  exact walk_of (s_LLinkAmong seed l) hP (args2 r0 r1)
end Go.Proofs.YtjbklilnhemhmaaDoor
