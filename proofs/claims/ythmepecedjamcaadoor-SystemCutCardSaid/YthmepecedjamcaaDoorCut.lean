import Derived.Test.YthmepecedjamcaaDoorStw
import Derived.Test.YthmepecedjamcaaDoorOn
/- The law SystemCut. -/
namespace Go.Proofs.YthmepecedjamcaaDoor
open Go.RowKit
set_option linter.unnecessarySimpa false
set_option maxRecDepth 100000 in
theorem s_filled0 : Spec (Ctx.mk Tryd.prog globX (0 + 1) Places) 15 [.sl .any (ssP [])] [] (.tup [.agg [.sl .any (ssP [])], .v (.bool true)]) [] := by
  refine spec_of_bodyL CX_mixed CX_gpk Tryd.func15 rfl 30 0 rfl rfl rfl rfl ?_
  refine go_ ?_
  refine c_loop (fun f q m h => f = 0 ∧ q = [.sl .any (ssP []), .top, .ptr 1 0, .v (.bool false), .ptr 2 0, .v (.int .i64 0)] ++ List.replicate (30 - 6) .top ∧ m = 3 ∧ h = [(1, .cells [.sl .full []]), (2, .cells [.sl .full []])])
    ⟨_, _, _, _, ?_, ?_, ⟨rfl, rfl, rfl, rfl⟩⟩ ?_
  · rfl
  · skip
    exact sub_
  · rintro f q m h hlen ⟨rfl, rfl, rfl, rfl⟩
    refine go_ ?_
    refine ev_ ?_
    exact .mk (by rfl) trivial
theorem fillE_nodup : ∀ (l s : List ByteArray), (digsE s).Nodup → (digsE (fillE s l).1).Nodup
  | [], s, h => h
  | a :: l, s, h => by
    rw [fillE_cons]
    split
    · rename_i h0
      refine fillE_nodup l _ ?_
      unfold addE at h0 ⊢
      rcases findE_cases s (digE a) with hno | ⟨j, hj, hyes⟩
      · rw [hno, if_neg (by omega : ¬ (0 : Int) ≤ -1)] at h0 ⊢
        split
        · exact List.nodup_nil
        · show (digsE (s ++ [a])).Nodup
          unfold digsE at h ⊢
          rw [List.map_append, List.nodup_append]
          refine ⟨h, by simp, fun x hx y hy e => ?_⟩
          obtain ⟨z, hz, rfl⟩ := List.mem_map.1 hx
          simp only [List.map_cons, List.map_nil, List.mem_singleton] at hy
          subst hy
          exact findE_neg.1 (by rw [hno]; omega : findE s (digE a) < 0) z hz e
      · rw [hyes, if_pos (by omega : (0 : Int) ≤ (j : Int))]
        split
        · exact h
        · exact List.nodup_nil
    · exact h
theorem toL_take (l : List ByteArray) (j : Nat) : toL (l.take j) = (toL l).take j := List.map_take
set_option maxRecDepth 100000 in
set_option maxHeartbeats 8000000 in
theorem s_systemCut (l : List ByteArray) (c : Nat) (hc : c < 65536) : Spec (Ctx.mk Tryd.prog globX (0 + 1) Places) 3 [.sl .any (ssP l), .v (.int .u16 (c : Int))] [] (.v (.bool true)) [] := by
  refine spec_of_bodyL CX_mixed CX_gpk Tryd.func3 rfl 126 0 rfl rfl rfl rfl ?_
  refine go_ ?_
  with_reducible apply run_y
  exact want_
  · intro K hK
    refine ev_ ?_
    refine vcCall_plain (s_texts l) (by kernel_rfl) ?_
    refine ev_ ?_
    exact hK
  refine go_ ?_
  cases ht : decide (l.length ≤ 12 ∧ ∀ s ∈ l, s.size ≤ 300)
  case false =>
    refine go_ ?_
    refine ev_ ?_
    exact .mk (by rfl) trivial
  case true =>
    obtain ⟨h1, h2⟩ := of_decide_eq_true ht
    have sf : Spec (Ctx.mk Tryd.prog globX (0 + 1) Places) 15 [.sl .any (ssP l)] [] (.tup [.agg [.sl .any (ssP (fillE [] l).1)], .v (.bool (fillE [] l).2)]) [] := by
      rcases Nat.eq_zero_or_pos l.length with h0 | h0
      · have : l = [] := List.eq_nil_of_length_eq_zero h0
        subst this; exact s_filled0
      · exact s_filled l h0 h1 h2
    have f1 := fillE_short (l := l) (s := []) (n := 300) (fun x h => (by cases h)) h2
    have f2 := fillE_long l []
    have hnd := fillE_nodup l [] List.nodup_nil
    generalize fillE [] l = y at *
    obtain ⟨x, ok0⟩ := y
    simp only [List.length_nil, Nat.zero_add] at f1 f2 hnd sf
    have hsm : small x := fun s hs => Nat.le_trans (f1 s hs) (by omega)
    refine go_ ?_
    with_reducible apply run_y
    exact want_
    · intro K hK
      refine ev_ ?_
      refine vcCall_plain (sf) (by kernel_rfl) ?_
      refine ev_ ?_
      exact hK
    refine go_ ?_
    cases ok0
    case false =>
      refine go_ ?_
      refine ev_ ?_
      exact .mk (by rfl) trivial
    case true =>
      have h3 := toL_few f1
      have ok := okL_of (l := toL x) (by omega)
      have hl2 := toL_len x
      have p1 := s_save x (by omega) (by omega)
      have hsz := bs_size (putB (toL x))
      have hw1 : IntKind.i64.wrap ((((bs (putB (toL x))).size : Nat) : Int) + 1) = (((putB (toL x)).length + 1 : Nat) : Int) := by rw [hsz, wrap64 (by omega) (by omega)]; omega
      have hb0 : (((putB (toL x)).length + 1 : Nat) : Int) ≠ 0 := by omega
      have hw2 : IntKind.i64.wrap ((c : Nat) : Int) = ((c : Nat) : Int) := wrap64 (by omega) (by omega)
      have hm : Int.tmod ((c : Nat) : Int) (((putB (toL x)).length + 1 : Nat) : Int) = ((c % ((putB (toL x)).length + 1) : Nat) : Int) := rfl
      have hk : c % ((putB (toL x)).length + 1) ≤ (putB (toL x)).length := Nat.le_of_lt_succ (Nat.mod_lt _ (by omega))
      refine go_ ?_
      with_reducible apply run_y
      exact want_
      · intro K hK
        refine ev_ ?_
        refine vcCall_plain (p1) (by kernel_rfl) ?_
        refine ev_ ?_
        exact hK
      refine go_ ?_
      rw [hw1, hw2]
      refine go_ ?_
      rw [hm]
      generalize c % ((putB (toL x)).length + 1) = k at *
      have hcut := read_cut (toL x) k 1000 ok (by omega) hk
      have hj := wholeE_le (toL x) k
      have o2 := s_open ((putB (toL x)).take k) (by rw [List.length_take]; omega)
      have hn := open_len ((putB (toL x)).take k)
      have hn2 := (put_read 1000 ((putB (toL x)).take k)).2.2.1
      have hall : k = (putB (toL x)).length → (wholeE (toL x) k).1 = x.length := fun e => by
        have h5 := read_whole ok (by omega)
        rw [e, List.take_length] at hcut
        rw [h5] at hcut
        have h6 := congrArg (fun z => z.1.length) hcut
        simp only [List.length_take] at h6
        rw [← e] at h6
        omega
      rw [hcut] at o2 hn hn2
      generalize wholeE (toL x) k = z at *
      obtain ⟨j, n⟩ := z
      have htk : bsL ((toL x).take j) = x.take j := by rw [← toL_take, toL_bs]
      simp only [htk] at o2 hn hj hn2 hall
      have hnd2 : (digsE (x.take j)).Nodup := by
        unfold digsE at hnd ⊢
        exact hnd.sublist ((List.take_sublist j x).map _)
      rw [openE_nodup (x.take j) [] hnd2, List.nil_append, List.length_take, Nat.min_eq_left hk] at o2
      rw [List.length_take, Nat.min_eq_left hk] at hn
      have x2 : (bs (putB (toL x))).extract 0 k = bs ((putB (toL x)).take k) := by rw [bs_extract]; simp
      have hjl : j ≤ x.length := by omega
      have hlt : (x.take j).length = j := by rw [List.length_take]; omega
      have hsm2 : small (x.take j) := fun s h => hsm s (List.mem_of_mem_take h)
      have pt := s_put (toL (x.take j)) (by rw [toL_len, hlt]; omega) (by rw [toL_take]; omega)
      rw [toL_bs] at pt
      have hsz2 : (bs (putB (toL (x.take j)))).size = n := by rw [bs_size, toL_take]; omega
      have g5 : decide (((ssP (x.take j)).length : Int) > ((ssP x).length : Int)) = false := decide_eq_false (by rw [ssP_len, ssP_len, hlt]; omega)
      have g6 : decide (((k - n : Nat) : Int) < 0) = false := decide_eq_false (by omega)
      have g7 : decide (((k - n : Nat) : Int) > ((k : Nat) : Int)) = false := decide_eq_false (by omega)
      have q2 := s_ssame (x.take j) (x.take j) (by omega)
      rw [decide_eq_true rfl] at q2
      have hts : ((ssP x).drop 0).take ((ssP (x.take j)).length - 0) = ssP (x.take j) := by rw [ssP_len, hlt]; exact ssP_take x j
      have hw3 : IntKind.i64.wrap (((k : Nat) : Int) - ((k - n : Nat) : Int)) = ((n : Nat) : Int) := by rw [wrap64 (by omega) (by omega)]; omega
      have hd1 := s_shead x (by omega) hsm
      have hd2 := s_shead (x.take j) (by omega) hsm2
      have lo1 := s_lost (x.take j) (x.length : Int) (rootE noneE (digsE x)) (by omega) (by omega) (by omega) hsm2
      have lo2 := s_lost x ((x.take j).length : Int) (rootE noneE (digsE (x.take j))) (by omega) (by omega) (by omega) hsm
      rw [lost_self (l := x.take j) (l' := x) (by rw [hlt]) (by omega)] at lo2
      refine go_ ?_
      with_reducible apply run_y
      exact want_
      · intro K hK
        refine ev_ ?_
        refine ⟨0, k, bs ((putB (toL x)).take k), rfl, rfl, Nat.zero_le _, by rw [hsz]; omega, Tryd.underlying9, x2, ?_⟩
        refine ev_ ?_
        exact hK
      refine go_ ?_
      with_reducible apply run_y
      exact want_
      · intro K hK
        refine ev_ ?_
        refine vcCall_plain (o2) (by kernel_rfl) ?_
        refine ev_ ?_
        exact hK
      refine go_ ?_
      rw [g5, g6]
      refine go_ ?_
      rw [g7]
      refine go_ ?_
      with_reducible apply run_y
      exact want_
      · intro K hK
        refine ev_ ?_
        refine ⟨0, (ssP (x.take j)).length, ssP (x.take j), rfl, rfl, Nat.zero_le _, by rw [ssP_len, ssP_len, hlt]; omega, ⟨_, _, rfl, rfl, .inl rfl⟩, hts, ?_⟩
        refine ev_ ?_
        exact hK
      refine go_ ?_
      with_reducible apply run_y
      exact want_
      · intro K hK
        refine ev_ ?_
        refine vcCall_plain (q2) (by kernel_rfl) ?_
        refine ev_ ?_
        exact hK
      refine go_ ?_
      with_reducible apply run_y
      exact want_
      · intro K hK
        refine ev_ ?_
        refine vcCall_plain (pt) (by kernel_rfl) ?_
        refine ev_ ?_
        exact hK
      refine go_ ?_
      have c1 : (((((bs (putB (toL (x.take j)))).size : Nat) : Int)) == ((n : Nat) : Int)) = true := by rw [hsz2]; simp
      by_cases hjx : j < x.length
      · have gc : decide (((ssP (x.take j)).length : Int) < ((ssP x).length : Int)) = true := decide_eq_true (by rw [ssP_len, ssP_len, hlt]; omega)
        have gk : decide (((k : Nat) : Int) < (((bs (putB (toL x))).size : Nat) : Int)) = true := decide_eq_true (by
          rw [hsz]
          rcases Nat.lt_or_ge k (putB (toL x)).length with h8 | h8
          · omega
          · have := hall (by omega)
            omega)
        rw [lost_few (l := x) (l' := x.take j) (by rw [hlt]; exact hjx)] at lo1
        rw [gc]
        refine go_ ?_
        rw [hw3, c1]
        refine go_ ?_
        with_reducible apply run_y
        exact want_
        · intro K hK
          refine ev_ ?_
          refine vcCall_plain (hd1) (by kernel_rfl) ?_
          refine ev_ ?_
          exact hK
        refine go_ ?_
        with_reducible apply run_y
        exact want_
        · intro K hK
          refine ev_ ?_
          refine vcCall_plain (lo1) (by kernel_rfl) ?_
          refine ev_ ?_
          exact hK
        refine go_ ?_
        with_reducible apply run_y
        exact want_
        · intro K hK
          refine ev_ ?_
          refine vcCall_plain (hd2) (by kernel_rfl) ?_
          refine ev_ ?_
          exact hK
        refine go_ ?_
        with_reducible apply run_y
        exact want_
        · intro K hK
          refine ev_ ?_
          refine vcCall_plain (lo2) (by kernel_rfl) ?_
          refine ev_ ?_
          exact hK
        refine go_ ?_
        rw [gk]
        refine go_ ?_
        refine ev_ ?_
        exact .mk (vb_eq (by first | rfl | simp)) trivial
      · have hje : j = x.length := by omega
        have htx : x.take j = x := by rw [hje, List.take_length]
        have gc : decide (((ssP (x.take j)).length : Int) < ((ssP x).length : Int)) = false := decide_eq_false (by rw [ssP_len, ssP_len, hlt]; omega)
        have gl : ((((ssP (x.take j)).length : Nat) : Int) == (((ssP x).length : Nat) : Int)) = true := by rw [htx]; simp
        rw [lost_self (l := x) (l' := x.take j) (by rw [htx, List.take_length]) (by omega)] at lo1
        rw [gc]
        refine go_ ?_
        rw [hw3, c1]
        refine go_ ?_
        with_reducible apply run_y
        exact want_
        · intro K hK
          refine ev_ ?_
          refine vcCall_plain (hd1) (by kernel_rfl) ?_
          refine ev_ ?_
          exact hK
        refine go_ ?_
        with_reducible apply run_y
        exact want_
        · intro K hK
          refine ev_ ?_
          refine vcCall_plain (lo1) (by kernel_rfl) ?_
          refine ev_ ?_
          exact hK
        refine go_ ?_
        with_reducible apply run_y
        exact want_
        · intro K hK
          refine ev_ ?_
          refine vcCall_plain (hd2) (by kernel_rfl) ?_
          refine ev_ ?_
          exact hK
        refine go_ ?_
        with_reducible apply run_y
        exact want_
        · intro K hK
          refine ev_ ?_
          refine vcCall_plain (lo2) (by kernel_rfl) ?_
          refine ev_ ?_
          exact hK
        refine go_ ?_
        cases gk : decide (((k : Nat) : Int) < (((bs (putB (toL x))).size : Nat) : Int))
        · skip
          refine go_ ?_
          rw [gl]
          refine go_ ?_
          refine ev_ ?_
          exact .mk (vb_eq (by first | rfl | simp)) trivial
        · skip
          refine go_ ?_
          refine ev_ ?_
          exact .mk (vb_eq (by first | rfl | simp)) trivial
theorem systemCut_walk (q0 : PV) (v0 : Value) (q1 : PV) (v1 : Value) (w : World) (hP : Places w) (i0 : IsV (.sl .str) q0) (r0 : Rep (allOf w) q0 v0) (i1 : IsV (.int .u16) q1) (r1 : Rep (allOf w) q1 v1) : Calls Tryd.prog 3 #[v0, v1] w fun e w' => e = .returned (.bool true) ∧ Grow w w' := by
  obtain ⟨es, hn, he, rfl⟩ := i0
  obtain ⟨l, rfl, hl⟩ := is_ss he
  obtain ⟨x, hx, rfl⟩ := i1
  have bx := bounds_u16 hx
  obtain ⟨x, rfl⟩ := Int.eq_ofNat_of_zero_le bx.1
  exact walk_of (s_systemCut l x (by omega)) hP (args2 r0 r1)
end Go.Proofs.YthmepecedjamcaaDoor
