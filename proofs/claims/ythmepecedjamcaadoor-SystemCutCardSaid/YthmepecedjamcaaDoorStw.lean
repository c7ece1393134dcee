import Derived.Test.YthmepecedjamcaaDoorStp
/- Laws of stores: opened and saved. -/
namespace Go.Proofs.YthmepecedjamcaaDoor
open Go.RowKit
set_option linter.unnecessarySimpa false
theorem open_len (b : List UInt8) : ((readE 1000 b).2) ≤ b.length := by
  obtain ⟨-, -, h3, t, h4, -⟩ := put_read 1000 b
  have := congrArg List.length h4
  rw [List.length_append, ← h3] at this
  omega
theorem open_many (b : List UInt8) : (openE (bsL (readE 1000 b).1) []).length ≤ 1000 := by
  have h1 := (put_read 1000 b).2.1
  have h2 := openE_len (bsL (readE 1000 b).1) []
  rw [bsL_len] at h2
  simp only [List.length_nil, Nat.zero_add] at h2
  omega
set_option maxRecDepth 100000 in
set_option maxHeartbeats 4000000 in
theorem s_storeOpens (b : List UInt8) (l : List ByteArray) (hz : ∀ s ∈ l, s.size ≤ maxLen) : Spec (Ctx.mk Tryd.prog globX (0 + 1) Places) 13 [.v (.string (bs b)), .agg [.sl .any (ssP l)]] [] (.v (.bool true)) [] := by
  refine spec_of_bodyL CX_mixed CX_gpk Tryd.func13 rfl 63 0 rfl rfl rfl rfl ?_
  refine go_ ?_
  cases g0 : decide ((((bs b).size : Nat) : Int) > 600)
  case true =>
    refine go_ ?_
    with_reducible apply run_y
    exact want_
    · intro K hK
      refine ev_ ?_
      refine vcCall_plain (s_awake42) (by kernel_rfl) ?_
      refine ev_ ?_
      exact hK
    refine go_ ?_
    refine ev_ ?_
    exact .mk (vb_eq (by simp)) trivial
  case false =>
    have hb : b.length ≤ 600 := by have := of_decide_eq_false g0; rw [bs_size] at this; omega
    refine go_ ?_
    with_reducible apply run_y
    exact want_
    · intro K hK
      refine ev_ ?_
      refine vcCall_plain (s_small42 l hz) (by kernel_rfl) ?_
      refine ev_ ?_
      exact hK
    refine go_ ?_
    cases hs : (fewE l 20 60 && rightE l)
    case false =>
      refine go_ ?_
      with_reducible apply run_y
      exact want_
      · intro K hK
        refine ev_ ?_
        refine vcCall_plain (s_awake42) (by kernel_rfl) ?_
        refine ev_ ?_
        exact hK
      refine go_ ?_
      refine ev_ ?_
      exact .mk (vb_eq (by simp)) trivial
    case true =>
      obtain ⟨h1, h2⟩ := fewE_spec (Bool.and_eq_true_iff.1 hs).1
      have h3 := toL_few h2
      have p1 := s_save l (by omega) (by omega)
      have p2 := s_rsave l (by omega) (by omega)
      have o1 := s_open b (by omega)
      have o2 := s_ropen b (by omega)
      have h4 := open_many b
      generalize openE (bsL (readE 1000 b).1) [] = x at *
      generalize (b.length - (readE 1000 b).2) = n at *
      generalize putB (toL l) = p at *
      have q1 := s_same42 x x (by omega)
      rw [decide_eq_true rfl] at q1
      refine go_ ?_
      with_reducible apply run_y
      exact want_
      · intro K hK
        refine ev_ ?_
        refine vcCall_plain (o1) (by kernel_rfl) ?_
        refine ev_ ?_
        exact hK
      refine go_ ?_
      with_reducible apply run_y
      exact want_
      · intro K hK
        refine ev_ ?_
        refine vcCall_plain (o2) (by kernel_rfl) ?_
        refine ev_ ?_
        exact hK
      refine go_ ?_
      with_reducible apply run_y
      exact want_
      · intro K hK
        refine ev_ ?_
        refine vcCall_plain (p1) (by kernel_rfl) ?_
        refine ev_ ?_
        exact hK
      refine go_ ?_
      with_reducible apply run_y
      exact want_
      · intro K hK
        refine ev_ ?_
        refine vcCall_plain (p2) (by kernel_rfl) ?_
        refine ev_ ?_
        exact hK
      refine go_ ?_
      with_reducible apply run_y
      exact want_
      · intro K hK
        refine ev_ ?_
        refine vcCall_plain (s_awake42) (by kernel_rfl) ?_
        refine ev_ ?_
        exact hK
      refine go_ ?_
      with_reducible apply run_y
      exact want_
      · intro K hK
        refine ev_ ?_
        refine vcCall_plain (q1) (by kernel_rfl) ?_
        refine ev_ ?_
        exact hK
      refine go_ ?_
      refine ev_ ?_
      exact .mk (vb_eq (by simp)) trivial
set_option maxRecDepth 100000 in
set_option maxHeartbeats 4000000 in
theorem s_storeSaves (l : List ByteArray) (hz : ∀ s ∈ l, s.size ≤ maxLen) (c : Nat) (hc : c < 65536) : Spec (Ctx.mk Tryd.prog globX (0 + 1) Places) 12 [.agg [.sl .any (ssP l)], .v (.int .u16 (c : Int))] [] (.v (.bool true)) [] := by
  refine spec_of_bodyL CX_mixed CX_gpk Tryd.func12 rfl 79 0 rfl rfl rfl rfl ?_
  refine go_ ?_
  with_reducible apply run_y
  exact want_
  · intro K hK
    refine ev_ ?_
    refine vcCall_plain (s_small42 l hz) (by kernel_rfl) ?_
    refine ev_ ?_
    exact hK
  refine go_ ?_
  cases hs : (fewE l 20 60 && rightE l)
  case false =>
    refine go_ ?_
    with_reducible apply run_y
    exact want_
    · intro K hK
      refine ev_ ?_
      refine vcCall_plain (s_awake42) (by kernel_rfl) ?_
      refine ev_ ?_
      exact hK
    refine go_ ?_
    refine ev_ ?_
    exact .mk (vb_eq (by simp)) trivial
  case true =>
    obtain ⟨hf, hr⟩ := Bool.and_eq_true_iff.1 hs
    obtain ⟨h1, h2⟩ := fewE_spec hf
    have hnd : (digsE l).Nodup := by
      unfold rightE at hr
      exact of_decide_eq_true (Bool.and_eq_true_iff.1 hr).2
    have h3 := toL_few h2
    have ok := okL_of (l := toL l) (by omega)
    have hl2 := toL_len l
    have p1 := s_save l (by omega) (by omega)
    have o1 := s_open (putB (toL l)) (by omega)
    rw [read_whole ok (by omega)] at o1
    simp only [toL_bs, Nat.sub_self] at o1
    rw [openE_nodup l [] hnd, List.nil_append] at o1
    have q1 := s_same42 l l (by omega)
    rw [decide_eq_true rfl] at q1
    have hsz := bs_size (putB (toL l))
    have hw1 : IntKind.i64.wrap ((((bs (putB (toL l))).size : Nat) : Int) + 1) = (((putB (toL l)).length + 1 : Nat) : Int) := by rw [hsz, wrap64 (by omega) (by omega)]; omega
    refine go_ ?_
    with_reducible apply run_y
    exact want_
    · intro K hK
      refine ev_ ?_
      refine vcCall_plain (p1) (by kernel_rfl) ?_
      refine ev_ ?_
      exact hK
    refine go_ ?_
    with_reducible apply run_y
    exact want_
    · intro K hK
      refine ev_ ?_
      refine vcCall_plain (o1) (by kernel_rfl) ?_
      refine ev_ ?_
      exact hK
    refine go_ ?_
    with_reducible apply run_y
    exact want_
    · intro K hK
      refine ev_ ?_
      refine vcCall_plain (q1) (by kernel_rfl) ?_
      refine ev_ ?_
      exact hK
    refine go_ ?_
    rw [hw1]
    have hb0 : (((putB (toL l)).length + 1 : Nat) : Int) ≠ 0 := by omega
    have hw2 : IntKind.i64.wrap ((c : Nat) : Int) = ((c : Nat) : Int) := wrap64 (by omega) (by omega)
    have hm : Int.tmod ((c : Nat) : Int) (((putB (toL l)).length + 1 : Nat) : Int) = ((c % ((putB (toL l)).length + 1) : Nat) : Int) := rfl
    have hk : c % ((putB (toL l)).length + 1) ≤ (putB (toL l)).length := Nat.le_of_lt_succ (Nat.mod_lt _ (by omega))
    rw [hw2]
    refine go_ ?_
    rw [hm]
    generalize c % ((putB (toL l)).length + 1) = k at *
    have hcut := read_cut (toL l) k 1000 ok (by omega) hk
    have hj := wholeE_le (toL l) k
    have o2 := s_open ((putB (toL l)).take k) (by rw [List.length_take]; omega)
    have hn := open_len ((putB (toL l)).take k)
    rw [hcut] at o2 hn
    generalize wholeE (toL l) k = z at *
    obtain ⟨j, n⟩ := z
    have htk : bsL ((toL l).take j) = l.take j := by
      have : bsL ((toL l).take j) = (bsL (toL l)).take j := List.map_take
      rw [this, toL_bs]
    simp only [htk] at o2 hn hj
    have hnd2 : (digsE (l.take j)).Nodup := by
      unfold digsE at hnd ⊢
      exact hnd.sublist ((List.take_sublist j l).map _)
    rw [openE_nodup (l.take j) [] hnd2, List.nil_append, List.length_take, Nat.min_eq_left hk] at o2
    rw [List.length_take, Nat.min_eq_left hk] at hn
    have x2 : (bs (putB (toL l))).extract 0 k = bs ((putB (toL l)).take k) := by rw [bs_extract]; simp
    have hjl : j ≤ l.length := by omega
    have hlt : (l.take j).length = j := by rw [List.length_take]; omega
    have g5 : decide (((ssP (l.take j)).length : Int) > ((ssP l).length : Int)) = false := decide_eq_false (by rw [ssP_len, ssP_len, hlt]; omega)
    have g6 : decide (((k - n : Nat) : Int) < 0) = false := decide_eq_false (by omega)
    have g7 : decide (((k - n : Nat) : Int) > ((k : Nat) : Int)) = false := decide_eq_false (by omega)
    have q2 := s_same42 (l.take j) (l.take j) (by omega)
    rw [decide_eq_true rfl] at q2
    have hts : ((ssP l).drop 0).take ((ssP (l.take j)).length - 0) = ssP (l.take j) := by rw [ssP_len, hlt]; exact ssP_take l j
    refine go_ ?_
    with_reducible apply run_y
    exact want_
    · intro K hK
      refine ev_ ?_
      refine ⟨0, k, bs ((putB (toL l)).take k), rfl, rfl, Nat.zero_le _, by rw [hsz]; omega, Tryd.underlying9, x2, ?_⟩
      refine ev_ ?_
      exact hK
    refine go_ ?_
    with_reducible apply run_y
    exact want_
    · intro K hK
      refine ev_ ?_
      refine vcCall_plain (o2) (by kernel_rfl) ?_
      refine ev_ ?_
      exact hK
    refine go_ ?_
    rw [g5, g6]
    refine go_ ?_
    rw [g7]
    refine go_ ?_
    with_reducible apply run_y
    exact want_
    · intro K hK
      refine ev_ ?_
      refine vcCall_plain (s_awake42) (by kernel_rfl) ?_
      refine ev_ ?_
      exact hK
    refine go_ ?_
    with_reducible apply run_y
    exact want_
    · intro K hK
      refine ev_ ?_
      refine ⟨0, (ssP (l.take j)).length, ssP (l.take j), rfl, rfl, Nat.zero_le _, by rw [ssP_len, ssP_len, hlt]; omega, ⟨_, _, rfl, rfl, .inl rfl⟩, hts, ?_⟩
      refine ev_ ?_
      exact hK
    refine go_ ?_
    with_reducible apply run_y
    exact want_
    · intro K hK
      refine ev_ ?_
      refine vcCall_plain (q2) (by kernel_rfl) ?_
      refine ev_ ?_
      exact hK
    refine go_ ?_
    refine ev_ ?_
    exact .mk (vb_eq (by simp)) trivial
set_option maxRecDepth 100000 in
set_option maxHeartbeats 4000000 in
theorem s_storeTwice (l : List ByteArray) (hz : ∀ s ∈ l, s.size ≤ maxLen) : Spec (Ctx.mk Tryd.prog globX (0 + 1) Places) 11 [.sl .any (ssP l)] [] (.v (.bool true)) [] := by
  refine spec_of_bodyL CX_mixed CX_gpk Tryd.func11 rfl 64 0 rfl rfl rfl rfl ?_
  refine go_ ?_
  with_reducible apply run_y
  exact want_
  · intro K hK
    refine ev_ ?_
    refine vcCall_plain (s_few l 20 60 (by omega) (by omega) hz) (by kernel_rfl) ?_
    refine ev_ ?_
    exact hK
  refine go_ ?_
  cases hs : fewE l 20 60
  case false =>
    refine go_ ?_
    with_reducible apply run_y
    exact want_
    · intro K hK
      refine ev_ ?_
      refine vcCall_plain (s_awake42) (by kernel_rfl) ?_
      refine ev_ ?_
      exact hK
    refine go_ ?_
    refine ev_ ?_
    exact .mk (vb_eq (by simp)) trivial
  case true =>
    obtain ⟨h1, h2⟩ := fewE_spec hs
    have hsm : small l := fun s hs => Nat.le_trans (h2 s hs) (by omega)
    have h3 := toL_few (l := l ++ l) (n := 60) fun s hs => by rcases List.mem_append.1 hs with h | h <;> exact h2 s h
    rw [List.length_append] at h3
    have hl2 : (toL (l ++ l)).length = l.length + l.length := by rw [toL_len, List.length_append]
    have ok := okL_of (l := toL (l ++ l)) (by omega)
    have p1 := s_rput (toL (l ++ l)) (by omega) (by omega)
    rw [toL_bs] at p1
    have o1 := s_open (putB (toL (l ++ l))) (by omega)
    rw [read_whole ok (by omega)] at o1
    simp only [toL_bs, Nat.sub_self] at o1
    rw [openE_twice, openE_grow l [] (by simp; omega)] at o1
    generalize putB (toL (l ++ l)) = p at *
    have hfin := growE_all [] l (fun s h => (by cases h)) hsm
    have q1 := s_ssame (growE [] l) (growE [] l) (by have := hfin.2.2; simp at this; omega)
    rw [decide_eq_true rfl] at q1
    refine go_ ?_
    with_reducible apply run_y
    exact want_
    · intro K hK
      refine ev_ ?_
      refine ⟨ssP l, ssP_app [] l, appOk_ss (l := []) (l' := l) rfl rfl rfl (by simp; omega), ?_⟩
      conv => whnf
      refine Or.inl ?_
      refine ev_ ?_
      exact hK
    refine go_ ?_
    with_reducible apply run_y
    exact want_
    · intro K hK
      refine ev_ ?_
      refine ⟨ssP (l ++ l), ssP_app l l, appOk_ss (l := l) (l' := l) rfl rfl rfl (by omega), ?_⟩
      refine ev_ ?_
      exact hK
    refine go_ ?_
    with_reducible apply run_y
    exact want_
    · intro K hK
      refine ev_ ?_
      refine vcCall_plain (p1) (by kernel_rfl) ?_
      refine ev_ ?_
      exact hK
    refine go_ ?_
    with_reducible apply run_y
    exact want_
    · intro K hK
      refine ev_ ?_
      refine vcCall_plain (o1) (by kernel_rfl) ?_
      refine ev_ ?_
      exact hK
    refine go_ ?_
    refine c_loop (fun f q m h => ∃ j : Nat, j ≤ l.length ∧ f = l.length - j ∧ q = [.sl .any (ssP l), .top, .v (.bool false), .top, .v (.int .i64 0), .ptr 2 0, .v (.int .i64 0), .ptr 3 0, .v (.int .i64 (j : Int))] ++ List.replicate 55 .top ∧ m = 4 ∧
        ((j = 0 ∧ h = [(2, .cells [.sl .any (ssP (growE [] l))]), (3, .cells [.sl .full []])]) ∨ (0 < j ∧ h = [(2, .cells [.sl .any (ssP (growE [] l))]), (3, .cells [.sl .any (ssP (growE [] (l.take j)))])])))
      ⟨_, _, _, _, ?_, ?_, ⟨0, by omega, rfl, rfl, rfl, .inl ⟨rfl, rfl⟩⟩⟩ ?_
    · rfl
    · skip
      exact sub_
    · rintro f q m h hlen ⟨j, hj, rfl, rfl, rfl, hc⟩
      clear hlen
      obtain ⟨g1, g2, g3⟩ := growE_all [] (l.take j) (fun s h => (by cases h)) (fun s h => hsm s (List.mem_of_mem_take h))
      have g4 : (growE [] (l.take j)).length ≤ 20 := by simp only [List.length_take, List.length_nil] at g3; omega
      by_cases hj' : j < l.length
      · have gg : decide ((j : Int) < ((ssP l).length : Int)) = true := decide_eq_true (by rw [ssP_len]; omega)
        have hoj := hsm _ (ss_mem hj')
        have hw1 : IntKind.i64.wrap ((j : Int) + 1) = ((j + 1 : Nat) : Int) := by rw [wrap64 (by omega) (by omega)]; omega
        have hsucc := growE_succ [] l j hj'
        rcases hc with ⟨rfl, rfl⟩ | ⟨hpos, rfl⟩
        · have hadd : addE [] (l.getD 0 ByteArray.empty) = ([l.getD 0 ByteArray.empty], 0, 0) := rfl
          have sa := s_add [] (l.getD 0 ByteArray.empty) (by simp) (fun s h => (by cases h)) hoj
          rw [hadd] at sa
          have e : growE [] (l.take (0 + 1)) = [l.getD 0 ByteArray.empty] := by rw [hsucc]; rfl
          refine go_ ?_
          with_reducible apply run_y
          exact want_
          · intro K hK
            refine ev_ ?_
            refine vcCall_plain (sa) (by kernel_rfl) ?_
            refine ev_ ?_
            exact hK
          refine go_ ?_
          rw [hw1]
          refine c_round ⟨_, _, _, _, ?_, ?_, ?_, ⟨0 + 1, by omega, rfl, rfl, rfl, .inr ⟨by omega, rfl⟩⟩⟩
          · omega
          · rfl
          · rw [e]
            exact sub_
        · have sa := s_add (growE [] (l.take j)) (l.getD j ByteArray.empty) (by omega) g2 hoj
          cases he : ((addE (growE [] (l.take j)) (l.getD j ByteArray.empty)).2.2 == 0)
          case true =>
            have e : growE [] (l.take (j + 1)) = (addE (growE [] (l.take j)) (l.getD j ByteArray.empty)).1 := by
              rw [hsucc]; exact if_pos (by simpa using he)
            refine go_ ?_
            with_reducible apply run_y
            exact want_
            · intro K hK
              refine ev_ ?_
              refine vcCall_plain (sa) (by kernel_rfl) ?_
              refine ev_ ?_
              exact hK
            refine go_ ?_
            rw [hw1]
            refine c_round ⟨_, _, _, _, ?_, ?_, ?_, ⟨j + 1, by omega, rfl, rfl, rfl, .inr ⟨by omega, rfl⟩⟩⟩
            · omega
            · rfl
            · rw [e]
              exact sub_
          case false =>
            have e : growE [] (l.take (j + 1)) = growE [] (l.take j) := by
              rw [hsucc]; exact if_neg (by simpa using he)
            refine go_ ?_
            with_reducible apply run_y
            exact want_
            · intro K hK
              refine ev_ ?_
              refine vcCall_plain (sa) (by kernel_rfl) ?_
              refine ev_ ?_
              exact hK
            refine go_ ?_
            rw [hw1]
            refine c_round ⟨_, _, _, _, ?_, ?_, ?_, ⟨j + 1, by omega, rfl, rfl, rfl, .inr ⟨by omega, rfl⟩⟩⟩
            · omega
            · rfl
            · rw [e]
              exact sub_
      · have hjl : j = l.length := by omega
        subst hjl
        have gg : decide (((l.length : Nat) : Int) < ((ssP l).length : Int)) = false := decide_eq_false (by rw [ssP_len]; omega)
        rw [List.take_length] at hc
        rcases hc with ⟨h0, rfl⟩ | ⟨hpos, rfl⟩
        · have : l = [] := List.eq_nil_of_length_eq_zero h0
          subst this
          refine go_ ?_
          with_reducible apply run_y
          exact want_
          · intro K hK
            refine ev_ ?_
            refine vcCall_plain (s_awake42) (by kernel_rfl) ?_
            refine ev_ ?_
            exact hK
          refine go_ ?_
          with_reducible apply run_y
          exact want_
          · intro K hK
            refine ev_ ?_
            refine vcCall_plain (q1) (by kernel_rfl) ?_
            refine ev_ ?_
            exact hK
          refine go_ ?_
          refine ev_ ?_
          exact .mk (vb_eq (by simp)) trivial
        · skip
          refine go_ ?_
          with_reducible apply run_y
          exact want_
          · intro K hK
            refine ev_ ?_
            refine vcCall_plain (s_awake42) (by kernel_rfl) ?_
            refine ev_ ?_
            exact hK
          refine go_ ?_
          with_reducible apply run_y
          exact want_
          · intro K hK
            refine ev_ ?_
            refine vcCall_plain (q1) (by kernel_rfl) ?_
            refine ev_ ?_
            exact hK
          refine go_ ?_
          refine ev_ ?_
          exact .mk (vb_eq (by simp)) trivial
/-- A store's shape, and what it holds. -/
def shSt : Sh := .st (.cons (.sl .str) .nil)
theorem open_store {q : PV} (i : IsV shSt q) : ∃ l : List ByteArray, (∀ s ∈ l, s.size ≤ maxLen) ∧ q = .agg [.sl .any (ssP l)] := by
  obtain ⟨ps, ⟨x, y, ⟨es, -, he, rfl⟩, hy, rfl⟩, rfl⟩ := i
  obtain rfl := hy
  obtain ⟨l, rfl, hl⟩ := is_ss he
  exact ⟨l, hl, rfl⟩
theorem storeOpens_walk (q0 : PV) (v0 : Value) (q1 : PV) (v1 : Value) (w : World) (hP : Places w) (i0 : IsV .str q0) (r0 : Rep (allOf w) q0 v0) (i1 : IsV shSt q1) (r1 : Rep (allOf w) q1 v1) : Calls Tryd.prog 13 #[v0, v1] w fun e w' => e = .returned (.bool true) ∧ Grow w w' := by
  obtain ⟨b, rfl⟩ := open_bs i0
  obtain ⟨l, hl, rfl⟩ := open_store i1
  exact walk_of (s_storeOpens b l hl) hP (args2 r0 r1)
theorem storeSaves_walk (q0 : PV) (v0 : Value) (q1 : PV) (v1 : Value) (w : World) (hP : Places w) (i0 : IsV shSt q0) (r0 : Rep (allOf w) q0 v0) (i1 : IsV (.int .u16) q1) (r1 : Rep (allOf w) q1 v1) : Calls Tryd.prog 12 #[v0, v1] w fun e w' => e = .returned (.bool true) ∧ Grow w w' := by
  obtain ⟨l, hl, rfl⟩ := open_store i0
  obtain ⟨n, hn, rfl⟩ := open_int i1
  have hb : 0 ≤ n ∧ n < 65536 := by
    have := bounds_u16 hn
    omega
  obtain ⟨c, rfl⟩ := Int.eq_ofNat_of_zero_le hb.1
  exact walk_of (s_storeSaves l hl c (by omega)) hP (args2 r0 r1)
theorem storeTwice_walk (q0 : PV) (v0 : Value) (w : World) (hP : Places w) (i0 : IsV (.sl .str) q0) (r0 : Rep (allOf w) q0 v0) : Calls Tryd.prog 11 #[v0] w fun e w' => e = .returned (.bool true) ∧ Grow w w' := by
  obtain ⟨es, -, he, rfl⟩ := i0
  obtain ⟨l, rfl, hl⟩ := is_ss he
  exact walk_of (s_storeTwice l hl) hP (args1 r0)
end Go.Proofs.YthmepecedjamcaaDoor
