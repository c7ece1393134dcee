import Derived.Test.YthmepecedjamcaaDoorJouG
import Derived.Test.YthmepecedjamcaaDoorMapD
/- store.Open, Save, and the document's. -/
namespace Go.Proofs.YthmepecedjamcaaDoor
open Go.RowKit
set_option linter.unnecessarySimpa false
/-- What is kept of records: each text once. -/
def openE : List ByteArray → List ByteArray → List ByteArray
  | [], acc => acc
  | r :: rs, acc => openE rs (if findE acc (digE r) < 0 then acc ++ [r] else acc)
theorem ss_dr {l : List ByteArray} {j : Nat} (h : j < l.length) : l.drop j = l.getD j ByteArray.empty :: l.drop (j + 1) := by
  rw [List.drop_eq_getElem_cons h]; simp [List.getD, h]
theorem ss_mem {l : List ByteArray} {j : Nat} (h : j < l.length) : l.getD j ByteArray.empty ∈ l := by
  rw [List.getD_eq_getElem?_getD, List.getElem?_eq_getElem h]; exact List.getElem_mem h
structure OpenAt (l : List ByteArray) (j : Nat) (acc : List ByteArray) : Prop where
  le : j ≤ l.length
  few : acc.length ≤ j
  sml : small acc
  all : openE l [] = openE (l.drop j) acc
theorem OpenAt.zero (l : List ByteArray) : OpenAt l 0 [] := ⟨Nat.zero_le _, Nat.zero_le _, fun s h => (by cases h), rfl⟩
theorem OpenAt.add {l : List ByteArray} {j : Nat} {acc : List ByteArray} (h : OpenAt l j acc) (hj : j < l.length) (hs : small l) (hf : findE acc (digE (l.getD j ByteArray.empty)) < 0) : OpenAt l (j + 1) (acc ++ [l.getD j ByteArray.empty]) := by
  refine ⟨hj, by rw [List.length_append, List.length_singleton]; have := h.few; omega, fun s hsm => ?_, ?_⟩
  · rcases List.mem_append.1 hsm with h1 | h1
    · exact h.sml s h1
    · obtain rfl := List.mem_singleton.1 h1; exact hs _ (ss_mem hj)
  · rw [h.all, ss_dr hj]; show openE _ (if _ then _ else _) = _; rw [if_pos hf]
theorem OpenAt.old {l : List ByteArray} {j : Nat} {acc : List ByteArray} (h : OpenAt l j acc) (hj : j < l.length) (hf : ¬ findE acc (digE (l.getD j ByteArray.empty)) < 0) : OpenAt l (j + 1) acc :=
  ⟨hj, by have := h.few; omega, h.sml, by rw [h.all, ss_dr hj]; show openE _ (if _ then _ else _) = _; rw [if_neg hf]⟩
theorem OpenAt.done {l : List ByteArray} {acc : List ByteArray} (h : OpenAt l l.length acc) : openE l [] = acc := by rw [h.all, List.drop_length]; rfl
theorem small_bsL {a : List (List UInt8)} (h : (putB a).length ≤ 900000) : small (bsL a) := fun s hs => by
  obtain ⟨r, hr, rfl⟩ := List.mem_map.1 hs
  have := putB_mem hr
  rw [bs_size]; omega
set_option maxRecDepth 100000 in
set_option maxHeartbeats 4000000 in
theorem s_ropen (b : List UInt8) (hb : b.length ≤ 900000) : Spec (Ctx.mk Tryd.prog globX (0 + 1) Places) 35 [.v (.string (bs b))] [] (.tup [.agg [.sl .any (ssP (openE (bsL (readE 1000 b).1) []))], .v (.int .i64 ((b.length - (readE 1000 b).2 : Nat) : Int))]) [] := by
  have s1 := s_rread b hb
  obtain ⟨-, h2, h3, t, h4, -⟩ := put_read 1000 b
  generalize readE 1000 b = z at *
  obtain ⟨a, n⟩ := z
  simp only at h2 h3 h4 s1 ⊢
  have hlen := congrArg List.length h4
  rw [List.length_append, ← h3] at hlen
  have hsm := small_bsL (a := a) (by omega)
  have hl : (bsL a).length ≤ 1000 := by rw [bsL_len]; exact h2
  have hsz := bs_size b
  have hw : IntKind.i64.wrap ((((bs b).size : Nat) : Int) - ((n : Nat) : Int)) = ((b.length - n : Nat) : Int) := by rw [hsz, wrap64 (by omega) (by omega)]; omega
  generalize bsL a = l at *
  refine spec_of_bodyL CX_mixed CX_gpk Tryd.func35 rfl 41 0 rfl rfl rfl rfl ?_
  refine go_ ?_
  with_reducible apply run_y
  exact want_
  · intro K hK
    refine ev_ ?_
    refine vcCall_plain (s1) (by kernel_rfl) ?_
    refine ev_ ?_
    exact hK
  refine go_ ?_
  refine c_loop (fun f q m h => ∃ (j : Nat) (acc : List ByteArray), OpenAt l j acc ∧ f = l.length - j ∧
      ((acc = [] ∧ q = [.v (.string (bs b)), .top, .ptr 1 0, .v (.int .i64 0), .sl .any (ssP l), .v (.int .i64 (n : Int)), .ptr 2 0, .v (.int .i64 (j : Int))] ++ List.replicate 33 .top ∧ m = 3 ∧ h = [(1, .cells [.sl .full []]), (2, .cells [.sl .full []])]) ∨
       (acc ≠ [] ∧ q = [.v (.string (bs b)), .top, .ptr 1 0, .v (.int .i64 0), .sl .any (ssP l), .v (.int .i64 (n : Int)), .ptr 2 0, .v (.int .i64 (j : Int))] ++ List.replicate 33 .top ∧ m = 4 ∧ h = [(1, .cells [.sl .full []]), (2, .cells [.sl (.own 3) (ssP acc)]), (3, .row (ssP acc).length 9)])))
    ⟨_, _, _, _, ?_, ?_, ⟨0, [], .zero l, rfl, .inl ⟨rfl, rfl, rfl, rfl⟩⟩⟩ ?_
  · rfl
  · skip
    exact sub_
  · rintro f q m h hlen2 ⟨j, acc, hq, rfl, hc⟩
    clear hlen2
    by_cases hj : j < l.length
    · have g1 : decide ((j : Int) < ((ssP l).length : Int)) = true := decide_eq_true (by rw [ssP_len]; omega)
      have hw1 : IntKind.i64.wrap ((j : Int) + 1) = ((j + 1 : Nat) : Int) := by rw [wrap64 (by omega) (by omega)]; omega
      have so := s_rof (l.getD j ByteArray.empty) (hsm _ (ss_mem hj))
      have sf := s_rfind acc (digE (l.getD j ByteArray.empty)) (by have := hq.few; omega) hq.sml
      have hadd := hq.add hj hsm
      have hold := hq.old hj
      have hfew := hq.few
      rcases hc with ⟨rfl, rfl, rfl, rfl⟩ | ⟨hne, rfl, rfl, rfl⟩
      · have hneg : findE [] (digE (l.getD j ByteArray.empty)) < 0 := by show (-1 : Int) < 0; omega
        have g2 : decide (findE [] (digE (l.getD j ByteArray.empty)) < 0) = true := decide_eq_true hneg
        have hnext := hadd hneg
        clear hadd hold
        refine go_ ?_
        with_reducible apply run_y
        exact want_
        · intro K hK
          refine ev_ ?_
          refine vcCall_plain (so) (by kernel_rfl) ?_
          refine ev_ ?_
          exact hK
        refine go_ ?_
        with_reducible apply run_y
        exact want_
        · intro K hK
          refine ev_ ?_
          refine vcCall_plain (sf) (by kernel_rfl) ?_
          refine ev_ ?_
          exact hK
        refine go_ ?_
        with_reducible apply run_y
        exact want_
        · intro K hK
          refine ev_ ?_
          refine ⟨ssP ([] ++ [l.getD j ByteArray.empty]), ssP_app [] [l.getD j ByteArray.empty], appOk_ss (l := []) (l' := [l.getD j ByteArray.empty]) rfl rfl rfl (by simp), ?_⟩
          conv => whnf
          refine Or.inl ?_
          refine ev_ ?_
          exact hK
        refine go_ ?_
        rw [hw1]
        refine c_round ⟨_, _, _, _, ?_, ?_, ?_, ⟨j + 1, [] ++ [l.getD j ByteArray.empty], hnext, rfl, .inr ⟨by simp, rfl, rfl, rfl⟩⟩⟩
        · omega
        · rfl
        · skip
          exact sub_
      · cases g2 : decide (findE acc (digE (l.getD j ByteArray.empty)) < 0)
        case true =>
          have hnext := hadd (of_decide_eq_true g2)
          clear hadd hold
          refine go_ ?_
          with_reducible apply run_y
          exact want_
          · intro K hK
            refine ev_ ?_
            refine vcCall_plain (so) (by kernel_rfl) ?_
            refine ev_ ?_
            exact hK
          refine go_ ?_
          with_reducible apply run_y
          exact want_
          · intro K hK
            refine ev_ ?_
            refine vcCall_plain (sf) (by kernel_rfl) ?_
            refine ev_ ?_
            exact hK
          refine go_ ?_
          with_reducible apply run_y
          exact want_
          · intro K hK
            refine ev_ ?_
            refine ⟨ssP (acc ++ [l.getD j ByteArray.empty]), ssP_app (acc) ([l.getD j ByteArray.empty]), appOk_ss (l := acc) (l' := [l.getD j ByteArray.empty]) rfl rfl rfl (by simp; omega), ?_⟩
            refine ev_ ?_
            exact hK
          refine go_ ?_
          rw [hw1]
          refine c_round ⟨_, _, _, _, ?_, ?_, ?_, ⟨j + 1, acc ++ [l.getD j ByteArray.empty], hnext, rfl, .inr ⟨by simp, rfl, rfl, rfl⟩⟩⟩
          · omega
          · rfl
          · skip
            exact sub_
        case false =>
          have hnext := hold (of_decide_eq_false g2)
          clear hadd hold
          refine go_ ?_
          with_reducible apply run_y
          exact want_
          · intro K hK
            refine ev_ ?_
            refine vcCall_plain (so) (by kernel_rfl) ?_
            refine ev_ ?_
            exact hK
          refine go_ ?_
          with_reducible apply run_y
          exact want_
          · intro K hK
            refine ev_ ?_
            refine vcCall_plain (sf) (by kernel_rfl) ?_
            refine ev_ ?_
            exact hK
          refine go_ ?_
          rw [hw1]
          refine c_round ⟨_, _, _, _, ?_, ?_, ?_, ⟨j + 1, acc, hnext, rfl, .inr ⟨hne, rfl, rfl, rfl⟩⟩⟩
          · omega
          · rfl
          · skip
            exact sub_
    · have hjl : j = l.length := by have := hq.le; omega
      subst hjl
      have g1 : decide (((l.length : Nat) : Int) < ((ssP l).length : Int)) = false := decide_eq_false (by rw [ssP_len]; omega)
      rw [hq.done]
      rcases hc with ⟨rfl, rfl, rfl, rfl⟩ | ⟨hne, rfl, rfl, rfl⟩
      · skip
        refine go_ ?_
        rw [hw]
        refine ev_ ?_
        exact .mk (by rfl) trivial
      · skip
        refine go_ ?_
        rw [hw]
        refine ev_ ?_
        exact .mk (by rfl) trivial
/-- The map of what was seen. -/
def seenP (acc : List ByteArray) : List (PV × PV) := mdP (acc.map fun a => (digE a, .v (.bool true)))
theorem seen_find (acc : List ByteArray) (d : D) : MapFind Tryd.prog 39 (.agg (us d.1)) (seenP acc) ((acc.map fun a => (digE a, PV.v (.bool true))).findIdx? (fun p => decide (d = p.1))) := mapFind_D d _
theorem seen_idx (acc : List ByteArray) (d : D) : (acc.map fun a => (digE a, PV.v (.bool true))).findIdx? (fun p => decide (d = p.1)) = acc.findIdx? (fun a => decide (digE a = d)) := by
  rw [List.findIdx?_map]
  congr 1
  funext a
  simp [eq_comm]
theorem seen_no {acc : List ByteArray} {d : D} (h : findE acc d < 0) : acc.findIdx? (fun a => decide (digE a = d)) = none := by
  unfold findE at h
  split at h
  · omega
  · assumption
theorem seen_yes {acc : List ByteArray} {d : D} (h : ¬ findE acc d < 0) : ∃ j, j < acc.length ∧ acc.findIdx? (fun a => decide (digE a = d)) = some j := by
  unfold findE at h
  split at h
  · rename_i j hj
    exact ⟨j, (List.findIdx?_eq_some_iff_getElem.1 hj).1, hj⟩
  · omega
theorem seen_set (acc : List ByteArray) (r : ByteArray) : mpSet (seenP acc) none (.agg (dP (digE r))) (.v (.bool true)) = seenP (acc ++ [r]) := by
  unfold mpSet seenP mdP
  simp
theorem seen_get {acc : List ByteArray} {j : Nat} (h : j < acc.length) : (seenP acc)[j]? = some (.agg (dP (digE (acc.getD j ByteArray.empty))), .v (.bool true)) := by
  simp [seenP, mdP, h, List.getD]
set_option maxRecDepth 100000 in
set_option maxHeartbeats 4000000 in
theorem s_open (b : List UInt8) (hb : b.length ≤ 900000) : Spec (Ctx.mk Tryd.prog globX (0 + 1) Places) 17 [.v (.string (bs b))] [] (.tup [.agg [.sl .any (ssP (openE (bsL (readE 1000 b).1) []))], .v (.int .i64 ((b.length - (readE 1000 b).2 : Nat) : Int))]) [] := by
  have s1 := s_read b hb
  obtain ⟨-, h2, h3, t, h4, -⟩ := put_read 1000 b
  generalize readE 1000 b = z at *
  obtain ⟨a, n⟩ := z
  simp only at h2 h3 h4 s1 ⊢
  have hlen := congrArg List.length h4
  rw [List.length_append, ← h3] at hlen
  have hsm := small_bsL (a := a) (by omega)
  have hl : (bsL a).length ≤ 1000 := by rw [bsL_len]; exact h2
  have hsz := bs_size b
  have hw : IntKind.i64.wrap ((((bs b).size : Nat) : Int) - ((n : Nat) : Int)) = ((b.length - n : Nat) : Int) := by rw [hsz, wrap64 (by omega) (by omega)]; omega
  generalize bsL a = l at *
  refine spec_of_bodyL CX_mixed CX_gpk Tryd.func17 rfl 42 0 rfl rfl rfl rfl ?_
  refine go_ ?_
  with_reducible apply run_y
  exact want_
  · intro K hK
    refine ev_ ?_
    refine vcCall_plain (s1) (by kernel_rfl) ?_
    refine ev_ ?_
    exact hK
  refine go_ ?_
  refine c_loop (fun f q m h => ∃ (j : Nat) (acc : List ByteArray), OpenAt l j acc ∧ f = l.length - j ∧
      ((acc = [] ∧ q = [.v (.string (bs b)), .top, .ptr 1 0, .v (.int .i64 0), .top, .v (.int .i64 (n : Int)), .ptr 2 0, .mp 3] ++ List.replicate 9 .top ++ [.sl .any (ssP l), .v (.int .i64 ((ssP l).length : Int)), .v (.int .i64 (j : Int))] ++ List.replicate 22 .top ∧ m = 4 ∧ h = [(1, .cells [.sl .full []]), (2, .cells [.sl .full []]), (3, .mp (seenP []))]) ∨
       (acc ≠ [] ∧ q = [.v (.string (bs b)), .top, .ptr 1 0, .v (.int .i64 0), .top, .v (.int .i64 (n : Int)), .ptr 2 0, .mp 3] ++ List.replicate 9 .top ++ [.sl .any (ssP l), .v (.int .i64 ((ssP l).length : Int)), .v (.int .i64 (j : Int))] ++ List.replicate 22 .top ∧ m = 6 ∧ h = [(1, .cells [.sl .full []]), (2, .cells [.sl (.own 5) (ssP acc)]), (3, .mp (seenP acc)), (5, .row (ssP acc).length 9)])))
    ⟨_, _, _, _, ?_, ?_, ⟨0, [], .zero l, rfl, .inl ⟨rfl, rfl, rfl, rfl⟩⟩⟩ ?_
  · rfl
  · skip
    exact sub_
  · rintro f q m h hlen2 ⟨j, acc, hq, rfl, hc⟩
    clear hlen2
    by_cases hj : j < l.length
    · have g1 : decide ((j : Int) < ((ssP l).length : Int)) = true := decide_eq_true (by rw [ssP_len]; omega)
      have hw1 : IntKind.i64.wrap ((j : Int) + 1) = ((j + 1 : Nat) : Int) := by rw [wrap64 (by omega) (by omega)]; omega
      have so := s_of (l.getD j ByteArray.empty) (hsm _ (ss_mem hj))
      have hf := seen_find acc (digE (l.getD j ByteArray.empty))
      rw [seen_idx] at hf
      have hadd := hq.add hj hsm
      have hold := hq.old hj
      have hfew := hq.few
      rcases hc with ⟨rfl, rfl, rfl, rfl⟩ | ⟨hne, rfl, rfl, rfl⟩
      · have hneg : findE [] (digE (l.getD j ByteArray.empty)) < 0 := by show (-1 : Int) < 0; omega
        have hnext := hadd hneg
        have hno := seen_no hneg
        rw [hno] at hf
        refine go_ ?_
        with_reducible apply run_y
        exact want_
        · intro K hK
          refine ev_ ?_
          refine vcCall_plain (so) (by kernel_rfl) ?_
          refine ev_ ?_
          exact hK
        refine go_ ?_
        conv =>
          pattern (occs := *) (PV.agg (sub _ _ _))
          all_goals change PV.agg (dP (digE (l.getD j ByteArray.empty)))
        with_reducible apply run_y
        exact want_
        · intro K hK
          refine ev_ ?_
          refine ⟨Value.agg (us (digE (l.getD j ByteArray.empty)).1), none, dP_flat _, hf, ?_⟩
          refine ev_ ?_
          exact hK
        refine go_ ?_
        conv =>
          pattern (occs := *) (PV.agg (sub _ _ _))
          all_goals change PV.agg (dP (digE (l.getD j ByteArray.empty)))
        with_reducible apply run_y
        exact want_
        · intro K hK
          refine ev_ ?_
          refine ⟨Value.agg (us (digE (l.getD j ByteArray.empty)).1), none, dP_flat _, hf, ?_⟩
          refine ev_ ?_
          exact hK
        conv =>
          pattern (occs := *) (mpSet _ none _ _)
          all_goals change mpSet (seenP []) none (PV.agg (dP (digE (l.getD j ByteArray.empty)))) (PV.v (Value.bool true))
        rw [seen_set]
        refine go_ ?_
        with_reducible apply run_y
        exact want_
        · intro K hK
          refine ev_ ?_
          refine ⟨ssP ([] ++ [l.getD j ByteArray.empty]), ssP_app [] [l.getD j ByteArray.empty], appOk_ss (l := []) (l' := [l.getD j ByteArray.empty]) rfl rfl rfl (by simp), ?_⟩
          conv => whnf
          refine Or.inl ?_
          refine ev_ ?_
          exact hK
        refine go_ ?_
        rw [hw1]
        refine c_round ⟨_, _, _, _, ?_, ?_, ?_, ⟨j + 1, [] ++ [l.getD j ByteArray.empty], hnext, rfl, .inr ⟨by simp, rfl, rfl, rfl⟩⟩⟩
        · omega
        · rfl
        · skip
          exact sub_
      · cases g2 : decide (findE acc (digE (l.getD j ByteArray.empty)) < 0)
        case true =>
          have hnext := hadd (of_decide_eq_true g2)
          have hno := seen_no (of_decide_eq_true g2)
          rw [hno] at hf
          refine go_ ?_
          with_reducible apply run_y
          exact want_
          · intro K hK
            refine ev_ ?_
            refine vcCall_plain (so) (by kernel_rfl) ?_
            refine ev_ ?_
            exact hK
          refine go_ ?_
          conv =>
            pattern (occs := *) (PV.agg (sub _ _ _))
            all_goals change PV.agg (dP (digE (l.getD j ByteArray.empty)))
          with_reducible apply run_y
          exact want_
          · intro K hK
            refine ev_ ?_
            refine ⟨Value.agg (us (digE (l.getD j ByteArray.empty)).1), none, dP_flat _, hf, ?_⟩
            refine ev_ ?_
            exact hK
          refine go_ ?_
          conv =>
            pattern (occs := *) (PV.agg (sub _ _ _))
            all_goals change PV.agg (dP (digE (l.getD j ByteArray.empty)))
          with_reducible apply run_y
          exact want_
          · intro K hK
            refine ev_ ?_
            refine ⟨Value.agg (us (digE (l.getD j ByteArray.empty)).1), none, dP_flat _, hf, ?_⟩
            refine ev_ ?_
            exact hK
          conv =>
            pattern (occs := *) (mpSet _ none _ _)
            all_goals change mpSet (seenP acc) none (PV.agg (dP (digE (l.getD j ByteArray.empty)))) (PV.v (Value.bool true))
          rw [seen_set]
          refine go_ ?_
          with_reducible apply run_y
          exact want_
          · intro K hK
            refine ev_ ?_
            refine ⟨ssP (acc ++ [l.getD j ByteArray.empty]), ssP_app (acc) ([l.getD j ByteArray.empty]), appOk_ss (l := acc) (l' := [l.getD j ByteArray.empty]) rfl rfl rfl (by simp; omega), ?_⟩
            refine ev_ ?_
            exact hK
          refine go_ ?_
          rw [hw1]
          refine c_round ⟨_, _, _, _, ?_, ?_, ?_, ⟨j + 1, acc ++ [l.getD j ByteArray.empty], hnext, rfl, .inr ⟨by simp, rfl, rfl, rfl⟩⟩⟩
          · omega
          · rfl
          · skip
            exact sub_
        case false =>
          have hnext := hold (of_decide_eq_false g2)
          obtain ⟨k, hk, hyes⟩ := seen_yes (of_decide_eq_false g2)
          rw [hyes] at hf
          have hget := seen_get hk
          refine go_ ?_
          with_reducible apply run_y
          exact want_
          · intro K hK
            refine ev_ ?_
            refine vcCall_plain (so) (by kernel_rfl) ?_
            refine ev_ ?_
            exact hK
          refine go_ ?_
          conv =>
            pattern (occs := *) (PV.agg (sub _ _ _))
            all_goals change PV.agg (dP (digE (l.getD j ByteArray.empty)))
          with_reducible apply run_y
          exact want_
          · intro K hK
            refine ev_ ?_
            refine ⟨Value.agg (us (digE (l.getD j ByteArray.empty)).1), some k, dP_flat _, hf, ?_⟩
            refine ⟨_, _, hget, ?_⟩
            refine ev_ ?_
            exact hK
          refine go_ ?_
          rw [hw1]
          refine c_round ⟨_, _, _, _, ?_, ?_, ?_, ⟨j + 1, acc, hnext, rfl, .inr ⟨hne, rfl, rfl, rfl⟩⟩⟩
          · omega
          · rfl
          · skip
            exact sub_
    · have hjl : j = l.length := by have := hq.le; omega
      subst hjl
      have g1 : decide (((l.length : Nat) : Int) < ((ssP l).length : Int)) = false := decide_eq_false (by rw [ssP_len]; omega)
      rw [hq.done]
      rcases hc with ⟨rfl, rfl, rfl, rfl⟩ | ⟨hne, rfl, rfl, rfl⟩
      · skip
        refine go_ ?_
        rw [hw]
        refine ev_ ?_
        exact .mk (by rfl) trivial
      · skip
        refine go_ ?_
        rw [hw]
        refine ev_ ?_
        exact .mk (by rfl) trivial
end Go.Proofs.YthmepecedjamcaaDoor
