import Derived.Test.YthmepecedjamcaaDoorJouW
/- Journals of the document: Put and Read, walked over plain values. -/
namespace Go.Proofs.YthmepecedjamcaaDoor
open Go.RowKit
set_option linter.unnecessarySimpa false
theorem putB_snoc {l : List (List UInt8)} {i : Nat} (h : i < l.length) : putB (l.take (i + 1)) = putB (l.take i) ++ (recH (l.getD i []).length ++ (recS (l.getD i []) ++ l.getD i [])) := by
  rw [List.take_add_one, List.getElem?_eq_getElem h, putB_app]
  congr 1
  simp [putB, recB, List.getD, h]
theorem putB_part (l : List (List UInt8)) (i : Nat) : (putB (l.take i)).length ≤ (putB l).length := by
  conv => rhs; rw [← List.take_append_drop i l]
  rw [putB_app, List.length_append]; omega
theorem putB_mem {l : List (List UInt8)} {r : List UInt8} (h : r ∈ l) : 20 + r.length ≤ (putB l).length := by
  obtain ⟨a, b, rfl⟩ := List.append_of_mem h
  rw [putB_app, putB_cons, List.length_append, List.length_append, recB_len]; omega
theorem getD_mem {l : List (List UInt8)} {i : Nat} (h : i < l.length) : l.getD i [] ∈ l := by
  rw [List.getD_eq_getElem?_getD, List.getElem?_eq_getElem h]; exact List.getElem_mem h
set_option maxRecDepth 100000 in
set_option maxHeartbeats 8000000 in
theorem s_rput (l : List (List UInt8)) (hl : l.length ≤ 1000) (hp : (putB l).length ≤ 900000) : Spec (Ctx.mk Tryd.prog globX (0 + 1) Places) 24 [.sl .any (ssP (bsL l))] [] (.tup [.v (.string (bs (putB l))), .v (.int .i64 0)]) [] := by
  have g0 : decide (((ssP (bsL l)).length : Int) > 1000) = false := decide_eq_false (by rw [ssP_len, bsL_len]; omega)
  refine spec_of_bodyL CX_mixed CX_gpk Tryd.func24 rfl 41 0 rfl rfl rfl rfl ?_
  refine go_ ?_
  refine c_loop (fun k q m h => ∃ j : Nat, j ≤ l.length ∧ k = l.length - j ∧ ((j = 0 ∧ q = [.sl .any (ssP (bsL l)), .top, .top, .top, .sl .full [], .v (.int .i64 (j : Int))] ++ List.replicate 35 .top ∧ m = 1 ∧ h = []) ∨
      (0 < j ∧ q = [.sl .any (ssP (bsL l)), .top, .top, .top, .sl (.own 1) (strCells (bs (putB (l.take j)))), .v (.int .i64 (j : Int))] ++ List.replicate 35 .top ∧ m = 2 ∧ h = [(1, .row (strCells (bs (putB (l.take j)))).length 5)])))
    ⟨_, _, _, _, ?_, ?_, ⟨0, Nat.zero_le _, rfl, .inl ⟨rfl, rfl, rfl, rfl⟩⟩⟩ ?_
  · rfl
  · skip
    exact sub_
  · rintro k q m h hlen ⟨j, hj, rfl, hc⟩
    clear hlen
    by_cases hj' : j < l.length
    · have hmem := getD_mem hj'
      have hrl := putB_mem hmem
      have hpp := putB_part l j
      have hsn := putB_snoc hj'
      have hps := putB_part l (j + 1)
      have hat := bsL_at hj'
      have h1 : j < (bsL l).length := by rw [bsL_len]; exact hj'
      have g1 : decide ((j : Int) < ((ssP (bsL l)).length : Int)) = true := decide_eq_true (by rw [ssP_len, bsL_len]; omega)
      have hw1 : IntKind.i64.wrap ((j : Int) + 1) = ((j + 1 : Nat) : Int) := by rw [wrap64 (by omega) (by omega)]; omega
      have sf := s_framed (l.getD j []) (by omega)
      have ss := s_sum (l.getD j []) (by omega)
      have fl : (bs (recF (l.getD j []))).size = 4 + (l.getD j []).length := by rw [bs_size]; unfold recF; rw [List.length_append, recH_len]
      have fx : (bs (recF (l.getD j []))).extract 0 4 = bs (recH (l.getD j []).length) := by rw [bs_extract]; exact congrArg bs (recF_take _)
      have m1 : (bs (recH (l.getD j []).length)).size ≤ maxLen := by rw [bs_size, recH_len]; decide
      have m2 : (bs (recS (l.getD j []))).size ≤ maxLen := by rw [bs_size, recS_len]; decide
      have m3 : (bs (l.getD j [])).size ≤ maxLen := by rw [bs_size]; simp only [maxLen]; omega
      have l1 := recH_len (l.getD j []).length
      have l2 := recS_len (l.getD j [])
      generalize l.getD j [] = r at *
      generalize recH r.length = rh at *
      generalize recS r = rs at *
      rcases hc with ⟨rfl, rfl, rfl, rfl⟩ | ⟨hj0, rfl, rfl, rfl⟩
      · skip
        refine go_ ?_
        rw [hat]
        refine go_ ?_
        with_reducible apply run_y
        exact want_
        · intro K hK
          refine ev_ ?_
          refine vcCall_plain (sf) (by kernel_rfl) ?_
          refine ev_ ?_
          exact hK
        refine go_ ?_
        with_reducible apply run_y
        exact want_
        · intro K hK
          refine ev_ ?_
          refine ⟨0, 4, bs rh, rfl, rfl, Nat.zero_le _, by rw [fl]; omega, Tryd.underlying9, fx, ?_⟩
          refine ev_ ?_
          exact hK
        refine go_ ?_
        with_reducible apply run_y
        exact want_
        · intro K hK
          refine ev_ ?_
          refine ⟨strCells (bs ([] ++ rh)), strCells_app [] rh, appOk_bytes (a := []) (b := rh) rfl rfl (by decide) (by simp; omega), ?_⟩
          conv => whnf
          refine Or.inl ?_
          refine ev_ ?_
          exact hK
        refine go_ ?_
        rw [hat]
        refine go_ ?_
        with_reducible apply run_y
        exact want_
        · intro K hK
          refine ev_ ?_
          refine vcCall_plain (ss) (by kernel_rfl) ?_
          refine ev_ ?_
          exact hK
        refine go_ ?_
        with_reducible apply run_y
        exact want_
        · intro K hK
          refine ev_ ?_
          refine ⟨strCells (bs ([] ++ rh ++ rs)), strCells_app ([] ++ rh) rs, appOk_bytes (a := [] ++ rh) (b := rs) rfl rfl (by decide) (by simp; omega), ?_⟩
          refine ev_ ?_
          exact hK
        refine go_ ?_
        rw [hat]
        refine go_ ?_
        with_reducible apply run_y
        exact want_
        · intro K hK
          refine ev_ ?_
          refine ⟨strCells (bs ([] ++ rh ++ rs ++ r)), strCells_app ([] ++ rh ++ rs) r, appOk_bytes (a := [] ++ rh ++ rs) (b := r) rfl rfl (by decide) (by simp; omega), ?_⟩
          refine ev_ ?_
          exact hK
        refine go_ ?_
        have e9 : [] ++ rh ++ rs ++ r = putB (l.take 1) := by rw [hsn]; simp [putB]
        rw [e9]
        refine c_round ⟨_, _, _, _, ?_, ?_, ?_, ⟨1, hj', rfl, .inr ⟨by omega, rfl, rfl, rfl⟩⟩⟩
        · omega
        · rfl
        · skip
          exact sub_
      · skip
        refine go_ ?_
        rw [hat]
        refine go_ ?_
        with_reducible apply run_y
        exact want_
        · intro K hK
          refine ev_ ?_
          refine vcCall_plain (sf) (by kernel_rfl) ?_
          refine ev_ ?_
          exact hK
        refine go_ ?_
        with_reducible apply run_y
        exact want_
        · intro K hK
          refine ev_ ?_
          refine ⟨0, 4, bs rh, rfl, rfl, Nat.zero_le _, by rw [fl]; omega, Tryd.underlying9, fx, ?_⟩
          refine ev_ ?_
          exact hK
        refine go_ ?_
        with_reducible apply run_y
        exact want_
        · intro K hK
          refine ev_ ?_
          refine ⟨strCells (bs (putB (l.take j) ++ rh)), strCells_app _ rh, appOk_bytes (b := rh) rfl rfl (by decide) (by omega), ?_⟩
          refine ev_ ?_
          exact hK
        refine go_ ?_
        rw [hat]
        refine go_ ?_
        with_reducible apply run_y
        exact want_
        · intro K hK
          refine ev_ ?_
          refine vcCall_plain (ss) (by kernel_rfl) ?_
          refine ev_ ?_
          exact hK
        refine go_ ?_
        with_reducible apply run_y
        exact want_
        · intro K hK
          refine ev_ ?_
          refine ⟨strCells (bs (putB (l.take j) ++ rh ++ rs)), strCells_app _ rs, appOk_bytes (b := rs) rfl rfl (by decide) (by rw [List.length_append]; omega), ?_⟩
          refine ev_ ?_
          exact hK
        refine go_ ?_
        rw [hat]
        refine go_ ?_
        with_reducible apply run_y
        exact want_
        · intro K hK
          refine ev_ ?_
          refine ⟨strCells (bs (putB (l.take j) ++ rh ++ rs ++ r)), strCells_app _ r, appOk_bytes (b := r) rfl rfl (by decide) (by rw [List.length_append, List.length_append]; omega), ?_⟩
          refine ev_ ?_
          exact hK
        refine go_ ?_
        rw [hw1]
        refine go_ ?_
        have e9 : putB (l.take j) ++ rh ++ rs ++ r = putB (l.take (j + 1)) := by rw [hsn]; simp
        rw [e9]
        refine c_round ⟨_, _, _, _, ?_, ?_, ?_, ⟨j + 1, hj', rfl, .inr ⟨by omega, rfl, rfl, rfl⟩⟩⟩
        · omega
        · rfl
        · skip
          exact sub_
    · have hjl : j = l.length := by omega
      subst hjl
      have g1 : decide ((l.length : Int) < ((ssP (bsL l)).length : Int)) = false := decide_eq_false (by rw [ssP_len, bsL_len]; omega)
      rw [List.take_length] at hc
      rcases hc with ⟨h0, rfl, rfl, rfl⟩ | ⟨hj0, rfl, rfl, rfl⟩
      · have : l = [] := List.eq_nil_of_length_eq_zero h0
        subst this
        refine go_ ?_
        with_reducible apply run_y
        exact want_
        · intro K hK
          refine ev_ ?_
          refine ⟨bs [], rfl, ?_⟩
          refine ev_ ?_
          exact hK
        refine go_ ?_
        refine ev_ ?_
        exact .mk (by rfl) trivial
      · skip
        refine go_ ?_
        with_reducible apply run_y
        exact want_
        · intro K hK
          refine ev_ ?_
          refine ⟨bs (putB l), rfl, ?_⟩
          refine ev_ ?_
          exact hK
        refine go_ ?_
        refine ev_ ?_
        exact .mk (by rfl) trivial
set_option maxRecDepth 100000 in
theorem s_rput_no (l : List ByteArray) (hl : ¬ l.length ≤ 1000) : Spec (Ctx.mk Tryd.prog globX (0 + 1) Places) 24 [.sl .any (ssP l)] [] (.tup [.v (.string ⟨#[]⟩), .v (.int .i64 2)]) [] := by
  have g0 : decide (((ssP l).length : Int) > 1000) = true := decide_eq_true (by rw [ssP_len]; omega)
  refine spec_of_bodyL CX_mixed CX_gpk Tryd.func24 rfl 41 0 rfl rfl rfl rfl ?_
  refine go_ ?_
  refine ev_ ?_
  exact .mk (by rfl) trivial
end Go.Proofs.YthmepecedjamcaaDoor
