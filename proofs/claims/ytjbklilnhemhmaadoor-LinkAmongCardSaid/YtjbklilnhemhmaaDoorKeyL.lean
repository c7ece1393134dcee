import Derived.Test.YtjbklilnhemhmaaDoorKeyV
import Derived.Test.YtjbklilnhemhmaaDoorPubN
/- The document's Clash of two ways up, and what the laws of keys ask ahead of all; walked over plain values. -/
namespace Go.Proofs.YtjbklilnhemhmaaDoor
open Go.RowKit
set_option linter.unnecessarySimpa false
theorem clashK_nil (i : Nat) (a : D) (p : List D) (b : D) : clashK i a p b [] = false := by cases p <;> rfl
theorem clashK_nil' (i : Nat) (a : D) (b : D) (q : List D) : clashK i a [] b q = false := by cases q <;> rfl
theorem clashK_odd {i : Nat} (h : i % 2 = 1) (a x : D) (p : List D) (b y : D) (q : List D) : clashK i a (x :: p) b (y :: q) = if (x, a) ≠ (y, b) ∧ pairE x a = pairE y b then true else clashK (i / 2) (pairE x a) p (pairE y b) q := by
  rw [clashK]; simp only [h, if_true]
theorem clashK_even {i : Nat} (h : ¬ i % 2 = 1) (a x : D) (p : List D) (b y : D) (q : List D) : clashK i a (x :: p) b (y :: q) = if (a, x) ≠ (b, y) ∧ pairE a x = pairE b y then true else clashK (i / 2) (pairE a x) p (pairE b y) q := by
  rw [clashK]; simp only [h, if_false]
theorem drop_getD {l : List D} {j : Nat} (h : j < l.length) : l.drop j = l.getD j D.zero :: l.drop (j + 1) := by
  rw [List.drop_eq_getElem_cons h]; simp [List.getD, h]
theorem pair_ne (a b c d : D) : ((a, b) ≠ (c, d)) ↔ (!(decide (a = c) && decide (b = d))) = true := by
  rw [Bool.not_eq_true', Bool.and_eq_false_iff, decide_eq_false_iff_not, decide_eq_false_iff_not, ne_eq, Prod.mk.injEq]
  by_cases h1 : a = c <;> by_cases h2 : b = d <;> simp [h1, h2]
theorem unlike_t {a b c d : D} {x y : D} (h1 : (!(decide (a = c) && decide (b = d))) = true) (h2 : x = y) : ((a, b) ≠ (c, d)) ∧ x = y := ⟨(pair_ne a b c d).2 h1, h2⟩
theorem kcheck_zero (pub seed msg : D) : kcheckE pub msg (ksignE seed 0 0 msg) = decide (publicE (kseedE seed 0) = pub) := by
  have hl : wayE noneE (keysE seed (2 ^ 0)) 0 = [] := List.eq_nil_of_length_eq_zero (way_pow seed (h := 0) (i := 0) (by decide))
  unfold kcheckE ksignE
  simp only [reachP_sign, hl]
  show (decide (0 ≤ 4) && (true && checkE pub ((1 : Nat) : Int) ((0 : Nat) : Int) (publicE (kseedE seed 0)) [])) = _
  rw [checkE_in (by decide) (by decide)]
  unfold rcheckE
  rw [up_pow 0 0 _ [] (by decide) rfl]
  simp only [riseE, Nat.zero_le, decide_true, Bool.true_and]
  congr
theorem kpub_zero (seed : D) : kpubE seed 0 = publicE (kseedE seed 0) := by
  unfold kpubE
  rw [rootE_of_one noneE (keysE_len seed _)]
  exact keysE_at seed (by decide)
theorem ksign_path (seed msg : D) {h i : Nat} (hi : i < 2 ^ h) : (ksignE seed h i msg).2.2.length = h := way_pow seed hi
def msgA : D := ⟨[5, 0, 0, 0], rfl⟩
set_option maxRecDepth 100000 in
theorem s_awake06 : Spec (Ctx.mk Tryd.prog globX (0 + 1) Places) 39 [] [] (.v (.bool true)) [] := by
  have sp := s_kpublic seedA 0
  have sq := s_kpublic seedA 5
  have ss := s_ksign seedA 0 0 msgA
  have st := s_ksign seedA 0 1 msgA
  have sr := s_rseed seedA 0 (by decide)
  have su := s_rpublic (kseedE seedA 0)
  have hc : kcheckE (kpubE seedA 0) msgA (ksignE seedA 0 0 msgA) = true := kcheck_sign seedA msgA (by decide) (by decide)
  have hn : kcheckE seedA msgA (ksignE seedA 0 0 msgA) = false := by rw [kcheck_zero]; exact pubA_ne
  have he := kpub_zero seedA
  have hl : (ksignE seedA 0 0 msgA).2.2.length = 0 := ksign_path seedA msgA (by decide)
  rw [show kpubI seedA 0 = (kpubE seedA 0, 0) from if_pos (by decide)] at sp
  rw [show kpubI seedA 5 = (D.zero, 2) from if_neg (by decide)] at sq
  rw [ksignI_ok (by decide) (by decide)] at ss
  rw [ksignI_arg (by decide) (by decide)] at st
  replace sp : Spec (Ctx.mk Tryd.prog globX (0 + 1) Places) 43 [.agg (dP seedA), .v (.int .i64 0)] [] (.tup [.agg (dP (kpubE seedA 0)), .v (.int .i64 0)]) [] := sp
  replace sq : Spec (Ctx.mk Tryd.prog globX (0 + 1) Places) 43 [.agg (dP seedA), .v (.int .i64 5)] [] (.tup [.agg (dP D.zero), .v (.int .i64 2)]) [] := sq
  replace st : Spec (Ctx.mk Tryd.prog globX (0 + 1) Places) 40 [.agg (dP seedA), .v (.int .i64 0), .v (.int .i64 1), .agg (dP msgA)] [] (.tup [.agg (sgP zeroSg), .v (.int .i64 1)]) [] := st
  replace ss : Spec (Ctx.mk Tryd.prog globX (0 + 1) Places) 40 [.agg (dP seedA), .v (.int .i64 0), .v (.int .i64 0), .agg (dP msgA)] [] (.tup [.agg (sgP (ksignE seedA 0 0 msgA)), .v (.int .i64 0)]) [] := ss
  generalize kpubE seedA 0 = pub at sp hc he
  generalize ksignE seedA 0 0 msgA = sg at ss hc hn hl
  obtain ⟨i, one, path⟩ := sg
  obtain rfl : path = [] := List.eq_nil_of_length_eq_zero hl
  clear hl
  rw [← he] at su
  generalize kseedE seedA 0 = sd at sr su
  clear he
  refine spec_of_bodyL CX_mixed CX_gpk Tryd.func39 rfl 75 0 rfl rfl rfl rfl ?_
  refine go_ ?_
  with_reducible apply run_y
  exact want_
  · intro K hK
    refine ev_ ?_
    refine vcCall_plain (sp) (by kernel_rfl) ?_
    refine ev_ ?_
    exact hK
  refine go_ ?_
  with_reducible apply run_y
  exact want_
  · intro K hK
    refine ev_ ?_
    refine vcCall_plain (ss) (by kernel_rfl) ?_
    refine ev_ ?_
    exact hK
  refine go_ ?_
  with_reducible apply run_y
  exact want_
  · intro K hK
    refine ev_ ?_
    refine vcCall_plain (sq) (by kernel_rfl) ?_
    refine ev_ ?_
    exact hK
  refine go_ ?_
  with_reducible apply run_y
  exact want_
  · intro K hK
    refine ev_ ?_
    refine vcCall_plain (st) (by kernel_rfl) ?_
    refine ev_ ?_
    exact hK
  refine go_ ?_
  rw [dsP_len]
  refine go_ ?_
  with_reducible apply run_y
  exact want_
  · intro K hK
    refine ev_ ?_
    refine vcCall_plain (s_kcheck pub msgA (i, one, []) (Nat.zero_le _)) (by kernel_rfl) ?_
    refine ev_ ?_
    exact hK
  refine go_ ?_
  rw [hc]
  refine go_ ?_
  with_reducible apply run_y
  exact want_
  · intro K hK
    refine ev_ ?_
    refine vcCall_plain (s_kcheck seedA msgA (i, one, []) (Nat.zero_le _)) (by kernel_rfl) ?_
    refine ev_ ?_
    exact hK
  refine go_ ?_
  rw [hn]
  refine go_ ?_
  with_reducible apply run_y
  exact want_
  · intro K hK
    refine ev_ ?_
    refine vcCall_plain (sr) (by kernel_rfl) ?_
    refine ev_ ?_
    exact hK
  refine go_ ?_
  with_reducible apply run_y
  exact want_
  · intro K hK
    refine ev_ ?_
    refine vcCall_plain (su) (by kernel_rfl) ?_
    refine ev_ ?_
    exact hK
  refine go_ ?_
  refine ev_ ?_
  exact .mk (vb_eq (by simp)) trivial
end Go.Proofs.YtjbklilnhemhmaaDoor
