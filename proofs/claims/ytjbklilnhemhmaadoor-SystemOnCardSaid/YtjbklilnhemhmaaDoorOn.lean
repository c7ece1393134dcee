import Derived.Test.YtjbklilnhemhmaaDoorL43c
import Derived.Test.YtjbklilnhemhmaaDoorL43b
import Derived.Test.YtjbklilnhemhmaaDoorOpn
/- The law SystemOn: a store that is filled, its heads, and one whose items were changed. -/
namespace Go.Proofs.YtjbklilnhemhmaaDoor
open Go.RowKit
set_option linter.unnecessarySimpa false
def fillE : List ByteArray → List ByteArray → List ByteArray × Bool
  | s, [] => (s, true)
  | s, a :: l => if (addE s a).2.2 = 0 then fillE (addE s a).1 l else (s, false)
theorem fillE_nil (s : List ByteArray) : fillE s [] = (s, true) := rfl
theorem fillE_cons (s : List ByteArray) (a : ByteArray) (l : List ByteArray) : fillE s (a :: l) = if (addE s a).2.2 = 0 then fillE (addE s a).1 l else (s, false) := rfl
theorem addE_short {n : Nat} {s : List ByteArray} {a : ByteArray} (hs : ∀ x ∈ s, x.size ≤ n) (ha : a.size ≤ n) : ∀ x ∈ (addE s a).1, x.size ≤ n := by
  unfold addE
  split
  · split
    · exact hs
    · intro x hx; cases hx
  · split
    · intro x hx; cases hx
    · intro x hx
      rcases List.mem_append.1 hx with hx | hx
      · exact hs x hx
      · rw [List.mem_singleton.1 hx]; exact ha
theorem addE_long (s : List ByteArray) (a : ByteArray) : (addE s a).1.length ≤ s.length + 1 := by
  unfold addE
  split
  · split <;> simp
  · split <;> simp
theorem fillE_short {n : Nat} : ∀ {l s : List ByteArray}, (∀ x ∈ s, x.size ≤ n) → (∀ x ∈ l, x.size ≤ n) → ∀ x ∈ (fillE s l).1, x.size ≤ n
  | [], s, hs, _ => hs
  | a :: l, s, hs, hl => by
    rw [fillE_cons]
    split
    · exact fillE_short (addE_short hs (hl a (by simp))) (fun x hx => hl x (by simp [hx]))
    · exact hs
theorem fillE_long : ∀ (l s : List ByteArray), (fillE s l).1.length ≤ s.length + l.length
  | [], s => by simp [fillE_nil]
  | a :: l, s => by
    rw [fillE_cons]
    split
    · have h1 := fillE_long l (addE s a).1
      have h2 := addE_long s a
      simp only [List.length_cons]; omega
    · simp
theorem fre_slb (b off n sz : Nat) (es : List (List PV)) : fre b off n sz es (.slb b off n sz) = .sl .any es := by simp [fre, fre1]
theorem ssF_at {l : List ByteArray} {k : Nat} (h : k < l.length) : (ssF l).getD k .top = .v (.string (l.getD k ByteArray.empty)) := by simp [ssF, List.getD, h]
theorem ss_drop {l : List ByteArray} {j : Nat} (h : j < l.length) : l.drop j = l.getD j ByteArray.empty :: l.drop (j + 1) := by
  rw [List.drop_eq_getElem_cons h]; simp [List.getD, h]
def shortE (l : List ByteArray) (j : Nat) : Bool := (l.drop j).all fun s => decide (s.size ≤ 300)
set_option maxRecDepth 100000 in
theorem s_texts (l : List ByteArray) : Spec (Ctx.mk Tryd.prog globX (0 + 1) Places) 17 [.sl .any (ssP l)] [] (.v (.bool (decide (l.length ≤ 12 ∧ ∀ s ∈ l, s.size ≤ 300)))) [] := by
  refine spec_of_bodyL CX_mixed CX_gpk Tryd.func17 rfl 23 0 rfl rfl rfl rfl ?_
  refine go_ ?_
  refine c_loop (fun k q m h => ∃ j : Nat, j ≤ l.length ∧ j ≤ 13 ∧ k = 13 - j ∧ q = [.sl .any (ssP l), .top, .v (.bool false), .v (.int .i64 (j : Int))] ++ List.replicate 19 .top ∧ m = 1 ∧ h = [] ∧ ∀ s ∈ l.take j, s.size ≤ 300)
    ⟨_, _, _, _, ?_, ?_, ⟨0, Nat.zero_le _, by omega, rfl, rfl, rfl, rfl, fun s hs => (by simp at hs)⟩⟩ ?_
  · rfl
  · skip
    exact sub_
  · rintro k q m h hlen ⟨j, hj, hj13, rfl, rfl, rfl, rfl, hb⟩
    clear hlen
    refine go_ ?_
    have fin : ¬ (j < l.length ∧ j < 13) → decide (((ssP l).length : Int) ≤ 12) = decide (l.length ≤ 12 ∧ ∀ s ∈ l, s.size ≤ 300) := fun h => by
      rw [ssP_len, Bool.eq_iff_iff, decide_eq_true_eq, decide_eq_true_eq]
      constructor
      · intro h2
        have : j = l.length := by omega
        subst this
        rw [List.take_length] at hb
        exact ⟨by omega, hb⟩
      · intro h2; have := h2.1; omega
    cases g1 : decide ((j : Int) < ((ssP l).length : Int))
    case false =>
      have hj' : ¬ j < l.length := by have := of_decide_eq_false g1; rw [ssP_len] at this; omega
      rw [← fin (fun h => hj' h.1)]
      refine go_ ?_
      refine ev_ ?_
      exact .mk (by rfl) trivial
    case true =>
      have hj' : j < l.length := by have := of_decide_eq_true g1; rw [ssP_len] at this; omega
      have hdj : j < (ssP l).length := by rw [ssP_len]; exact hj'
      refine go_ ?_
      cases g2 : decide ((j : Int) < 13)
      case false =>
        have hj2 : ¬ j < 13 := by have := of_decide_eq_false g2; omega
        rw [← fin (fun h => hj2 h.2)]
        refine go_ ?_
        refine ev_ ?_
        exact .mk (by rfl) trivial
      case true =>
        have hj2 : j < 13 := by have := of_decide_eq_true g2; omega
        have hw1 : IntKind.i64.wrap ((j : Int) + 1) = ((j + 1 : Nat) : Int) := by rw [wrap64 (by omega) (by omega)]; omega
        have hmem : l.getD j ByteArray.empty ∈ l := by rw [List.getD_eq_getElem?_getD, List.getElem?_eq_getElem hj']; exact List.getElem_mem hj'
        refine go_ ?_
        cases g3 : decide (((l.getD j ByteArray.empty).size : Int) > 300)
        case true =>
          have h3 : ¬ (l.getD j ByteArray.empty).size ≤ 300 := by have := of_decide_eq_true g3; omega
          rw [decide_eq_false (fun h => h3 (h.2 _ hmem))]
          refine go_ ?_
          refine ev_ ?_
          exact .mk (by rfl) trivial
        case false =>
          have h3 : (l.getD j ByteArray.empty).size ≤ 300 := by have := of_decide_eq_false g3; omega
          refine go_ ?_
          rw [hw1]
          refine go_ ?_
          refine c_round ⟨_, _, _, _, ?_, ?_, ?_, ⟨j + 1, hj', by omega, rfl, rfl, rfl, rfl, fun s hs => ?_⟩⟩
          · omega
          · rfl
          · skip
            exact sub_
          · rw [List.take_add_one, List.mem_append] at hs
            rcases hs with hs | hs
            · exact hb s hs
            · rw [List.getElem?_eq_getElem hj'] at hs
              have : s = l.getD j ByteArray.empty := by
                rw [List.getD_eq_getElem?_getD, List.getElem?_eq_getElem hj']; simpa using hs
              rw [this]; exact h3
theorem addE_first (a : ByteArray) : addE [] a = ([a], 0, 0) := by
  have h : findE [] (digE a) = -1 := rfl
  rw [addE_new h (by decide)]; rfl
set_option maxRecDepth 100000 in
theorem s_filled (l : List ByteArray) (h0 : 0 < l.length) (hl : l.length ≤ 12) (hs : ∀ s ∈ l, s.size ≤ 300) : Spec (Ctx.mk Tryd.prog globX (0 + 1) Places) 18 [.sl .any (ssP l)] [] (.tup [.agg [.sl .any (ssP (fillE [] l).1)], .v (.bool (fillE [] l).2)]) [] := by
  have hat : ∀ j, j < l.length → (l.getD j ByteArray.empty).size ≤ 300 := fun j hj => hs _ (by rw [List.getD_eq_getElem?_getD, List.getElem?_eq_getElem hj]; exact List.getElem_mem hj)
  refine spec_of_bodyL CX_mixed CX_gpk Tryd.func18 rfl 30 0 rfl rfl rfl rfl ?_
  refine go_ ?_
  refine c_loop (fun k q m h => ∃ (j : Nat) (s : List ByteArray), j ≤ l.length ∧ k = l.length - j ∧ s.length ≤ j ∧ (∀ x ∈ s, x.size ≤ 300) ∧ fillE [] l = fillE s (l.drop j) ∧ q = [.sl .any (ssP l), .top, .ptr 1 0, .v (.bool false), .ptr 2 0, .v (.int .i64 (j : Int))] ++ List.replicate 24 .top ∧ m = 3 ∧ ((j = 0 ∧ s = [] ∧ h = [(1, .cells [.sl .full []]), (2, .cells [.sl .full []])]) ∨ (0 < j ∧ h = [(1, .cells [.sl .full []]), (2, .cells [.sl .any (ssP s)])])))
    ⟨_, _, _, _, ?_, ?_, ⟨0, [], Nat.zero_le _, rfl, Nat.le_refl _, fun x hx => (by cases hx), rfl, rfl, rfl, .inl ⟨rfl, rfl, rfl⟩⟩⟩ ?_
  · rfl
  · skip
    exact sub_
  · rintro k q m h hlen ⟨j, s, hj, rfl, hsl, hss, he, rfl, rfl, ⟨rfl, rfl, rfl⟩ | ⟨hj0, rfl⟩⟩
    · clear hlen
      have g1 : decide (((0 : Nat) : Int) < ((ssP l).length : Int)) = true := decide_eq_true (by rw [ssP_len]; omega)
      have hdj : 0 < (ssP l).length := by rw [ssP_len]; exact h0
      have sa := s_add [] (l.getD 0 ByteArray.empty) (by decide) (fun x hx => (by cases hx)) (Nat.le_trans (hat 0 h0) (by decide))
      rw [addE_first] at sa
      replace sa : Spec (Ctx.mk Tryd.prog globX (0 + 1) Places) 53 [.agg [.sl .any []], .v (.string (l.getD 0 ByteArray.empty))] [] (.tup [.agg [.sl .any (ssP [l.getD 0 ByteArray.empty])], .v (.int .i64 0), .v (.int .i64 0)]) [] := sa
      have hat0 := hat 0 h0
      refine go_ ?_
      with_reducible apply run_y
      exact want_
      · intro K hK
        refine ev_ ?_
        refine vcCall_plain (sa) (by kernel_rfl) ?_
        refine ev_ ?_
        exact hK
      refine go_ ?_
      refine c_round ⟨_, _, _, _, ?_, ?_, ?_, ⟨1, [l.getD 0 ByteArray.empty], h0, rfl, Nat.le_refl _, fun x hx => by rw [List.mem_singleton.1 hx]; exact hat0, by rw [he, ss_drop (j := 0) h0, fillE_cons, addE_first]; exact if_pos rfl, rfl, rfl, .inr ⟨by omega, rfl⟩⟩⟩
      · omega
      · rfl
      · skip
        exact sub_
    · clear hlen
      refine go_ ?_
      cases g1 : decide ((j : Int) < ((ssP l).length : Int))
      case false =>
        have hj' : ¬ j < l.length := by have := of_decide_eq_false g1; rw [ssP_len] at this; omega
        rw [he, List.drop_eq_nil_of_le (by omega), fillE_nil]
        refine go_ ?_
        refine ev_ ?_
        exact .mk (by rfl) trivial
      case true =>
        have hj' : j < l.length := by have := of_decide_eq_true g1; rw [ssP_len] at this; omega
        have hdj : j < (ssP l).length := by rw [ssP_len]; exact hj'
        have hw1 : IntKind.i64.wrap ((j : Int) + 1) = ((j + 1 : Nat) : Int) := by rw [wrap64 (by omega) (by omega)]; omega
        have ha := hat j hj'
        have sa := s_add s (l.getD j ByteArray.empty) (by omega) (fun x hx => Nat.le_trans (hss x hx) (by decide)) (by omega)
        have h1 := addE_short hss ha
        have h2 := addE_long s (l.getD j ByteArray.empty)
        rw [ss_drop hj', fillE_cons] at he
        generalize addE s (l.getD j ByteArray.empty) = r at *
        obtain ⟨s', i, e⟩ := r
        replace sa : Spec (Ctx.mk Tryd.prog globX (0 + 1) Places) 53 [.agg [.sl .any (ssP s)], .v (.string (l.getD j ByteArray.empty))] [] (.tup [.agg [.sl .any (ssP s')], .v (.int .i64 i), .v (.int .i64 e)]) [] := sa
        replace h1 : ∀ x ∈ s', x.size ≤ 300 := h1
        replace h2 : s'.length ≤ s.length + 1 := h2
        replace he : fillE [] l = if e = 0 then fillE s' (l.drop (j + 1)) else (s, false) := he
        refine go_ ?_
        with_reducible apply run_y
        exact want_
        · intro K hK
          refine ev_ ?_
          refine vcCall_plain (sa) (by kernel_rfl) ?_
          refine ev_ ?_
          exact hK
        refine go_ ?_
        cases g2 : (!(e == 0))
        case true =>
          have h3 : ¬ e = 0 := by simpa using g2
          rw [he, if_neg h3]
          refine go_ ?_
          refine ev_ ?_
          exact .mk (by rfl) trivial
        case false =>
          have h3 : e = 0 := by simpa using g2
          rw [if_pos h3] at he
          refine go_ ?_
          rw [hw1]
          refine go_ ?_
          refine c_round ⟨_, _, _, _, ?_, ?_, ?_, ⟨j + 1, s', hj', rfl, by omega, h1, he, rfl, rfl, .inr ⟨by omega, rfl⟩⟩⟩
          · omega
          · rfl
          · skip
            exact sub_
theorem digsE_succ {l : List ByteArray} {j : Nat} (h : j < l.length) : digsE (l.take (j + 1)) = digsE (l.take j) ++ [digE (l.getD j ByteArray.empty)] := by
  rw [List.take_add_one, List.getElem?_eq_getElem h]
  unfold digsE
  rw [List.map_append]
  simp [List.getD, h]
theorem digsE_len (l : List ByteArray) : (digsE l).length = l.length := List.length_map _
set_option maxRecDepth 100000 in
theorem s_tdigests (l : List ByteArray) (hl : l.length ≤ 1000000) (hs : small l) : Spec (Ctx.mk Tryd.prog globX (0 + 1) Places) 21 [.sl .any (ssP l)] [] (.sl .any (dsP (digsE l))) [] := by
  refine spec_of_bodyL CX_mixed CX_gpk Tryd.func21 rfl 20 0 rfl rfl rfl rfl ?_
  refine go_ ?_
  refine c_loop (fun k q m h => ∃ j : Nat, j ≤ l.length ∧ k = l.length - j ∧ ((j = 0 ∧ q = [.sl .any (ssP l), .top, .top, .sl .full [], .v (.int .i64 (j : Int))] ++ List.replicate 15 .top ∧ m = 1 ∧ h = []) ∨
      (0 < j ∧ q = [.sl .any (ssP l), .top, .top, .sl (.own 1) (dsP (digsE (l.take j))), .v (.int .i64 (j : Int))] ++ List.replicate 15 .top ∧ m = 2 ∧ h = [(1, .row (dsP (digsE (l.take j))).length 30)])))
    ⟨_, _, _, _, ?_, ?_, ⟨0, Nat.zero_le _, rfl, .inl ⟨rfl, rfl, rfl, rfl⟩⟩⟩ ?_
  · rfl
  · skip
    exact sub_
  · rintro k q m h hlen ⟨j, hj, rfl, ⟨rfl, rfl, rfl, rfl⟩ | ⟨hj0, rfl, rfl, rfl⟩⟩
    · clear hlen
      refine go_ ?_
      cases g1 : decide (((0 : Nat) : Int) < ((ssP l).length : Int))
      case false =>
        have hl0 : l.length = 0 := by have := of_decide_eq_false g1; rw [ssP_len] at this; omega
        have : l = [] := List.eq_nil_of_length_eq_zero hl0
        subst this
        refine go_ ?_
        refine ev_ ?_
        exact .mk (by rfl) trivial
      case true =>
        have hj' : 0 < l.length := by have := of_decide_eq_true g1; rw [ssP_len] at this; omega
        have hdj : 0 < (ssP l).length := by rw [ssP_len]; exact hj'
        have e0 : digsE (l.take 1) = [] ++ [digE (l.getD 0 ByteArray.empty)] := digsE_succ hj'
        refine go_ ?_
        with_reducible apply run_y
        exact want_
        · intro K hK
          refine ev_ ?_
          refine vcCall_plain (s_of (l.getD 0 ByteArray.empty) (hs.at 0 hj')) (by kernel_rfl) ?_
          refine ev_ ?_
          exact hK
        refine go_ ?_
        with_reducible apply run_y
        exact want_
        · intro K hK
          refine ev_ ?_
          refine ⟨dsP ([] ++ [digE (l.getD 0 ByteArray.empty)]), dsP_app [] [digE (l.getD 0 ByteArray.empty)], appOk_ds (l := []) (l' := [digE (l.getD 0 ByteArray.empty)]) rfl rfl rfl (by simp), ?_⟩
          conv => whnf
          refine Or.inl ?_
          refine ev_ ?_
          exact hK
        refine go_ ?_
        refine c_round ⟨_, _, _, _, ?_, ?_, ?_, ⟨1, hj', rfl, .inr ⟨by omega, rfl, rfl, rfl⟩⟩⟩
        · omega
        · rfl
        · rw [e0]
          exact sub_
    · clear hlen
      refine go_ ?_
      cases g1 : decide ((j : Int) < ((ssP l).length : Int))
      case true =>
        have hj' : j < l.length := by have := of_decide_eq_true g1; rw [ssP_len] at this; omega
        have hdj : j < (ssP l).length := by rw [ssP_len]; exact hj'
        have hw1 : IntKind.i64.wrap ((j : Int) + 1) = ((j + 1 : Nat) : Int) := by rw [wrap64 (by omega) (by omega)]; omega
        have hdl : (digsE (l.take j)).length = j := by rw [digsE_len, List.length_take]; omega
        refine go_ ?_
        with_reducible apply run_y
        exact want_
        · intro K hK
          refine ev_ ?_
          refine vcCall_plain (s_of (l.getD j ByteArray.empty) (hs.at j hj')) (by kernel_rfl) ?_
          refine ev_ ?_
          exact hK
        refine go_ ?_
        with_reducible apply run_y
        exact want_
        · intro K hK
          refine ev_ ?_
          refine ⟨dsP (digsE (l.take j) ++ [digE (l.getD j ByteArray.empty)]), dsP_app (digsE (l.take j)) ([digE (l.getD j ByteArray.empty)]), appOk_ds (l := digsE (l.take j)) (l' := [digE (l.getD j ByteArray.empty)]) rfl rfl rfl (by simp; omega), ?_⟩
          refine ev_ ?_
          exact hK
        refine go_ ?_
        rw [hw1]
        refine go_ ?_
        refine c_round ⟨_, _, _, _, ?_, ?_, ?_, ⟨j + 1, hj', rfl, .inr ⟨by omega, rfl, rfl, rfl⟩⟩⟩
        · omega
        · rfl
        · rw [digsE_succ hj']
          exact sub_
      case false =>
        have hj' : j = l.length := by have := of_decide_eq_false g1; rw [ssP_len] at this; omega
        subst hj'
        rw [List.take_length]
        refine go_ ?_
        refine ev_ ?_
        exact .mk (by rfl) trivial
/-- A store of as many items has lost what a head of that root says just if the roots are unlike. -/
theorem lost_part {l : List ByteArray} {m : Nat} (h : m ≤ l.length) (r : D) : lostE l (m : Int) r = if rootE noneE (digsE (l.take m)) = r then 0 else 8 := by
  unfold lostE
  rw [if_neg (by omega), if_neg (by omega), Int.toNat_natCast]
/-- Where the digests are unlike, either the roots are, or a clash is told. -/
theorem on_law {a b : List D} (hl : a.length = b.length) (hne : a ≠ b) : (!((((if rootE noneE a = rootE noneE b then (0 : Int) else 8)) == 8) == (clashE noneE a b).2.2)) = true := by
  by_cases hr : rootE noneE a = rootE noneE b
  · rw [if_pos hr, (clashE_spec noneE ⟨hl, hne, hr⟩).1]; rfl
  · rw [if_neg hr, clashE_no noneE (fun h => hr h.2.2)]; rfl
set_option maxRecDepth 100000 in
set_option maxHeartbeats 8000000 in
theorem s_systemOn (l : List ByteArray) (x y : Nat) (hx : x ≤ 255) (hy : y ≤ 255) : Spec (Ctx.mk Tryd.prog globX (0 + 1) Places) 3 [.sl .any (ssP l), .v (.int .u8 (x : Int)), .v (.int .u8 (y : Int))] [] (.v (.bool true)) [] := by
  have qt := s_texts l
  by_cases ht : l.length ≤ 12 ∧ ∀ s ∈ l, s.size ≤ 300
  case neg =>
    rw [decide_eq_false ht] at qt
    refine spec_of_bodyL CX_mixed CX_gpk Tryd.func3 rfl 132 0 rfl rfl rfl rfl ?_
    refine go_ ?_
    with_reducible apply run_y
    exact want_
    · intro K hK
      refine ev_ ?_
      refine vcCall_plain (qt) (by kernel_rfl) ?_
      refine ev_ ?_
      exact hK
    refine go_ ?_
    refine ev_ ?_
    exact .mk (by rfl) trivial
  case pos =>
    rw [decide_eq_true ht] at qt
    have qf := fun h0 => s_filled l h0 ht.1 ht.2
    have f1 : ∀ s ∈ (fillE [] l).1, s.size ≤ 300 := fillE_short (fun s h => (by cases h)) ht.2
    have f2 := fillE_long l []
    generalize fillE [] l = r at *
    obtain ⟨s, ok⟩ := r
    replace qf : 0 < l.length → Spec (Ctx.mk Tryd.prog globX (0 + 1) Places) 18 [.sl .any (ssP l)] [] (.tup [.agg [.sl .any (ssP s)], .v (.bool ok)]) [] := qf
    replace f1 : ∀ x ∈ s, x.size ≤ 300 := f1
    replace f2 : s.length ≤ 12 := by have := ht.1; simp at f2; omega
    clear ht
    refine spec_of_bodyL CX_mixed CX_gpk Tryd.func3 rfl 132 0 rfl rfl rfl rfl ?_
    refine go_ ?_
    with_reducible apply run_y
    exact want_
    · intro K hK
      refine ev_ ?_
      refine vcCall_plain (qt) (by kernel_rfl) ?_
      refine ev_ ?_
      exact hK
    refine go_ ?_
    cases g1 : (((ssP l).length : Int) == 0)
    case true =>
      refine go_ ?_
      refine ev_ ?_
      exact .mk (by rfl) trivial
    case false =>
    replace qf := qf (by
      rcases l with _ | ⟨b, l⟩
      · simp [ssP] at g1
      · simp)
    refine go_ ?_
    cases ok
    case false =>
      with_reducible apply run_y
      exact want_
      · intro K hK
        refine ev_ ?_
        refine vcCall_plain (qf) (by kernel_rfl) ?_
        refine ev_ ?_
        exact hK
      refine go_ ?_
      refine ev_ ?_
      exact .mk (by rfl) trivial
    case true =>
    with_reducible apply run_y
    exact want_
    · intro K hK
      refine ev_ ?_
      refine vcCall_plain (qf) (by kernel_rfl) ?_
      refine ev_ ?_
      exact hK
    refine go_ ?_
    cases g2 : (((ssP s).length : Int) == 0)
    case true =>
      refine go_ ?_
      refine ev_ ?_
      exact .mk (by rfl) trivial
    case false =>
    have hpos : 0 < s.length := by
      rcases s with _ | ⟨b, s⟩
      · simp [ssP] at g2
      · simp
    have hs : small s := fun a h => Nat.le_trans (f1 a h) (by decide)
    have hi : x % s.length < s.length := Nat.mod_lt _ hpos
    have hw : (IntKind.i64.wrap (x : Int)).tmod ((ssP s).length : Int) = ((x % s.length : Nat) : Int) := by
      rw [wrap64 (by omega) (by omega), ssP_len, Int.tmod_eq_emod_of_nonneg (by omega)]
      rfl
    generalize x % s.length = i at *
    have hw1 : IntKind.i64.wrap (1 + (i : Int)) = ((i + 1 : Nat) : Int) := by rw [wrap64 (by omega) (by omega)]; omega
    have hm1 : 1 ≤ i + 1 := by omega
    have hm2 : i + 1 ≤ s.length := hi
    clear hi
    refine go_ ?_
    with_reducible apply run_y
    exact want_
    · intro K hK
      refine ev_ ?_
      refine And.intro (by rw [ssP_len]; omega) ?_
      rw [hw]
      refine ev_ ?_
      exact hK
    with_reducible apply run_y
    exact want_
    · intro K hK
      refine ev_ ?_
      rw [hw1]
      refine ev_ ?_
      exact hK
    generalize i + 1 = m at *
    have hdl := digsE_len s
    have hlt : (s.take m).length = m := by rw [List.length_take]; omega
    have hs2 : small (s.take m) := fun a h => hs a (List.mem_of_mem_take h)
    have hdt : digsE (s.take m) = (digsE s).take m := by unfold digsE; rw [List.map_take]
    have hgl : (goesE noneE (digsE s) m true).length ≤ 11 := goesE_length_le noneE 10 _ _ true (by omega)
    have hc : checkOnE (rootE noneE (digsE (s.take m))) ((s.take m).length : Int) (rootE noneE (digsE s)) (s.length : Int) (goesE noneE (digsE s) m true) = true := by
      rw [hlt, hdt, checkOnE_in (by omega) (by omega) (by omega), ← mcheckOn_rcheckOn _ _ _ _ _ (by omega) (by omega)]
      have hm := mcheckOn_goes noneE (digsE s) m (by omega) (by omega)
      rw [hdl] at hm
      exact hm
    have sh1 := s_shead (s.take m) (by omega) hs2
    have sh2 := s_shead s (by omega) hs
    have sg := s_tdigests s (by omega) hs
    have sp := s_proveOn (digsE s) m hm1 (by omega) (by omega)
    have so := s_hon ((s.take m).length : Int) (s.length : Int) (rootE noneE (digsE (s.take m))) (rootE noneE (digsE s)) (goesE noneE (digsE s) m true) (by omega)
    rw [hc] at so
    have hlo : lostE s ((s.take m).length : Int) (rootE noneE (digsE (s.take m))) = 0 := by rw [hlt, lost_part hm2, if_pos rfl]
    have sl := s_lost s ((s.take m).length : Int) (rootE noneE (digsE (s.take m))) (by omega) (by omega) (by omega) hs
    rw [hlo] at sl
    refine go_ ?_
    with_reducible apply run_y
    exact want_
    · intro K hK
      refine ev_ ?_
      refine ⟨0, m, ssP (s.take m), rfl, rfl, Nat.zero_le _, by rw [ssP_len]; omega, ⟨_, _, rfl, rfl, .inl rfl⟩, ssP_take s m, ?_⟩
      refine ev_ ?_
      exact hK
    refine go_ ?_
    with_reducible apply run_y
    exact want_
    · intro K hK
      refine ev_ ?_
      refine vcCall_plain (sh1) (by kernel_rfl) ?_
      refine ev_ ?_
      exact hK
    refine go_ ?_
    with_reducible apply run_y
    exact want_
    · intro K hK
      refine ev_ ?_
      refine vcCall_plain (sh2) (by kernel_rfl) ?_
      refine ev_ ?_
      exact hK
    refine go_ ?_
    with_reducible apply run_y
    exact want_
    · intro K hK
      refine ev_ ?_
      refine vcCall_plain (sg) (by kernel_rfl) ?_
      refine ev_ ?_
      exact hK
    refine go_ ?_
    with_reducible apply run_y
    exact want_
    · intro K hK
      refine ev_ ?_
      refine vcCall_plain (sp) (by kernel_rfl) ?_
      refine ev_ ?_
      exact hK
    refine go_ ?_
    with_reducible apply run_y
    exact want_
    · intro K hK
      refine ev_ ?_
      refine vcCall_plain (so) (by kernel_rfl) ?_
      refine ev_ ?_
      exact hK
    refine go_ ?_
    with_reducible apply run_y
    exact want_
    · intro K hK
      refine ev_ ?_
      refine vcCall_plain (sl) (by kernel_rfl) ?_
      refine ev_ ?_
      exact hK
    refine go_ ?_
    clear so sp sg sl sh2 sh1 hc hgl hlo
    have hk : y % m < m := Nat.mod_lt _ (by omega)
    have hw2 : (IntKind.i64.wrap (y : Int)).tmod (m : Int) = ((y % m : Nat) : Int) := by
      rw [wrap64 (by omega) (by omega), Int.tmod_eq_emod_of_nonneg (by omega)]
      rfl
    generalize y % m = k at *
    with_reducible apply run_y
    exact want_
    · intro K hK
      refine ev_ ?_
      refine And.intro (by omega) ?_
      rw [hw2]
      refine ev_ ?_
      exact hK
    refine go_ ?_
    with_reducible apply run_y
    exact want_
    · intro K hK
      refine ev_ ?_
      refine ⟨0, m, ssP (s.take m), rfl, rfl, Nat.zero_le _, by rw [ssP_len]; omega, ⟨_, _, rfl, rfl, .inl rfl⟩, ssP_take s m, ?_⟩
      refine ev_ ?_
      exact hK
    refine go_ ?_
    with_reducible apply run_y
    exact want_
    · intro K hK
      refine ev_ ?_
      refine ⟨ssP (s.take m), ssP_app [] (s.take m), appOk_ss (l := []) (l' := s.take m) rfl rfl rfl (by simp; omega), ?_⟩
      conv => whnf
      refine Or.inr ⟨rfl, by rw [ssP_len]; omega, ?_⟩
      rw [ssP_flat]
      refine ev_ ?_
      exact hK
    refine go_ ?_
    with_reducible apply run_y
    exact want_
    · intro K hK
      refine ev_ ?_
      refine ⟨k, rfl, by rw [ssP_len]; omega, rfl, ?_⟩
      refine ev_ ?_
      exact hK
    have hkt : k < (s.take m).length := by omega
    have hat : ((s.take m).getD k ByteArray.empty).size ≤ 300 := f1 _ (List.mem_of_mem_take (by rw [List.getD_eq_getElem?_getD, List.getElem?_eq_getElem hkt]; exact List.getElem_mem hkt))
    have hsz : ((s.take m).getD k ByteArray.empty).size + (ByteArray.mk #[33]).size ≤ 9223372036854775807 := Nat.le_trans (Nat.add_le_add_right hat _) (by decide)
    refine goto_ 15 ?_
    with_reducible apply run_y
    · exact want_
    · intro K hK
      conv => whnf
      refine And.intro (by decide) (And.intro (show 0 + k * 1 < (ssF (s.take m)).length by rw [ssF_len]; omega) ?_)
      show PV.force ((ssF (s.take m)).getD (0 + k * 1) .top) _
      rw [Nat.zero_add, Nat.mul_one, ssF_at hkt]
      refine ev_ ?_
      exact hK
    refine go_ ?_
    with_reducible apply run_y
    exact want_
    · intro K hK
      refine ev_ ?_
      refine ⟨k, rfl, by rw [ssP_len]; omega, rfl, ?_⟩
      refine ev_ ?_
      exact hK
    have hll : ((s.take m).set k ((s.take m).getD k ByteArray.empty ++ ⟨#[33]⟩)).length = m := by rw [List.length_set]; exact hlt
    have hs3 : small ((s.take m).set k ((s.take m).getD k ByteArray.empty ++ ⟨#[33]⟩)) := fun x h => by
      rcases List.mem_or_eq_of_mem_set h with h | rfl
      · exact hs2 x h
      · rw [ByteArray.size_append]; exact Nat.le_trans (Nat.add_le_add_right hat _) (by decide)
    with_reducible apply run_y
    · exact want_
    · intro K hK
      conv => whnf
      refine And.intro (by decide) (And.intro rfl (And.intro (show 0 + k * 1 + 1 ≤ (ssF (s.take m)).length from by rw [ssF_len]; omega) (And.intro rfl ?_)))
      conv in (splice (ssF (s.take m)) _ _) =>
        change splice (ssF (s.take m)) [PV.v (Value.string ((s.take m).getD k ByteArray.empty ++ ⟨#[33]⟩))] (0 + k * 1)
        rw [Nat.zero_add, Nat.mul_one, ssF_set (s.take m) k _ hkt]
      refine ev_ ?_
      exact hK
    generalize (s.take m).set k ((s.take m).getD k ByteArray.empty ++ ⟨#[33]⟩) = l' at *
    refine go_ ?_
    with_reducible apply run_y
    exact want_
    · intro K hK
      refine ev_ ?_
      refine ⟨0, m, ssP (s.take m), rfl, rfl, Nat.zero_le _, by rw [ssP_len]; omega, ⟨_, _, rfl, rfl, .inl rfl⟩, ssP_take s m, ?_⟩
      refine ev_ ?_
      exact hK
    refine go_ ?_
    with_reducible apply run_y
    exact want_
    · intro K hK
      refine ev_ ?_
      refine vcCall_plain (s_tdigests (s.take m) (by omega) hs2) (by kernel_rfl) ?_
      refine ev_ ?_
      exact hK
    refine go_ ?_
    with_reducible apply run_y
    exact want_
    · intro K hK
      refine ev_ ?_
      refine vcCall_frz1 (np := 0) (b := 4) (off := 0) (n' := (ssP (s.take m)).length) (sz := 1) (es := ssP l') (cs := ssF l') (args := [.slb 4 0 (ssP (s.take m)).length 1]) (s_tdigests l' (by omega) hs3) (by decide) (by decide) rfl (ssF_leaf _) (ssF_fits2 _ _ _ (by rw [ssP_len]; omega)) (by rw [List.map_cons, fre_slb]; rfl) (by kernel_rfl) ?_
      rw [ssF_dem]
      refine ev_ ?_
      exact hK
    have hda : (digsE (s.take m)).length = m := by rw [digsE_len]; exact hlt
    have hdb : (digsE l').length = m := by rw [digsE_len]; exact hll
    have ol := on_law (a := digsE (s.take m)) (b := digsE l') (by omega)
    have sr := s_root (digsE l') (by omega)
    have sc := s_clash (digsE (s.take m)) (digsE l') (by omega) (by omega)
    have sl := s_lost s (m : Int) (rootE noneE (digsE l')) (by omega) (by omega) (by omega) hs
    rw [lost_part hm2] at sl
    generalize digsE (s.take m) = da at *
    generalize digsE l' = db at *
    have hka : k < da.length := by omega
    have hkb : k < db.length := by omega
    generalize clashE noneE da db = r at *
    obtain ⟨⟨x0, x1⟩, ⟨y0, y1⟩, ok⟩ := r
    replace ol : da ≠ db → (!((((if rootE noneE da = rootE noneE db then (0 : Int) else 8)) == 8) == ok)) = true := ol
    generalize (if rootE noneE da = rootE noneE db then (0 : Int) else 8) = er at *
    generalize rootE noneE db = rb at *
    refine go_ ?_
    with_reducible apply run_y
    exact want_
    · intro K hK
      refine ev_ ?_
      refine vcCall_plain (sr) (by kernel_rfl) ?_
      refine ev_ ?_
      exact hK
    refine go_ ?_
    with_reducible apply run_y
    exact want_
    · intro K hK
      refine ev_ ?_
      refine vcCall_plain (sc) (by kernel_rfl) ?_
      refine ev_ ?_
      exact hK
    refine go_ ?_
    cases e3 : decide (da.getD k D.zero = db.getD k D.zero)
    case true =>
      refine go_ ?_
      refine ev_ ?_
      exact .mk (vb_eq (by simp)) trivial
    case false =>
      have e4 := ol (fun e => of_decide_eq_false e3 (by rw [e]))
      refine go_ ?_
      with_reducible apply run_y
      exact want_
      · intro K hK
        refine ev_ ?_
        refine vcCall_plain (sl) (by kernel_rfl) ?_
        refine ev_ ?_
        exact hK
      refine go_ ?_
      refine ev_ ?_
      exact .mk (vb_eq (by exact e4)) trivial
theorem systemOn_walk (q0 : PV) (v0 : Value) (q1 : PV) (v1 : Value) (q2 : PV) (v2 : Value) (w : World) (hP : Places w) (i0 : IsV (.sl .str) q0) (r0 : Rep (allOf w) q0 v0) (i1 : IsV (.int .u8) q1) (r1 : Rep (allOf w) q1 v1) (i2 : IsV (.int .u8) q2) (r2 : Rep (allOf w) q2 v2) : Calls Tryd.prog 3 #[v0, v1, v2] w fun e w' => e = .returned (.bool true) ∧ Grow w w' := by
  obtain ⟨es, hn, he, rfl⟩ := i0
  obtain ⟨l, rfl, hl⟩ := is_ss he
  obtain ⟨x, hx, rfl⟩ := i1
  obtain ⟨y, hy, rfl⟩ := i2
  have bx := bounds_u8 hx
  have bY := bounds_u8 hy
  obtain ⟨x, rfl⟩ := Int.eq_ofNat_of_zero_le bx.1
  obtain ⟨y, rfl⟩ := Int.eq_ofNat_of_zero_le bY.1
  exact walk_of (s_systemOn l x y (by omega) (by omega)) hP (args3 r0 r1 r2)
end Go.Proofs.YtjbklilnhemhmaaDoor
