import Derived.Test.YthmepecedjamcaaDoorL43c
import Derived.Test.YthmepecedjamcaaDoorL43b
import Derived.Test.YthmepecedjamcaaDoorOpn
/- The law SystemOn: a store that is filled, its heads, and one whose items were changed. -/
namespace Go.Proofs.YthmepecedjamcaaDoor
open Go.RowKit
set_option linter.unnecessarySimpa false
def fillE : List ByteArray → List ByteArray → List ByteArray × Bool
  | s, [] => (s, true)
  | s, a :: l => if (addE s a).2.2 = 0 then fillE (addE s a).1 l else (s, false)
theorem fillE_nil (s : List ByteArray) : fillE s [] = (s, true) := rfl
theorem fillE_cons (s : List ByteArray) (a : ByteArray) (l : List ByteArray) : fillE s (a :: l) = if (addE s a).2.2 = 0 then fillE (addE s a).1 l else (s, false) := rfl
theorem addE_short {n : Nat} {s : List ByteArray} {a : ByteArray} (hs : ∀ x ∈ s, x.size ≤ n) (ha : a.size ≤ n) : ∀ x ∈ (addE s a).1, x.size ≤ n := by
  unfold addE
  split
  · split
    · exact hs
    · intro x hx; cases hx
  · split
    · intro x hx; cases hx
    · intro x hx
      rcases List.mem_append.1 hx with hx | hx
      · exact hs x hx
      · rw [List.mem_singleton.1 hx]; exact ha
theorem addE_long (s : List ByteArray) (a : ByteArray) : (addE s a).1.length ≤ s.length + 1 := by
  unfold addE
  split
  · split <;> simp
  · split <;> simp
theorem fillE_short {n : Nat} : ∀ {l s : List ByteArray}, (∀ x ∈ s, x.size ≤ n) → (∀ x ∈ l, x.size ≤ n) → ∀ x ∈ (fillE s l).1, x.size ≤ n
  | [], s, hs, _ => hs
  | a :: l, s, hs, hl => by
    rw [fillE_cons]
    split
    · exact fillE_short (addE_short hs (hl a (by simp))) (fun x hx => hl x (by simp [hx]))
    · exact hs
theorem fillE_long : ∀ (l s : List ByteArray), (fillE s l).1.length ≤ s.length + l.length
  | [], s => by simp [fillE_nil]
  | a :: l, s => by
    rw [fillE_cons]
    split
    · have h1 := fillE_long l (addE s a).1
      have h2 := addE_long s a
      simp only [List.length_cons]; omega
    · simp
theorem fre_slb (b off n sz : Nat) (es : List (List PV)) : fre b off n sz es (.slb b off n sz) = .sl .any es := by simp [fre, fre1]
theorem ssF_at {l : List ByteArray} {k : Nat} (h : k < l.length) : (ssF l).getD k .top = .v (.string (l.getD k ByteArray.empty)) := by simp [ssF, List.getD, h]
theorem ss_drop {l : List ByteArray} {j : Nat} (h : j < l.length) : l.drop j = l.getD j ByteArray.empty :: l.drop (j + 1) := by
  rw [List.drop_eq_getElem_cons h]; simp [List.getD, h]
def shortE (l : List ByteArray) (j : Nat) : Bool := (l.drop j).all fun s => decide (s.size ≤ 300)
set_option maxRecDepth 100000 in
theorem s_texts (l : List ByteArray) : Spec (Ctx.mk Tryd.prog globX (0 + 1) Places) 14 [.sl .any (ssP l)] [] (.v (.bool (decide (l.length ≤ 12 ∧ ∀ s ∈ l, s.size ≤ 300)))) [] := by
  refine spec_of_bodyL CX_mixed CX_gpk Tryd.func14 rfl 23 0 rfl rfl rfl rfl ?_
  refine go_ ?_
  refine c_loop (fun k q m h => ∃ j : Nat, j ≤ l.length ∧ j ≤ 13 ∧ k = 13 - j ∧ q = [.sl .any (ssP l), .top, .v (.bool false), .v (.int .i64 (j : Int))] ++ List.replicate 19 .top ∧ m = 1 ∧ h = [] ∧ ∀ s ∈ l.take j, s.size ≤ 300)
    ⟨_, _, _, _, ?_, ?_, ⟨0, Nat.zero_le _, by omega, rfl, rfl, rfl, rfl, fun s hs => (by simp at hs)⟩⟩ ?_
  · rfl
  · skip
    exact sub_
  · rintro k q m h hlen ⟨j, hj, hj13, rfl, rfl, rfl, rfl, hb⟩
    clear hlen
    refine go_ ?_
    have fin : ¬ (j < l.length ∧ j < 13) → decide (((ssP l).length : Int) ≤ 12) = decide (l.length ≤ 12 ∧ ∀ s ∈ l, s.size ≤ 300) := fun h => by
      rw [ssP_len, Bool.eq_iff_iff, decide_eq_true_eq, decide_eq_true_eq]
      constructor
      · intro h2
        have : j = l.length := by omega
        subst this
        rw [List.take_length] at hb
        exact ⟨by omega, hb⟩
      · intro h2; have := h2.1; omega
    cases g1 : decide ((j : Int) < ((ssP l).length : Int))
    case false =>
      have hj' : ¬ j < l.length := by have := of_decide_eq_false g1; rw [ssP_len] at this; omega
      rw [← fin (fun h => hj' h.1)]
      refine go_ ?_
      refine ev_ ?_
      exact .mk (by rfl) trivial
    case true =>
      have hj' : j < l.length := by have := of_decide_eq_true g1; rw [ssP_len] at this; omega
      have hdj : j < (ssP l).length := by rw [ssP_len]; exact hj'
      refine go_ ?_
      cases g2 : decide ((j : Int) < 13)
      case false =>
        have hj2 : ¬ j < 13 := by have := of_decide_eq_false g2; omega
        rw [← fin (fun h => hj2 h.2)]
        refine go_ ?_
        refine ev_ ?_
        exact .mk (by rfl) trivial
      case true =>
        have hj2 : j < 13 := by have := of_decide_eq_true g2; omega
        have hw1 : IntKind.i64.wrap ((j : Int) + 1) = ((j + 1 : Nat) : Int) := by rw [wrap64 (by omega) (by omega)]; omega
        have hmem : l.getD j ByteArray.empty ∈ l := by rw [List.getD_eq_getElem?_getD, List.getElem?_eq_getElem hj']; exact List.getElem_mem hj'
        refine go_ ?_
        cases g3 : decide (((l.getD j ByteArray.empty).size : Int) > 300)
        case true =>
          have h3 : ¬ (l.getD j ByteArray.empty).size ≤ 300 := by have := of_decide_eq_true g3; omega
          rw [decide_eq_false (fun h => h3 (h.2 _ hmem))]
          refine go_ ?_
          refine ev_ ?_
          exact .mk (by rfl) trivial
        case false =>
          have h3 : (l.getD j ByteArray.empty).size ≤ 300 := by have := of_decide_eq_false g3; omega
          refine go_ ?_
          rw [hw1]
          refine go_ ?_
          refine c_round ⟨_, _, _, _, ?_, ?_, ?_, ⟨j + 1, hj', by omega, rfl, rfl, rfl, rfl, fun s hs => ?_⟩⟩
          · omega
          · rfl
          · skip
            exact sub_
          · rw [List.take_add_one, List.mem_append] at hs
            rcases hs with hs | hs
            · exact hb s hs
            · rw [List.getElem?_eq_getElem hj'] at hs
              have : s = l.getD j ByteArray.empty := by
                rw [List.getD_eq_getElem?_getD, List.getElem?_eq_getElem hj']; simpa using hs
              rw [this]; exact h3
theorem addE_first (a : ByteArray) : addE [] a = ([a], 0, 0) := by
  have h : findE [] (digE a) = -1 := rfl
  rw [addE_new h (by decide)]; rfl
set_option maxRecDepth 100000 in
theorem s_filled (l : List ByteArray) (h0 : 0 < l.length) (hl : l.length ≤ 12) (hs : ∀ s ∈ l, s.size ≤ 300) : Spec (Ctx.mk Tryd.prog globX (0 + 1) Places) 15 [.sl .any (ssP l)] [] (.tup [.agg [.sl .any (ssP (fillE [] l).1)], .v (.bool (fillE [] l).2)]) [] := by
  have hat : ∀ j, j < l.length → (l.getD j ByteArray.empty).size ≤ 300 := fun j hj => hs _ (by rw [List.getD_eq_getElem?_getD, List.getElem?_eq_getElem hj]; exact List.getElem_mem hj)
  refine spec_of_bodyL CX_mixed CX_gpk Tryd.func15 rfl 30 0 rfl rfl rfl rfl ?_
  refine go_ ?_
  refine c_loop (fun k q m h => ∃ (j : Nat) (s : List ByteArray), j ≤ l.length ∧ k = l.length - j ∧ s.length ≤ j ∧ (∀ x ∈ s, x.size ≤ 300) ∧ fillE [] l = fillE s (l.drop j) ∧ q = [.sl .any (ssP l), .top, .ptr 1 0, .v (.bool false), .ptr 2 0, .v (.int .i64 (j : Int))] ++ List.replicate 24 .top ∧ m = 3 ∧ ((j = 0 ∧ s = [] ∧ h = [(1, .cells [.sl .full []]), (2, .cells [.sl .full []])]) ∨ (0 < j ∧ h = [(1, .cells [.sl .full []]), (2, .cells [.sl .any (ssP s)])])))
    ⟨_, _, _, _, ?_, ?_, ⟨0, [], Nat.zero_le _, rfl, Nat.le_refl _, fun x hx => (by cases hx), rfl, rfl, rfl, .inl ⟨rfl, rfl, rfl⟩⟩⟩ ?_
  · rfl
  · skip
    exact sub_
  · rintro k q m h hlen ⟨j, s, hj, rfl, hsl, hss, he, rfl, rfl, ⟨rfl, rfl, rfl⟩ | ⟨hj0, rfl⟩⟩
    · clear hlen
      have g1 : decide (((0 : Nat) : Int) < ((ssP l).length : Int)) = true := decide_eq_true (by rw [ssP_len]; omega)
      have hdj : 0 < (ssP l).length := by rw [ssP_len]; exact h0
      have sa := s_add [] (l.getD 0 ByteArray.empty) (by decide) (fun x hx => (by cases hx)) (Nat.le_trans (hat 0 h0) (by decide))
      rw [addE_first] at sa
      replace sa : Spec (Ctx.mk Tryd.prog globX (0 + 1) Places) 32 [.agg [.sl .any []], .v (.string (l.getD 0 ByteArray.empty))] [] (.tup [.agg [.sl .any (ssP [l.getD 0 ByteArray.empty])], .v (.int .i64 0), .v (.int .i64 0)]) [] := sa
      have hat0 := hat 0 h0
      refine go_ ?_
      with_reducible apply run_y
      exact want_
      · intro K hK
        refine ev_ ?_
        refine vcCall_plain (sa) (by kernel_rfl) ?_
        refine ev_ ?_
        exact hK
      refine go_ ?_
      refine c_round ⟨_, _, _, _, ?_, ?_, ?_, ⟨1, [l.getD 0 ByteArray.empty], h0, rfl, Nat.le_refl _, fun x hx => by rw [List.mem_singleton.1 hx]; exact hat0, by rw [he, ss_drop (j := 0) h0, fillE_cons, addE_first]; exact if_pos rfl, rfl, rfl, .inr ⟨by omega, rfl⟩⟩⟩
      · omega
      · rfl
      · skip
        exact sub_
    · clear hlen
      refine go_ ?_
      cases g1 : decide ((j : Int) < ((ssP l).length : Int))
      case false =>
        have hj' : ¬ j < l.length := by have := of_decide_eq_false g1; rw [ssP_len] at this; omega
        rw [he, List.drop_eq_nil_of_le (by omega), fillE_nil]
        refine go_ ?_
        refine ev_ ?_
        exact .mk (by rfl) trivial
      case true =>
        have hj' : j < l.length := by have := of_decide_eq_true g1; rw [ssP_len] at this; omega
        have hdj : j < (ssP l).length := by rw [ssP_len]; exact hj'
        have hw1 : IntKind.i64.wrap ((j : Int) + 1) = ((j + 1 : Nat) : Int) := by rw [wrap64 (by omega) (by omega)]; omega
        have ha := hat j hj'
        have sa := s_add s (l.getD j ByteArray.empty) (by omega) (fun x hx => Nat.le_trans (hss x hx) (by decide)) (by omega)
        have h1 := addE_short hss ha
        have h2 := addE_long s (l.getD j ByteArray.empty)
        rw [ss_drop hj', fillE_cons] at he
        generalize addE s (l.getD j ByteArray.empty) = r at *
        obtain ⟨s', i, e⟩ := r
        replace sa : Spec (Ctx.mk Tryd.prog globX (0 + 1) Places) 32 [.agg [.sl .any (ssP s)], .v (.string (l.getD j ByteArray.empty))] [] (.tup [.agg [.sl .any (ssP s')], .v (.int .i64 i), .v (.int .i64 e)]) [] := sa
        replace h1 : ∀ x ∈ s', x.size ≤ 300 := h1
        replace h2 : s'.length ≤ s.length + 1 := h2
        replace he : fillE [] l = if e = 0 then fillE s' (l.drop (j + 1)) else (s, false) := he
        refine go_ ?_
        with_reducible apply run_y
        exact want_
        · intro K hK
          refine ev_ ?_
          refine vcCall_plain (sa) (by kernel_rfl) ?_
          refine ev_ ?_
          exact hK
        refine go_ ?_
        cases g2 : (!(e == 0))
        case true =>
          have h3 : ¬ e = 0 := by simpa using g2
          rw [he, if_neg h3]
          refine go_ ?_
          refine ev_ ?_
          exact .mk (by rfl) trivial
        case false =>
          have h3 : e = 0 := by simpa using g2
          rw [if_pos h3] at he
          refine go_ ?_
          rw [hw1]
          refine go_ ?_
          refine c_round ⟨_, _, _, _, ?_, ?_, ?_, ⟨j + 1, s', hj', rfl, by omega, h1, he, rfl, rfl, .inr ⟨by omega, rfl⟩⟩⟩
          · omega
          · rfl
          · skip
            exact sub_
theorem digsE_succ {l : List ByteArray} {j : Nat} (h : j < l.length) : digsE (l.take (j + 1)) = digsE (l.take j) ++ [digE (l.getD j ByteArray.empty)] := by
  rw [List.take_add_one, List.getElem?_eq_getElem h]
  unfold digsE
  rw [List.map_append]
  simp [List.getD, h]
theorem digsE_len (l : List ByteArray) : (digsE l).length = l.length := List.length_map _
/-- A store of as many items has lost what a head of that root says just if the roots are unlike. -/
theorem lost_part {l : List ByteArray} {m : Nat} (h : m ≤ l.length) (r : D) : lostE l (m : Int) r = if rootE noneE (digsE (l.take m)) = r then 0 else 8 := by
  unfold lostE
  rw [if_neg (by omega), if_neg (by omega), Int.toNat_natCast]
/-- Where the digests are unlike, either the roots are, or a clash is told. -/
theorem on_law {a b : List D} (hl : a.length = b.length) (hne : a ≠ b) : (!((((if rootE noneE a = rootE noneE b then (0 : Int) else 8)) == 8) == (clashE noneE a b).2.2)) = true := by
  by_cases hr : rootE noneE a = rootE noneE b
  · rw [if_pos hr, (clashE_spec noneE ⟨hl, hne, hr⟩).1]; rfl
  · rw [if_neg hr, clashE_no noneE (fun h => hr h.2.2)]; rfl
end Go.Proofs.YthmepecedjamcaaDoor
