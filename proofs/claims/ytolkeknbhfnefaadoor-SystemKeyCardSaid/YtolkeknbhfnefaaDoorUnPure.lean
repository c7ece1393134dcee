/- Of two unlike messages each has a number that is less than the other one's; plain lists, no program. -/
import Derived.Test.YtolkeknbhfnefaaDoorOt
namespace Go.Proofs.YtolkeknbhfnefaaDoor
open Go.RowKit
theorem word_of_digs (w : UInt32) : w.toNat = digN w 0 * 268435456 + digN w 1 * 16777216 + digN w 2 * 1048576 + digN w 3 * 65536 + digN w 4 * 4096 + digN w 5 * 256 + digN w 6 * 16 + digN w 7 := by
  have h := w.toNat_lt
  unfold digN
  simp only [Nat.sub_zero, Nat.reduceSub, Nat.reducePow, Nat.pow_zero, Nat.div_one]
  omega
theorem digsTo_getD (msg : D) (q i : Nat) (hi : i < q) : (digsTo msg q).getD i 0 = digN (msg.1.getD (i / 8) 0) (i % 8) := by
  induction q with
  | zero => omega
  | succ q ih =>
    show (digsTo msg q ++ [digN (msg.1.getD (q / 8) 0) (q % 8)]).getD i 0 = _
    rw [List.getD_eq_getElem?_getD (l := digsTo msg q ++ _)]
    rcases Nat.lt_or_ge i q with h | h
    · rw [List.getElem?_append_left (by rw [digsTo_length]; exact h), ← List.getD_eq_getElem?_getD, ih h]
    · have : i = q := by omega
      subst this
      rw [List.getElem?_append_right (by rw [digsTo_length]; omega), digsTo_length, Nat.sub_self]
      rfl
theorem sumTo_le_of (a b : D) (q : Nat) (h : ∀ i, i < q → digN (b.1.getD (i / 8) 0) (i % 8) ≤ digN (a.1.getD (i / 8) 0) (i % 8)) : sumTo a q ≤ sumTo b q ∧ (sumTo a q = sumTo b q → ∀ i, i < q → digN (a.1.getD (i / 8) 0) (i % 8) = digN (b.1.getD (i / 8) 0) (i % 8)) := by
  induction q with
  | zero => exact ⟨Nat.le_refl _, fun _ i hi => by omega⟩
  | succ q ih =>
    obtain ⟨h1, h2⟩ := ih fun i hi => h i (by omega)
    have h3 := h q (by omega)
    have ha := digN_lt (a.1.getD (q / 8) 0) (q % 8)
    simp only [sumTo]
    refine ⟨by omega, fun e i hi => ?_⟩
    rcases Nat.lt_or_ge i q with hlt | hge
    · exact h2 (by omega) i hlt
    · have : i = q := by omega
      subst this
      omega
theorem stepsE_low (msg : D) (i : Nat) (hi : i < 32) : (stepsE msg).getD i 0 = digN (msg.1.getD (i / 8) 0) (i % 8) := by
  rw [← digsTo_getD msg 32 i hi]
  unfold stepsE
  rw [List.getD_eq_getElem?_getD, List.getElem?_append_left (by rw [digsTo_length]; exact hi), ← List.getD_eq_getElem?_getD]
theorem stepsE_sum (msg : D) : sumTo msg 32 = (stepsE msg).getD 32 0 * 256 + (stepsE msg).getD 33 0 * 16 + (stepsE msg).getD 34 0 := by
  have h := sumTo_le msg 32
  have e : ∀ k, k < 3 → (stepsE msg).getD (32 + k) 0 = [sumTo msg 32 / 256 % 16, sumTo msg 32 / 16 % 16, sumTo msg 32 % 16].getD k 0 := by
    intro k hk
    unfold stepsE
    rw [List.getD_eq_getElem?_getD, List.getElem?_append_right (by rw [digsTo_length]; omega), digsTo_length, Nat.add_sub_cancel_left, ← List.getD_eq_getElem?_getD]
  have e0 := e 0 (by omega)
  have e1 := e 1 (by omega)
  have e2 := e 2 (by omega)
  simp only [Nat.add_zero, List.getD_cons_zero, List.getD_cons_succ, Nat.reduceAdd] at e0 e1 e2
  rw [e0, e1, e2]
  omega
theorem eq_of_digs (a b : D) (h : ∀ i, i < 32 → digN (a.1.getD (i / 8) 0) (i % 8) = digN (b.1.getD (i / 8) 0) (i % 8)) : a = b := by
  have hw : ∀ j, j < 4 → a.1.getD j 0 = b.1.getD j 0 := by
    intro j hj
    have hd : ∀ k, k < 8 → digN (a.1.getD j 0) k = digN (b.1.getD j 0) k := by
      intro k hk
      have := h (8 * j + k) (by omega)
      rwa [show (8 * j + k) / 8 = j by omega, show (8 * j + k) % 8 = k by omega] at this
    apply UInt32.toNat_inj.1
    rw [word_of_digs, word_of_digs (b.1.getD j 0), hd 0 (by omega), hd 1 (by omega), hd 2 (by omega), hd 3 (by omega), hd 4 (by omega), hd 5 (by omega), hd 6 (by omega), hd 7 (by omega)]
  obtain ⟨la, ha⟩ := a
  obtain ⟨lb, hb⟩ := b
  match la, ha, lb, hb with
  | [a0, a1, a2, a3], _, [b0, b1, b2, b3], _ =>
    have h0 := hw 0 (by omega)
    have h1 := hw 1 (by omega)
    have h2 := hw 2 (by omega)
    have h3 := hw 3 (by omega)
    simp at h0 h1 h2 h3
    subst h0 h1 h2 h3
    rfl
/-- If all numbers of b are at most those of a, the messages are the same. -/
theorem eq_of_le (a b : D) (h : ∀ i, i < 35 → (stepsE b).getD i 0 ≤ (stepsE a).getD i 0) : a = b := by
  have h1 := sumTo_le_of a b 32 fun i hi => by rw [← stepsE_low b i hi, ← stepsE_low a i hi]; exact h i (by omega)
  have h2 : sumTo b 32 ≤ sumTo a 32 := by
    rw [stepsE_sum a, stepsE_sum b]
    have := h 32 (by omega)
    have := h 33 (by omega)
    have := h 34 (by omega)
    omega
  exact eq_of_digs a b (h1.2 (by omega))
/-- Has some number of a below the first n one less than b's? -/
def lessTo (a b : D) (n : Nat) : Bool := (List.range n).any fun i => decide ((stepsE a).getD i 0 < (stepsE b).getD i 0)
theorem lessTo_succ (a b : D) (n : Nat) : lessTo a b (n + 1) = (lessTo a b n || decide ((stepsE a).getD n 0 < (stepsE b).getD n 0)) := by
  simp [lessTo, List.range_succ]
theorem lessTo_eq (a b : D) : lessTo a b 35 = !decide (a = b) := by
  by_cases h : a = b
  · subst h
    simp [lessTo]
  · rw [decide_eq_false h]
    rw [Bool.not_false]
    rcases hb : lessTo a b 35 with _ | _
    · exfalso
      refine h (eq_of_le a b fun i hi => ?_)
      have hn : ¬ (stepsE a).getD i 0 < (stepsE b).getD i 0 := fun hlt => by
        have : lessTo a b 35 = true := by
          unfold lessTo
          exact List.any_eq_true.2 ⟨i, List.mem_range.2 hi, decide_eq_true hlt⟩
        rw [hb] at this; cases this
      omega
    · rfl
end Go.Proofs.YtolkeknbhfnefaaDoor
