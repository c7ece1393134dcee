/- Trees of digests as plain functions: roots, proofs, how long they are; no program is named here. -/
import Derived.Test.YtamllmoakgnjoaaDoorD
namespace Go.Proofs.YtamllmoakgnjoaaDoor
open Go.RowKit
/-- The greatest power of two below n, of n from 2 on. -/
def halfE (n : Nat) : Nat := 2 ^ (n - 1).log2
theorem halfE_pos (n : Nat) : 0 < halfE n := Nat.two_pow_pos _
theorem halfE_lt {n : Nat} (h : 2 ≤ n) : halfE n < n := by
  have := Nat.log2_self_le (n := n - 1) (by omega)
  unfold halfE; omega
theorem halfE_ge {n : Nat} : n ≤ 2 * halfE n := by
  have := Nat.lt_log2_self (n := n - 1)
  rw [Nat.pow_succ] at this
  unfold halfE; omega
theorem halfE_stop {n j : Nat} (h1 : 2 ^ j < n) (h2 : n ≤ 2 * 2 ^ j) : halfE n = 2 ^ j := by
  have h0 := Nat.two_pow_pos j
  have e : (n - 1).log2 = j := (Nat.log2_eq_iff (by omega)).2 ⟨by omega, by rw [Nat.pow_succ]; omega⟩
  unfold halfE
  rw [e]
theorem halfE_small {n : Nat} (h : n ≤ 2) : halfE n = 1 := by
  have : n = 0 ∨ n = 1 ∨ n = 2 := by omega
  rcases this with rfl | rfl | rfl <;> decide
theorem halfE_le_pow {n j : Nat} (h : 2 ≤ n) (hj : n ≤ 2 ^ (j + 1)) : halfE n ≤ 2 ^ j := by
  unfold halfE
  apply Nat.pow_le_pow_right (by omega)
  have h1 : (n - 1).log2 < j + 1 := (Nat.log2_lt (by omega)).2 (by omega)
  omega
section
variable (e0 : D)
/-- The root of a list; e0: that of none. -/
def rootE (l : List D) : D :=
  if h : 2 ≤ l.length then
    have _h1 := halfE_lt h
    have _h2 := halfE_pos l.length
    pairE (rootE (l.take (halfE l.length))) (rootE (l.drop (halfE l.length)))
  else l.headD e0
termination_by l.length
decreasing_by
  · simp only [List.length_take]; omega
  · simp only [List.length_drop]; omega
theorem rootE_nil : rootE e0 [] = e0 := by unfold rootE; rfl
theorem rootE_one (d : D) : rootE e0 [d] = d := by unfold rootE; rfl
theorem rootE_of_one {l : List D} (h : l.length = 1) : rootE e0 l = l.getD 0 D.zero := by
  match l, h with
  | [d], _ => rw [rootE_one]; rfl
theorem rootE_more {l : List D} (h : 2 ≤ l.length) : rootE e0 l = pairE (rootE e0 (l.take (halfE l.length))) (rootE e0 (l.drop (halfE l.length))) := by
  conv => lhs; unfold rootE
  rw [dif_pos h]
/-- The proof of a place. -/
def wayE (l : List D) (i : Nat) : List D :=
  if h : 2 ≤ l.length then
    have _h1 := halfE_lt h
    have _h2 := halfE_pos l.length
    if i < halfE l.length then wayE (l.take (halfE l.length)) i ++ [rootE e0 (l.drop (halfE l.length))]
    else wayE (l.drop (halfE l.length)) (i - halfE l.length) ++ [rootE e0 (l.take (halfE l.length))]
  else []
termination_by l.length
decreasing_by
  · simp only [List.length_take]; omega
  · simp only [List.length_drop]; omega
theorem wayE_one {l : List D} (i : Nat) (h : l.length < 2) : wayE e0 l i = [] := by
  unfold wayE; rw [dif_neg (by omega)]
theorem wayE_left {l : List D} {i : Nat} (h : 2 ≤ l.length) (hi : i < halfE l.length) : wayE e0 l i = wayE e0 (l.take (halfE l.length)) i ++ [rootE e0 (l.drop (halfE l.length))] := by
  conv => lhs; unfold wayE
  rw [dif_pos h]; simp only [if_pos hi]
theorem wayE_right {l : List D} {i : Nat} (h : 2 ≤ l.length) (hi : ¬ i < halfE l.length) : wayE e0 l i = wayE e0 (l.drop (halfE l.length)) (i - halfE l.length) ++ [rootE e0 (l.take (halfE l.length))] := by
  conv => lhs; unfold wayE
  rw [dif_pos h]; simp only [if_neg hi]
/-- The proof of the first m in a list that is whole, or cut. -/
def goesE (l : List D) (m : Nat) (whole : Bool) : List D :=
  if m = l.length then (if whole then [] else [rootE e0 l])
  else if h : 2 ≤ l.length then
    have _h1 := halfE_lt h
    have _h2 := halfE_pos l.length
    if m ≤ halfE l.length then goesE (l.take (halfE l.length)) m whole ++ [rootE e0 (l.drop (halfE l.length))]
    else goesE (l.drop (halfE l.length)) (m - halfE l.length) false ++ [rootE e0 (l.take (halfE l.length))]
  else []
termination_by l.length
decreasing_by
  · simp only [List.length_take]; omega
  · simp only [List.length_drop]; omega
theorem goesE_all (l : List D) : goesE e0 l l.length true = [] := by unfold goesE; simp
theorem goesE_cut (l : List D) : goesE e0 l l.length false = [rootE e0 l] := by unfold goesE; simp
theorem goesE_left {l : List D} {m : Nat} {b : Bool} (h : 2 ≤ l.length) (hm : m ≠ l.length) (hi : m ≤ halfE l.length) : goesE e0 l m b = goesE e0 (l.take (halfE l.length)) m b ++ [rootE e0 (l.drop (halfE l.length))] := by
  conv => lhs; unfold goesE
  rw [if_neg hm, dif_pos h]; simp only [if_pos hi]
theorem goesE_right {l : List D} {m : Nat} {b : Bool} (h : 2 ≤ l.length) (hm : m ≠ l.length) (hi : ¬ m ≤ halfE l.length) : goesE e0 l m b = goesE e0 (l.drop (halfE l.length)) (m - halfE l.length) false ++ [rootE e0 (l.take (halfE l.length))] := by
  conv => lhs; unfold goesE
  rw [if_neg hm, dif_pos h]; simp only [if_neg hi]
/-- A proof of a list of up to 2^j has at most j digests. -/
theorem wayE_length_le (j : Nat) : ∀ (l : List D) (i : Nat), l.length ≤ 2 ^ j → (wayE e0 l i).length ≤ j := by
  induction j with
  | zero => intro l i h; rw [wayE_one e0 i (by simpa using Nat.lt_of_le_of_lt h (by decide))]; simp
  | succ j ih =>
    intro l i h
    by_cases h2 : 2 ≤ l.length
    · have hk := halfE_le_pow h2 h
      have hl := halfE_lt h2
      have hg := halfE_ge (n := l.length)
      by_cases hi : i < halfE l.length
      · rw [wayE_left e0 h2 hi]
        have := ih (l.take (halfE l.length)) i (by simp only [List.length_take]; omega)
        simp only [List.length_append, List.length_singleton]; omega
      · rw [wayE_right e0 h2 hi]
        have := ih (l.drop (halfE l.length)) (i - halfE l.length) (by simp only [List.length_drop]; omega)
        simp only [List.length_append, List.length_singleton]; omega
    · rw [wayE_one e0 i (by omega)]; simp
theorem goesE_length_le (j : Nat) : ∀ (l : List D) (m : Nat) (b : Bool), l.length ≤ 2 ^ j → (goesE e0 l m b).length ≤ j + 1 := by
  induction j with
  | zero =>
    intro l m b h
    have h1 : l.length ≤ 1 := by simpa using h
    by_cases hm : m = l.length
    · subst hm; cases b
      · rw [goesE_cut]; simp
      · rw [goesE_all]; simp
    · unfold goesE; rw [if_neg hm, dif_neg (by omega)]; simp
  | succ j ih =>
    intro l m b h
    by_cases hm : m = l.length
    · subst hm; cases b
      · rw [goesE_cut]; simp
      · rw [goesE_all]; simp
    · by_cases h2 : 2 ≤ l.length
      · have hk := halfE_le_pow h2 h
        have hl := halfE_lt h2
        have hg := halfE_ge (n := l.length)
        by_cases hi : m ≤ halfE l.length
        · rw [goesE_left e0 h2 hm hi]
          have := ih (l.take (halfE l.length)) m b (by simp only [List.length_take]; omega)
          simp only [List.length_append, List.length_singleton]; omega
        · rw [goesE_right e0 h2 hm hi]
          have := ih (l.drop (halfE l.length)) (m - halfE l.length) false (by simp only [List.length_drop]; omega)
          simp only [List.length_append, List.length_singleton]; omega
      · unfold goesE; rw [if_neg hm, dif_neg (by omega)]; simp
end
end Go.Proofs.YtamllmoakgnjoaaDoor
